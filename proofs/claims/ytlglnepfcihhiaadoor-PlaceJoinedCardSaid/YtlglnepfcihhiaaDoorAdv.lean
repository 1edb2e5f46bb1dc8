/- The contract of place.Advance. By an AI agent; no person has read it. -/
import Derived.Test.YtlglnepfcihhiaaDoorWhole
import Derived.Test.YtlglnepfcihhiaaDoorHeap
import Derived.Test.YtlglnepfcihhiaaDoorShelf
import Derived.Deep.RegionWith
import Derived.Deep.RegionHeld3
set_option linter.unusedSimpArgs false
set_option linter.unusedVariables false
namespace Go.Proofs.YtlglnepfcihhiaaDoor
open Go Go.RowKit

theorem count_feeds (s : ByteArray) : Lib.countByte s.data.toList 10 = feeds s.data.toList := rfl
theorem getElem!_list (s : ByteArray) (j : Nat) (h : j < s.size) : s.data[j]! = s.data.toList[j]'(by simpa using h) := by
  rw [getElem!_pos s.data j (by simpa using h)]; simp
theorem lineTail_at (l : List UInt8) (k : Nat) (hk : k ≤ l.length) (h0 : k = 0 ∨ l[k - 1]? = some 10) (hn : ∀ j, k ≤ j → j < l.length → l[j]? ≠ some 10) : lineTail l = l.drop k := by
  have hd : feeds (l.drop k) = 0 := by
    unfold feeds; rw [List.count_eq_zero]
    intro hm
    obtain ⟨j, hj, e⟩ := List.getElem_of_mem hm
    simp only [List.length_drop] at hj
    refine hn (k + j) (by omega) (by omega) ?_
    rw [List.getElem_drop] at e
    rw [List.getElem?_eq_getElem (by omega), e]
  rcases h0 with rfl | h0
  · simpa using lineTail_none l (by simpa using hd)
  · by_cases hz : k = 0
    · subst hz; simpa using lineTail_none l (by simpa using hd)
    have hk1 : k - 1 < l.length := (List.getElem?_eq_some_iff.1 h0).1
    have h2 := (List.getElem?_eq_some_iff.1 h0).2
    have e : l = (l.take (k - 1) ++ [10]) ++ l.drop k := by
      conv => lhs; rw [← List.take_append_drop k l]
      congr 1
      rw [← h2, List.take_append_getElem hk1, show k - 1 + 1 = k by omega]
    conv => lhs; rw [e, lineTail_append, if_pos hd, lineTail_append]
    rw [if_neg (by decide)]
    rfl
theorem lastIndex_tail (s : ByteArray) : ∃ k : Nat, k ≤ s.size ∧ Lib.lastIndexByte s 10 = (k : Int) - 1 ∧ lineTail s.data.toList = s.data.toList.drop k := by
  have hl : s.data.toList.length = s.size := by simp
  have key : ∀ j, j < s.size → (s.data.toList[j]? = some 10 ↔ ((s.data[j]!).toNat : Int) = 10) := by
    intro j hj
    rw [getElem!_list s j hj, List.getElem?_eq_getElem (by omega)]
    constructor
    · intro h; injection h with h; rw [h]; rfl
    · intro h; congr 1; rw [← UInt8.toNat_inj]; exact Int.ofNat.inj h
  rcases Lib.lastIndexByte_spec s 10 with ⟨e, hn⟩ | ⟨i, hi, e, hc, hn⟩
  · exact ⟨0, by omega, by omega, lineTail_at _ 0 (by omega) (.inl rfl) fun j _ hj h => hn j (by omega) ((key j (by omega)).1 h)⟩
  · refine ⟨i + 1, by omega, by omega, lineTail_at _ (i + 1) (by omega) (.inr ?_) fun j h1 h2 h => hn j (by omega) (by omega) ((key j (by omega)).1 h)⟩
    rw [show i + 1 - 1 = i by omega]
    exact (key i hi).2 hc

theorem bcell {W w1 : World} (hb : Below W.heap.size W w1) : (∀ b o, b < W.heap.size → w1.cell? ⟨b, o, none⟩ = W.cell? ⟨b, o, none⟩) ∧ (∀ b o, b < W.heap.size → w1.frozen? ⟨b, o, none⟩ = W.frozen? ⟨b, o, none⟩) :=
  ⟨fun b o h => hb.cell (p := ⟨b, o, none⟩) h, fun b o h => hb.frozen (p := ⟨b, o, none⟩) h⟩
/-- A place as a value. -/
abbrev plV (p : Pl) : Value := .agg #[.int .i64 p.at_, .int .i64 p.line, .int .i64 p.col]

set_option maxRecDepth 100000 in
set_option maxHeartbeats 1000000 in
theorem advance_calls (p : Pl) (s : ByteArray) (w : World) (hs : s.size < 4611686018427387904) :
    Calls Tryd.prog 5 #[.agg #[.int .i64 p.at_, .int .i64 p.line, .int .i64 p.col], .string s] w fun e w' => e = .returned (plV (adv p s.data.toList)) ∧ Kp w w' := by
  obtain ⟨k, hk, hL, hT⟩ := lastIndex_tail s
  have c1 := fun w' => Tryd.strings_Count_one s 10 w'
  have c2 := fun w' => Tryd.strings_LastIndexByte s 10 hs w'
  have hm : IntKind.i64.wrap (Lib.lastIndexByte s 10 + 1) = (k : Int) := by rw [hL, IntKind.wrap_i64]; omega
  generalize Lib.lastIndexByte s 10 = m at *
  rw [count_feeds] at c1
  have c3 := fun w' => count_calls (s.extract k s.size) w' (by simp; omega)
  rw [extract_list, ← hT] at c3
  have hadv : adv p s.data.toList = ⟨wrap64 (p.at_ + s.size), wrap64 (p.line + feeds s.data.toList), wrap64 ((if feeds s.data.toList = 0 then p.col else 1) + (chs (lineTail s.data.toList)).length)⟩ := by unfold adv; simp
  have HL := Lib.hid hL
  clear hL hT
  have e1 : (k : Int) ≤ (s.size : Int) := by omega
  by_cases hf : feeds s.data.toList = 0
  · rw [hadv, hf, if_pos rfl, show p.line + ((0 : Nat) : Int) = p.line by omega]
    rw [hf] at c1
    clear hadv hf
    generalize (chs (lineTail s.data.toList)).length = n at *
    go_enter Tryd.func5, Tryd.ntmps5
    go_wp2_with fail
    refine (c1 _).mono ?_
    rintro e w1 ⟨rfl, rfl⟩
    go_wp2_with fail
    go_region_with (first | (go_at_call 10; refine (c2 _).mono ?_; rintro e w1 ⟨rfl, rfl⟩) | (go_at_call 9; refine (c3 _).mono ?_; rintro e w1 ⟨rfl, hk1⟩; obtain ⟨hc, hfz⟩ := bcell hk1; have hsz := hk1.size; simp at hsz))
    all_goals go_wp2
    all_goals (refine bodyPost_ret (v := plV ⟨wrap64 (p.at_ + s.size), wrap64 p.line, wrap64 (p.col + n)⟩) (by simp [results, Tryd.results5, go_sem, hc]) rfl ⟨rfl, ?_⟩)
    all_goals (repeat (first | exact Kp.refl _ | with_reducible apply Kp.drew | with_reducible apply Kp.alloc | (with_reducible refine Kp.setCell ?_ (by first | (simp; done) | (simp; omega)) _) | (with_reducible refine Kp.of ?_ hk1)))
  · rw [hadv, if_neg hf]
    have hf2 : ((feeds s.data.toList : Int) == 0) = false := beq_eq_false_iff_ne.2 (by omega)
    clear hadv hf
    generalize feeds s.data.toList = f at *
    generalize (chs (lineTail s.data.toList)).length = n at *
    go_enter Tryd.func5, Tryd.ntmps5
    go_wp2_with fail
    refine (c1 _).mono ?_
    rintro e w1 ⟨rfl, rfl⟩
    go_wp2_with fail
    go_region_with (first | (go_at_call 10; refine (c2 _).mono ?_; rintro e w1 ⟨rfl, rfl⟩) | (go_at_call 9; refine (c3 _).mono ?_; rintro e w1 ⟨rfl, hk1⟩; obtain ⟨hc, hfz⟩ := bcell hk1; have hsz := hk1.size; simp at hsz))
    all_goals go_wp2
    all_goals (refine bodyPost_ret (v := plV ⟨wrap64 (p.at_ + s.size), wrap64 (p.line + f), wrap64 (1 + n)⟩) (by simp [results, Tryd.results5, go_sem, hc]) rfl ⟨rfl, ?_⟩)
    all_goals (repeat (first | exact Kp.refl _ | with_reducible apply Kp.drew | with_reducible apply Kp.alloc | (with_reducible refine Kp.setCell ?_ (by first | (simp; done) | (simp; omega)) _) | (with_reducible refine Kp.of ?_ hk1)))
end Go.Proofs.YtlglnepfcihhiaaDoor
