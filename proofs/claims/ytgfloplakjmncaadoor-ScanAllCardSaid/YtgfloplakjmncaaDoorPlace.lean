/- The contracts of char.Count, place.Start, place.Advance, place.Of. By an AI agent; no person has read it. -/
import Derived.Test.YtgfloplakjmncaaDoorProg
import Derived.Test.YtgfloplakjmncaaDoorBase
import Derived.Test.YtgfloplakjmncaaDoorTxt
import Derived.WalkKit
import Derived.WalkSpells
import Derived.WalkLawsBesides
import Derived.Lib.Walk
import Derived.Lib.Hide
import Derived.Laws.RangeString
import Derived.Laws.RangeAny
import Derived.LoopTactic
import Derived.Outline
import Derived.Test.YtgfloplakjmncaaDoorShelf
import Derived.Deep.RegionWith
import Derived.Deep.RegionHeld3
set_option linter.unusedSimpArgs false
set_option linter.unusedVariables false
namespace Go.Proofs.YtgfloplakjmncaaDoor
open Go Go.RowKit
set_option maxHeartbeats 1000000 in
theorem start_calls (w : World) : Calls Tryd.prog 13 #[] w fun e w' => e = .returned (.agg #[.int .i64 0, .int .i64 1, .int .i64 1]) ∧ Kp w w' := by
  go_enter Tryd.func13, Tryd.ntmps13
  go_wp2
  exact bodyPost_ret (v := .agg #[.int .i64 0, .int .i64 1, .int .i64 1]) (by simp [results, Tryd.results13, go_sem]) rfl ⟨rfl, (Kp.refl _).alloc _⟩
theorem decode_pos (s : ByteArray) (pos : Nat) (h : pos < s.size) : 1 ≤ (Utf8.decode s pos).2 ∧ pos + (Utf8.decode s pos).2 ≤ s.size := by
  rw [decode_dec s pos h]
  have := dec_width (s.data.toList.drop pos) (by simp; exact h)
  simp at this
  omega
theorem chs_at (s : ByteArray) (pos : Nat) (h : pos < s.size) : chs (s.data.toList.drop pos) = Utf8.decode s pos :: chs (s.data.toList.drop (pos + (Utf8.decode s pos).2)) := by
  rw [chs_cons _ (by simp; exact h), ← decode_dec s pos h, List.drop_drop]
theorem chs_end (s : ByteArray) (pos : Nat) (h : ¬ pos < s.size) : chs (s.data.toList.drop pos) = [] := by
  rw [List.drop_eq_nil_of_le (by simpa using h)]; rfl
set_option maxHeartbeats 4000000 in
/-- char.Count: how many characters there are. -/
theorem count_calls (s : ByteArray) (w : World) (hs : s.size < 9223372036854775807) :
    Calls Tryd.prog 23 #[.string s] w fun e w' => e = .returned (.int .i64 (chs s.data.toList).length) ∧ Kp w w' := by
  go_enter Tryd.func23, Tryd.ntmps23
  go_wp2
  go_loopw [3] (fun n w' => ∃ (pos acc : Nat), w' = w.iter s pos ∧ n = .int .i64 acc ∧ acc + (chs (s.data.toList.drop pos)).length = (chs s.data.toList).length ∧ acc ≤ pos ∧ pos ≤ s.size) (fun _ w' => s.size - w'.iterPos w.heap.size)
  case atStart => exact ⟨0, 0, rfl, rfl, by simp, by omega, by omega⟩
  case round =>
    obtain ⟨pos, acc, rfl, rfl, hc, ha, hb⟩ := hrel
    by_cases hp : pos < s.size
    · have hnx : ∀ ty, (Instr.next (.pointer (some ⟨w.heap.size, 0, none⟩)) true ty).run Tryd.prog (w.iter s pos) = _ := fun ty => run_next_any w s pos ty hp
      have hwd := decode_pos s pos hp
      have hc2 := chs_at s pos hp
      have H := Lib.hid hc2
      clear hc2
      go_wp2
      go_roundw
      case rel =>
        refine ⟨pos + (Utf8.decode s pos).2, acc + 1, rfl, by go_num, ?_, by omega, by omega⟩
        rw [H.out] at hc
        simp only [List.length_cons] at hc
        omega
      case measure =>
        simp
        omega
    · have hnx : ∀ ty, (Instr.next (.pointer (some ⟨w.heap.size, 0, none⟩)) true ty).run Tryd.prog (w.iter s pos) = _ := fun ty => run_next_end w s pos ty hp
      go_wp2
      go_ret
      rw [chs_end s pos hp, List.length_nil, Nat.add_zero] at hc
      subst hc
      exact ⟨rfl, (Kp.refl _).iter _ _⟩
end Go.Proofs.YtgfloplakjmncaaDoor
namespace Go.Proofs.YtgfloplakjmncaaDoor
open Go Go.RowKit
theorem count_feeds (s : ByteArray) : Lib.countByte s.data.toList 10 = feeds s.data.toList := rfl
theorem getElem!_list (s : ByteArray) (j : Nat) (h : j < s.size) : s.data[j]! = s.data.toList[j]'(by simpa using h) := by
  rw [getElem!_pos s.data j (by simpa using h)]; simp
theorem lineTail_at (l : List UInt8) (k : Nat) (hk : k ≤ l.length) (h0 : k = 0 ∨ l[k - 1]? = some 10) (hn : ∀ j, k ≤ j → j < l.length → l[j]? ≠ some 10) : lineTail l = l.drop k := by
  have hd : feeds (l.drop k) = 0 := by
    unfold feeds; rw [List.count_eq_zero]
    intro hm
    obtain ⟨j, hj, e⟩ := List.getElem_of_mem hm
    simp only [List.length_drop] at hj
    refine hn (k + j) (by omega) (by omega) ?_
    rw [List.getElem_drop] at e
    rw [List.getElem?_eq_getElem (by omega), e]
  rcases h0 with rfl | h0
  · simpa using lineTail_none l (by simpa using hd)
  · by_cases hz : k = 0
    · subst hz; simpa using lineTail_none l (by simpa using hd)
    have hk1 : k - 1 < l.length := (List.getElem?_eq_some_iff.1 h0).1
    have h2 := (List.getElem?_eq_some_iff.1 h0).2
    have e : l = (l.take (k - 1) ++ [10]) ++ l.drop k := by
      conv => lhs; rw [← List.take_append_drop k l]
      congr 1
      rw [← h2, List.take_append_getElem hk1, show k - 1 + 1 = k by omega]
    conv => lhs; rw [e, lineTail_append, if_pos hd, lineTail_append]
    rw [if_neg (by decide)]
    rfl
theorem lastIndex_tail (s : ByteArray) : ∃ k : Nat, k ≤ s.size ∧ Lib.lastIndexByte s 10 = (k : Int) - 1 ∧ lineTail s.data.toList = s.data.toList.drop k := by
  have hl : s.data.toList.length = s.size := by simp
  have key : ∀ j, j < s.size → (s.data.toList[j]? = some 10 ↔ ((s.data[j]!).toNat : Int) = 10) := by
    intro j hj
    rw [getElem!_list s j hj, List.getElem?_eq_getElem (by omega)]
    constructor
    · intro h; injection h with h; rw [h]; rfl
    · intro h; congr 1; rw [← UInt8.toNat_inj]; exact Int.ofNat.inj h
  rcases Lib.lastIndexByte_spec s 10 with ⟨e, hn⟩ | ⟨i, hi, e, hc, hn⟩
  · exact ⟨0, by omega, by omega, lineTail_at _ 0 (by omega) (.inl rfl) fun j _ hj h => hn j (by omega) ((key j (by omega)).1 h)⟩
  · refine ⟨i + 1, by omega, by omega, lineTail_at _ (i + 1) (by omega) (.inr ?_) fun j h1 h2 h => hn j (by omega) (by omega) ((key j (by omega)).1 h)⟩
    rw [show i + 1 - 1 = i by omega]
    exact (key i hi).2 hc
theorem bcell {W w1 : World} (hb : Below W.heap.size W w1) : (∀ b o, b < W.heap.size → w1.cell? ⟨b, o, none⟩ = W.cell? ⟨b, o, none⟩) ∧ (∀ b o, b < W.heap.size → w1.frozen? ⟨b, o, none⟩ = W.frozen? ⟨b, o, none⟩) :=
  ⟨fun b o h => hb.cell (p := ⟨b, o, none⟩) h, fun b o h => hb.frozen (p := ⟨b, o, none⟩) h⟩
/-- A place as a value. -/
abbrev plV (p : Pl) : Value := .agg #[.int .i64 p.at_, .int .i64 p.line, .int .i64 p.col]
set_option maxRecDepth 100000 in
set_option maxHeartbeats 1000000 in
theorem advance_calls (p : Pl) (s : ByteArray) (w : World) (hs : s.size < 4611686018427387904) :
    Calls Tryd.prog 15 #[.agg #[.int .i64 p.at_, .int .i64 p.line, .int .i64 p.col], .string s] w fun e w' => e = .returned (plV (adv p s.data.toList)) ∧ Kp w w' := by
  obtain ⟨k, hk, hL, hT⟩ := lastIndex_tail s
  have c1 := fun w' => Tryd.strings_Count_one s 10 w'
  have c2 := fun w' => Tryd.strings_LastIndexByte s 10 hs w'
  have hm : IntKind.i64.wrap (Lib.lastIndexByte s 10 + 1) = (k : Int) := by rw [hL, IntKind.wrap_i64]; omega
  generalize Lib.lastIndexByte s 10 = m at *
  rw [count_feeds] at c1
  have c3 := fun w' => count_calls (s.extract k s.size) w' (by simp; omega)
  rw [extract_list, ← hT] at c3
  have hadv : adv p s.data.toList = ⟨wrap64 (p.at_ + s.size), wrap64 (p.line + feeds s.data.toList), wrap64 ((if feeds s.data.toList = 0 then p.col else 1) + (chs (lineTail s.data.toList)).length)⟩ := by unfold adv; simp
  have HL := Lib.hid hL
  clear hL hT
  have e1 : (k : Int) ≤ (s.size : Int) := by omega
  by_cases hf : feeds s.data.toList = 0
  · rw [hadv, hf, if_pos rfl, show p.line + ((0 : Nat) : Int) = p.line by omega]
    rw [hf] at c1
    clear hadv hf
    generalize (chs (lineTail s.data.toList)).length = n at *
    go_enter Tryd.func15, Tryd.ntmps15
    go_wp2_with fail
    refine (c1 _).mono ?_
    rintro e w1 ⟨rfl, rfl⟩
    go_wp2_with fail
    go_region_with (first | (go_at_call 24; refine (c2 _).mono ?_; rintro e w1 ⟨rfl, rfl⟩) | (go_at_call 23; refine (c3 _).mono ?_; rintro e w1 ⟨rfl, hk1⟩; obtain ⟨hc, hfz⟩ := bcell hk1; have hsz := hk1.size; simp at hsz))
    all_goals go_wp2
    all_goals (refine bodyPost_ret (v := plV ⟨wrap64 (p.at_ + s.size), wrap64 p.line, wrap64 (p.col + n)⟩) (by simp [results, Tryd.results15, go_sem, hc]) rfl ⟨rfl, ?_⟩)
    all_goals (repeat (first | exact Kp.refl _ | with_reducible apply Kp.drew | with_reducible apply Kp.alloc | (with_reducible refine Kp.setCell ?_ (by first | (simp; done) | (simp; omega)) _) | (with_reducible refine Kp.of ?_ hk1)))
  · rw [hadv, if_neg hf]
    have hf2 : ((feeds s.data.toList : Int) == 0) = false := beq_eq_false_iff_ne.2 (by omega)
    clear hadv hf
    generalize feeds s.data.toList = f at *
    generalize (chs (lineTail s.data.toList)).length = n at *
    go_enter Tryd.func15, Tryd.ntmps15
    go_wp2_with fail
    refine (c1 _).mono ?_
    rintro e w1 ⟨rfl, rfl⟩
    go_wp2_with fail
    go_region_with (first | (go_at_call 24; refine (c2 _).mono ?_; rintro e w1 ⟨rfl, rfl⟩) | (go_at_call 23; refine (c3 _).mono ?_; rintro e w1 ⟨rfl, hk1⟩; obtain ⟨hc, hfz⟩ := bcell hk1; have hsz := hk1.size; simp at hsz))
    all_goals go_wp2
    all_goals (refine bodyPost_ret (v := plV ⟨wrap64 (p.at_ + s.size), wrap64 (p.line + f), wrap64 (1 + n)⟩) (by simp [results, Tryd.results15, go_sem, hc]) rfl ⟨rfl, ?_⟩)
    all_goals (repeat (first | exact Kp.refl _ | with_reducible apply Kp.drew | with_reducible apply Kp.alloc | (with_reducible refine Kp.setCell ?_ (by first | (simp; done) | (simp; omega)) _) | (with_reducible refine Kp.of ?_ hk1)))
end Go.Proofs.YtgfloplakjmncaaDoor
namespace Go.Proofs.YtgfloplakjmncaaDoor
open Go Go.RowKit
/-- The begin of a source. -/
abbrev pl1 : Pl := ⟨0, 1, 1⟩
theorem extract_take (s : ByteArray) (k : Nat) : (s.extract 0 k).data.toList = s.data.toList.take k := by
  rw [Lib.extract_data]; simp
set_option maxRecDepth 100000 in
set_option maxHeartbeats 1000000 in
theorem of_calls (s : ByteArray) (k : Nat) (w : World) (hk : k ≤ s.size) (hs : s.size < 4611686018427387904) :
    Calls Tryd.prog 12 #[.string s, .int .i64 k] w fun e w' => e = .returned (.tuple #[plV (adv pl1 (s.data.toList.take k)), .int .i64 0]) ∧ Kp w w' := by
  have c1 := fun w' => advance_calls pl1 (s.extract 0 k) w' (by simp; omega)
  rw [extract_take] at c1
  dsimp only at c1
  have e1 : (0 : Int) ≤ (k : Int) := by omega
  have e2 : (k : Int) ≤ (s.size : Int) := by omega
  generalize adv pl1 (s.data.toList.take k) = q at *
  go_enter Tryd.func12, Tryd.ntmps12
  go_wp2_with fail
  go_region_with (first | (go_at_call 13; refine (start_calls _).mono ?_; rintro e w1 ⟨rfl, hk1⟩; obtain ⟨hc1, hf1⟩ := bcell hk1; have hsz1 := hk1.size; try simp at hsz1; have hlt1 : w.heap.size < w1.heap.size := by omega) | (go_at_call 15; refine (c1 _).mono ?_; rintro e w2 ⟨rfl, hk2⟩; obtain ⟨hc2, hf2⟩ := bcell hk2; have hsz2 := hk2.size; try simp at hsz2; have hlt2 : w.heap.size < w2.heap.size := by omega))
  all_goals go_wp2
  all_goals (refine bodyPost_ret (v := .tuple #[plV q, .int .i64 0]) (by simp [results, Tryd.results12, go_sem, hc1, hc2, hlt1, Act.put]) (by simp [Act.put]) ⟨rfl, ?_⟩)
  all_goals (repeat (first | exact Kp.refl _ | with_reducible apply Kp.drew | with_reducible apply Kp.alloc | (with_reducible refine Kp.setCell ?_ (by first | (simp; done) | (simp; omega)) _) | (with_reducible refine Kp.of ?_ hk2) | (with_reducible refine Kp.of ?_ hk1)))
end Go.Proofs.YtgfloplakjmncaaDoor
