/- The contracts of package class, of char.Next, and of what scan.All calls. By an AI agent; no person has read it. -/
import Derived.Test.YtgfloplakjmncaaDoorScanP
import Derived.Test.YtgfloplakjmncaaDoorBase
import Derived.Laws.Rows
import Derived.Test.YtgfloplakjmncaaDoorShelf
import Derived.Test.YtgfloplakjmncaaDoorTxt
import Derived.LoopN
import Derived.ScopeJumps
import Derived.WalkMore
import Derived.Lib.Bytealg
set_option linter.unusedSimpArgs false
set_option linter.unusedVariables false
namespace Go.Proofs.YtgfloplakjmncaaDoor
open Go Go.RowKit
/-- A variable's block holds these cells. -/
def Tab (w : World) (g : Nat) (l : List (Int × Int)) : Prop := ∃ t fr, w.heap[g]? = some (.cells ((tabCells l).map fun z => Value.int .i64 z).toArray t fr)
theorem Tab.kp {w w' : World} {g : Nat} {l : List (Int × Int)} (h : Tab w g l) (k : Kp w w') : Tab w' g l := by
  obtain ⟨t, fr, h⟩ := h
  exact ⟨t, fr, heap_kp k h⟩
abbrev agg17 : Value := .agg ((tabCells letterTab).map fun z => Value.int .i64 z).toArray
abbrev agg3 : Value := .agg ((tabCells otherTab).map fun z => Value.int .i64 z).toArray
theorem index17 : ∀ (i : Nat), i < 17 → ∀ w : World, (Instr.index 75 agg17 (.int .i64 i)).run Tryd.prog w = .ok (.agg #[.int .i64 (letterTab.getD i (0, 0)).1, .int .i64 (letterTab.getD i (0, 0)).2]) w
  | 0, _, w => by kernel_rfl
  | 1, _, w => by kernel_rfl
  | 2, _, w => by kernel_rfl
  | 3, _, w => by kernel_rfl
  | 4, _, w => by kernel_rfl
  | 5, _, w => by kernel_rfl
  | 6, _, w => by kernel_rfl
  | 7, _, w => by kernel_rfl
  | 8, _, w => by kernel_rfl
  | 9, _, w => by kernel_rfl
  | 10, _, w => by kernel_rfl
  | 11, _, w => by kernel_rfl
  | 12, _, w => by kernel_rfl
  | 13, _, w => by kernel_rfl
  | 14, _, w => by kernel_rfl
  | 15, _, w => by kernel_rfl
  | 16, _, w => by kernel_rfl
  | n + 17, h, w => absurd h (by omega)
theorem index3 : ∀ (i : Nat), i < 3 → ∀ w : World, (Instr.index 87 agg3 (.int .i64 i)).run Tryd.prog w = .ok (.agg #[.int .i64 (otherTab.getD i (0, 0)).1, .int .i64 (otherTab.getD i (0, 0)).2]) w
  | 0, _, w => by kernel_rfl
  | 1, _, w => by kernel_rfl
  | 2, _, w => by kernel_rfl
  | n + 3, h, w => absurd h (by omega)
set_option maxRecDepth 100000 in
set_option maxHeartbeats 1000000 in
theorem letter_calls (p : Int) (w : World) (hT : Tab w 1 letterTab) :
    Calls Tryd.prog 33 #[.int .i64 p] w fun e w' => e = .returned (.bool (letterB p)) ∧ Kp w w' := by
  obtain ⟨tt, fr, hg⟩ := hT
  have HG := Lib.hid hg
  clear hg
  go_enter Tryd.func33, Tryd.ntmps33
  go_wp2_with (refine wpList_load_row rfl 75 _ rfl 1 rfl tt _ fr _ HG.out Tryd.underlying75 rfl (by kernel_rfl) ?_)
  go_loopw [6] (fun v wr => ∃ i : Nat, v = .int .i64 i ∧ i ≤ 17 ∧ Kp w wr ∧ Hid (∀ j, j < i → ¬ ((letterTab.getD j (0, 0)).1 ≤ p ∧ p ≤ (letterTab.getD j (0, 0)).2))) (fun v _ => 17 - (intOf v).toNat)
  case atStart => exact ⟨0, rfl, by omega, Kp.refl _, fun j hj => by omega⟩
  case round =>
    obtain ⟨i, rfl, hi, hk, hn⟩ := hrel
    by_cases hlt : i < 17
    · have e1 : (i : Int) < 17 := by omega
      have hix := fun wx => index17 i hlt wx
      have hyes := inTab_yes letterTab p i hlt
      obtain ⟨z, hzz⟩ : ∃ z, z = letterTab.getD i (0, 0) := ⟨_, rfl⟩
      rw [← hzz] at hix hyes
      have HY := Lib.hid hyes
      have HZ := Lib.hid hzz
      clear hzz hyes
      by_cases h1 : z.1 ≤ p
      · by_cases h2 : p ≤ z.2
        · go_wp2
          go_ret
          exact ⟨ret_bool (HY.out h1 h2 : letterB p = true).symm, hk.alloc _⟩
        · go_wp2
          go_roundw
          case rel => exact ⟨i + 1, by go_num, by omega, hk.alloc _, fun j hj => by
            by_cases hji : j = i
            · rw [hji, ← HZ.out]; exact fun h => h2 h.2
            · exact hn.out j (by omega)⟩
          case measure => simp [intOf]; omega
      · go_wp2
        go_roundw
        case rel => exact ⟨i + 1, by go_num, by omega, hk.alloc _, fun j hj => by
          by_cases hji : j = i
          · rw [hji, ← HZ.out]; exact fun h => h1 h.1
          · exact hn.out j (by omega)⟩
        case measure => simp [intOf]; omega
    · have e1 : ¬ (i : Int) < 17 := by omega
      go_wp2
      go_ret
      exact ⟨ret_bool (inTab_no letterTab p fun j hj => hn.out j (by have : letterTab.length = 17 := rfl; omega) : letterB p = false).symm, hk⟩
set_option maxRecDepth 100000 in
set_option maxHeartbeats 1000000 in
theorem part_calls (p : Int) (w : World) (hT : Tab w 2 otherTab) (hT2 : Tab w 1 letterTab) :
    Calls Tryd.prog 55 #[.int .i64 p] w fun e w' => e = .returned (.bool (partB p)) ∧ Kp w w' := by
  obtain ⟨tt, fr, hg⟩ := hT
  have HG := Lib.hid hg
  clear hg
  go_enter Tryd.func55, Tryd.ntmps55
  go_wp2_with (refine wpList_load_row rfl 87 _ rfl 2 rfl tt _ fr _ HG.out Tryd.underlying87 rfl (by kernel_rfl) ?_)
  go_loopw [6] (fun v wr => ∃ i : Nat, v = .int .i64 i ∧ i ≤ 3 ∧ Kp w wr ∧ Hid (∀ j, j < i → ¬ ((otherTab.getD j (0, 0)).1 ≤ p ∧ p ≤ (otherTab.getD j (0, 0)).2))) (fun v _ => 3 - (intOf v).toNat)
  case atStart => exact ⟨0, rfl, by omega, Kp.refl _, fun j hj => by omega⟩
  case round =>
    obtain ⟨i, rfl, hi, hk, hn⟩ := hrel
    by_cases hlt : i < 3
    · have e1 : (i : Int) < 3 := by omega
      have hix := fun wx => index3 i hlt wx
      have hyes := inTab_yes otherTab p i hlt
      obtain ⟨z, hzz⟩ : ∃ z, z = otherTab.getD i (0, 0) := ⟨_, rfl⟩
      rw [← hzz] at hix hyes
      have HY := Lib.hid hyes
      have HZ := Lib.hid hzz
      clear hzz hyes
      by_cases h1 : z.1 ≤ p
      · by_cases h2 : p ≤ z.2
        · go_wp2
          go_ret
          exact ⟨ret_bool (show true = partB p by unfold partB; rw [show inTab otherTab p = true from HY.out h1 h2]; rfl), hk.alloc _⟩
        · go_wp2
          go_roundw
          case rel => exact ⟨i + 1, by go_num, by omega, hk.alloc _, fun j hj => by
            by_cases hji : j = i
            · rw [hji, ← HZ.out]; exact fun h => h2 h.2
            · exact hn.out j (by omega)⟩
          case measure => simp [intOf]; omega
      · go_wp2
        go_roundw
        case rel => exact ⟨i + 1, by go_num, by omega, hk.alloc _, fun j hj => by
          by_cases hji : j = i
          · rw [hji, ← HZ.out]; exact fun h => h1 h.1
          · exact hn.out j (by omega)⟩
        case measure => simp [intOf]; omega
    · have e1 : ¬ (i : Int) < 3 := by omega
      have hpb : partB p = letterB p := by unfold partB; rw [inTab_no otherTab p fun j hj => hn.out j (by have : otherTab.length = 3 := rfl; omega)]; rfl
      have HP := Lib.hid hpb
      clear hpb
      go_wp2_with (go_at_call 33; refine (letter_calls p _ (hT2.kp hk)).mono ?_; rintro e w1 ⟨rfl, hk1⟩)
      go_ret
      exact ⟨ret_bool HP.out.symm, hk.trans hk1⟩
end Go.Proofs.YtgfloplakjmncaaDoor
namespace Go.Proofs.YtgfloplakjmncaaDoor
open Go Go.RowKit
set_option maxRecDepth 100000 in
set_option maxHeartbeats 1000000 in
theorem keys_calls (w : World) :
    Calls Tryd.prog 78 #[] w fun e w' => e = .returned (.slice (some ⟨w.heap.size, 0, none⟩) 24 24) ∧ Kp w w' ∧ Has w' w.heap.size (keyZs.map Value.string).toArray 9 := by
  go_enter Tryd.func78, Tryd.ntmps78
  go_wp2
  go_ret
  exact ⟨rfl, (Kp.refl _).alloc _, Has.new _ _ _⟩
set_option maxRecDepth 100000 in
set_option maxHeartbeats 1000000 in
theorem isKey_calls (s : ByteArray) (w : World) :
    Calls Tryd.prog 56 #[.string s] w fun e w' => e = .returned (.bool (keyB s)) ∧ Kp w w' := by
  go_enter Tryd.func56, Tryd.ntmps56
  go_wp2_with fail
  refine (keys_calls _).mono ?_
  rintro e w1 ⟨rfl, hk1, hh⟩
  have hc : ∀ j, j < keyZs.length → w1.cell? ⟨w.heap.size, 0 + j, none⟩ = some (.string (keyZs.getD j ByteArray.empty)) := fun j hj => by
    rw [Nat.zero_add, hh.cell j]
    simp [List.getD_eq_getElem?_getD, List.getElem?_eq_getElem hj]
  have cc := Tryd.slices_Contains_string w.heap.size 0 24 24 keyZs s w1 (by decide) (by decide) hc
  rw [show Lib.containsS (keyZs.take 24) s = keyB s from rfl] at cc
  clear hc
  go_wp2_with fail
  refine cc.mono ?_
  rintro e w2 ⟨rfl, rfl⟩
  go_wp2
  go_ret
  exact ⟨rfl, hk1⟩
end Go.Proofs.YtgfloplakjmncaaDoor
namespace Go.Proofs.YtgfloplakjmncaaDoor
open Go Go.RowKit
set_option maxRecDepth 100000 in
set_option maxHeartbeats 1000000 in
theorem sign_calls (s : ByteArray) (k : Nat) (w : World) (hk : k < s.size) :
    Calls Tryd.prog 40 #[.string s, .int .i64 k] w fun e w' => e = .returned (.string (signB (s.extract k s.size))) ∧ Kp w w' := by
  have e1 : (k : Int) < (s.size : Int) := by omega
  have e2 : (k : Int) ≤ (s.size : Int) := by omega
  have hsz : (s.extract k s.size).size = s.size - k := by simp
  have hne : ¬ (s.extract k s.size).size = 0 := by omega
  have HN := Lib.hid hne
  have hpre := fun z w => Tryd.strings_HasPrefix (s.extract k s.size) z w
  have hpos : 0 < (s.extract k s.size).size := by omega
  obtain ⟨c, hcd⟩ : ∃ c, c = (s.extract k s.size).data.toList.getD 0 0 := ⟨_, rfl⟩
  have hget : (s.extract k s.size)[0]'hpos = c := by
    rw [hcd, List.getD_eq_getElem?_getD, List.getElem?_eq_getElem (by simp; omega)]; rfl
  have HC := Lib.hid hcd
  have e3 : (0 : Int) < ((s.extract k s.size).size : Int) := by omega
  have d1 : decide (s.size ≤ k) = false := by simpa using hk
  have d2 : decide ((k : Int) < 0) = false := by simp
  clear hne hsz hcd
  go_enter Tryd.func40, Tryd.ntmps40
  go_wp2
  have hB : Has (w.alloc (.cells #[.string ⟨#[58, 61]⟩, .string ⟨#[46, 46]⟩, .string ⟨#[60, 61]⟩, .string ⟨#[62, 61]⟩] 9)) w.heap.size (twoZs.map Value.string).toArray 9 := Has.new _ _ _
  go_loop [20] (fun v => ∃ i : Nat, v = .int .i64 i ∧ i ≤ 4 ∧ Hid (∀ j (hj : j < twoZs.length), j < i → Lib.hasPrefix (s.extract k s.size).data.toList (twoZs[j]'hj).data.toList = false)) (fun v => 4 - (intOf v).toNat)
  case atStart => exact ⟨0, rfl, by omega, fun j hj h => by omega⟩
  case round =>
    obtain ⟨i, rfl, hi, hn⟩ := hrel
    by_cases hlt : i < 4
    · have e4 : (i : Int) < 4 := by omega
      have hl : i < twoZs.length := hlt
      have hcell := hB.cell i
      rw [show ((twoZs.map Value.string).toArray)[i]? = some (.string (twoZs[i]'hl)) by simp [List.getElem?_eq_getElem hl]] at hcell
      have hp := hpre (twoZs[i]'hl)
      obtain ⟨z, hz⟩ : ∃ z, z = twoZs[i]'hl := ⟨_, rfl⟩
      rw [← hz] at hcell hp
      have HZ := Lib.hid hz
      clear hz
      obtain ⟨b, hb⟩ : ∃ b, b = Lib.hasPrefix (s.extract k s.size).data.toList z.data.toList := ⟨_, rfl⟩
      rw [← hb] at hp
      have HB := Lib.hid hb
      clear hb
      cases b
      · go_wp2_with (go_at_call 38; refine (hp _).mono ?_; rintro e w1 ⟨rfl, rfl⟩)
        go_round
        case rel => exact ⟨i + 1, by go_num, by omega, fun j hj h => by
          by_cases hji : j = i
          · subst hji; rw [← HZ.out]; exact HB.out.symm
          · exact hn.out j hj (by omega)⟩
        case measure => simp [intOf]; omega
      · go_wp2_with (go_at_call 38; refine (hp _).mono ?_; rintro e w1 ⟨rfl, rfl⟩)
        go_ret
        refine ⟨ret_str ?_, (Kp.refl _).alloc _⟩
        unfold signB
        rw [if_neg HN.out, find_at _ twoZs i hl (fun j hj => hn.out j (by omega) hj) (by rw [← HZ.out]; exact HB.out.symm)]
        exact HZ.out
    · have e4 : ¬ (i : Int) < 4 := by omega
      have hib := fun w => Tryd.strings_IndexByte ⟨#[59, 46, 44, 58, 61, 35, 60, 62, 40, 41, 91, 93, 43, 45, 42, 47, 37]⟩ (c.toNat : Int) w
      obtain ⟨x, hx⟩ : ∃ x, x = Lib.indexByte oneSigns c := ⟨_, rfl⟩
      rw [show (c.toNat : Int).toNat.toUInt8 = c by simp, show (⟨#[59, 46, 44, 58, 61, 35, 60, 62, 40, 41, 91, 93, 43, 45, 42, 47, 37]⟩ : ByteArray).data.toList = oneSigns from rfl, ← hx] at hib
      have HX := Lib.hid hx
      clear hx
      have hfin : signB (s.extract k s.size) = if 0 ≤ x then (s.extract k s.size).extract 0 1 else ⟨#[]⟩ := by
        unfold signB
        rw [if_neg HN.out, find_none _ _ (fun j hj => hn.out j hj (by have : twoZs.length = 4 := rfl; omega)), ← HC.out, ← HX.out]
      have HF := Lib.hid hfin
      clear hfin
      by_cases hx0 : 0 ≤ x
      · go_wp2_with (go_at_call 59; refine (hib _).mono ?_; rintro e w1 ⟨rfl, rfl⟩)
        go_ret
        exact ⟨ret_str (by rw [HF.out, if_pos hx0]), (Kp.refl _).alloc _⟩
      · go_wp2_with (go_at_call 59; refine (hib _).mono ?_; rintro e w1 ⟨rfl, rfl⟩)
        go_ret
        exact ⟨ret_str (by rw [HF.out, if_neg (by omega)]), (Kp.refl _).alloc _⟩
end Go.Proofs.YtgfloplakjmncaaDoor
namespace Go.Proofs.YtgfloplakjmncaaDoor
open Go Go.RowKit
theorem runeLen_of (v : Nat) (h : Utf8.valid (v : Int) = true) : Lib.runeLen (v : Int) = (lenOf v : Int) := by
  rw [valid_iff] at h
  unfold Lib.runeLen lenOf
  rw [if_neg (by omega)]
  by_cases h1 : v < 128
  · rw [if_pos (by omega), if_pos h1]; rfl
  · rw [if_neg (by omega), if_neg h1]
    by_cases h2 : v < 2048
    · rw [if_pos (by omega), if_pos h2]; rfl
    · rw [if_neg (by omega), if_neg h2, if_neg (by omega)]
      by_cases h3 : v < 65536
      · rw [if_pos (by omega), if_pos h3]; rfl
      · rw [if_neg (by omega), if_neg h3, if_pos (by omega)]; rfl
/-- The value of what char.Next tells. -/
abbrev nextV (x : Nat × Nat × Bool) : Value := .tuple #[.int .i64 x.1, .int .i64 x.2.1, .bool x.2.2]
set_option maxRecDepth 100000 in
set_option maxHeartbeats 1000000 in
theorem next_calls (s : ByteArray) (k : Nat) (w : World) (hk : k ≤ s.size) (hs : s.size < 4611686018427387904) :
    Calls Tryd.prog 54 #[.string s, .int .i64 k] w fun e w' => e = .returned (nextV (nextL (s.data.toList.drop k))) ∧ Kp w w' := by
  have hl : s.data.toList.length = s.size := by simp
  rcases Nat.lt_or_ge k s.size with hlt | hge
  · have htl := extract_list s k
    have hne : s.data.toList.drop k ≠ [] := by simp; omega
    have hts : 0 < (s.extract k s.size).size := by simp; omega
    have hdec : Utf8.decode (s.extract k s.size) 0 = dec (s.data.toList.drop k) := by rw [decode_dec _ 0 hts, htl]; simp
    have hle := dec_le (s.data.toList.drop k)
    have hpre := fun w => Tryd.strings_HasPrefix (s.extract k s.size) ⟨#[239, 191, 189]⟩ w
    have hlen := fun w => Tryd.utf8_RuneLen ((dec (s.data.toList.drop k)).1 : Int) w
    have e1 : (k : Int) < (s.size : Int) := by omega
    have e2 : (k : Int) ≤ (s.size : Int) := by omega
    have hnx := fun ty => run_next_any (P := Tryd.prog) w (s.extract k s.size) 0 ty hts
    rw [hdec] at hnx
    rw [show (⟨#[239, 191, 189]⟩ : ByteArray).data.toList = [239, 191, 189] from rfl, htl] at hpre
    clear hl htl hdec
    by_cases hb : bad (s.data.toList.drop k)
    · have hb1 : dec (s.data.toList.drop k) = (65533, 1) := hb
      have hbf : Lib.hasPrefix (s.data.toList.drop k) [239, 191, 189] = false := by
        unfold Lib.hasPrefix
        exact Bool.eq_false_iff.2 ((bad_iff _).1 hb).2
      rw [show nextL (s.data.toList.drop k) = (65533, 1, false) by unfold nextL; rw [if_neg hne, if_pos hb]]
      rw [hbf] at hpre
      rw [hb1] at hnx
      clear hbf hb hb1 hle hlen hne
      go_enter Tryd.func54, Tryd.ntmps54
      go_wp2
      refine wp_loop_rounds 1 ?_
      rw [rounds_succ]
      go_wp2_with (go_at_call 38; refine (hpre _).mono ?_; rintro e w1 ⟨rfl, rfl⟩)
      go_ret3
      exact ⟨rfl, (Kp.refl _).iter _ _⟩
    · have hg := dec_good _ hb
      have hlv := runeLen_of _ hg.2
      rw [← hg.1] at hlv
      rw [hlv] at hlen
      rw [show nextL (s.data.toList.drop k) = ((dec (s.data.toList.drop k)).1, (dec (s.data.toList.drop k)).2, true) by unfold nextL; rw [if_neg hne, if_neg hb]]
      by_cases h3 : (dec (s.data.toList.drop k)).1 = 65533
      · have hbt : Lib.hasPrefix (s.data.toList.drop k) [239, 191, 189] = true := by
          unfold Lib.hasPrefix
          exact Classical.byContradiction fun h => hb ((bad_iff _).2 ⟨h3, h⟩)
        rw [hbt] at hpre
        rw [h3] at hnx hlen
        rw [h3]
        clear hbt hb hg hlv hne hle h3
        generalize (dec (s.data.toList.drop k)).2 = n at *
        go_enter Tryd.func54, Tryd.ntmps54
        go_wp2
        refine wp_loop_rounds 1 ?_
        rw [rounds_succ]
        go_wp2_with (first | (go_at_call 38; refine (hpre _).mono ?_; rintro e w1 ⟨rfl, rfl⟩) | (go_at_call 76; refine (hlen _).mono ?_; rintro e w1 ⟨rfl, rfl⟩))
        go_ret3
        exact ⟨rfl, (Kp.refl _).iter _ _⟩
      · have hv : (((dec (s.data.toList.drop k)).1 : Int) == 65533) = false := beq_eq_false_iff_ne.2 (by omega)
        clear hb hg hlv hne h3
        generalize (dec (s.data.toList.drop k)).2 = n at *
        generalize (dec (s.data.toList.drop k)).1 = v at *
        go_enter Tryd.func54, Tryd.ntmps54
        go_wp2
        refine wp_loop_rounds 1 ?_
        rw [rounds_succ]
        go_wp2_with (first | (go_at_call 38; refine (hpre _).mono ?_; rintro e w1 ⟨rfl, rfl⟩) | (go_at_call 76; refine (hlen _).mono ?_; rintro e w1 ⟨rfl, rfl⟩))
        go_ret3
        exact ⟨rfl, (Kp.refl _).iter _ _⟩
  · have e1 : ¬ (k : Int) < (s.size : Int) := by omega
    have e2 : (s.size : Int) ≤ (k : Int) := by omega
    rw [show nextL (s.data.toList.drop k) = (0, 0, false) by unfold nextL; rw [if_pos (by simp; omega)]]
    clear hl
    go_enter Tryd.func54, Tryd.ntmps54
    go_wp2
    go_ret3
    exact ⟨rfl, Kp.refl _⟩
end Go.Proofs.YtgfloplakjmncaaDoor
namespace Go.Proofs.YtgfloplakjmncaaDoor
open Go Go.RowKit
/-- What char.Next tells of a rest: its bounds. -/
theorem nextL_bounds (l : List UInt8) : (nextL l).1 ≤ 1114111 ∧ (nextL l).2.1 ≤ l.length ∧ (nextL l).2.1 ≤ 4 ∧ (l ≠ [] → 1 ≤ (nextL l).2.1) ∧ ((nextL l).2.2 = true → 1 ≤ (nextL l).2.1) := by
  unfold nextL
  by_cases h : l = []
  · rw [if_pos h]; exact ⟨by simp, by simp, by simp, fun h' => absurd h h', by simp⟩
  · have hw := dec_width l h
    have hv := dec_le l
    have hl : 0 < l.length := List.length_pos_iff.2 h
    rw [if_neg h]
    by_cases hb : bad l
    · rw [if_pos hb]; exact ⟨by simp, by simp; omega, by simp, by simp, by simp⟩
    · rw [if_neg hb]; exact ⟨hv, hw.2.1, hw.2.2, fun _ => hw.1, fun _ => hw.1⟩
set_option maxRecDepth 100000 in
set_option maxHeartbeats 1000000 in
theorem snext_calls (s : ByteArray) (k : Nat) (w : World) (hk : k ≤ s.size) (hs : s.size < 4611686018427387904) :
    Calls Tryd.prog 32 #[.string s, .int .i64 k] w fun e w' => e = .returned (.tuple #[.int .i32 (nextL (s.data.toList.drop k)).1, .int .i64 (nextL (s.data.toList.drop k)).2.1, .bool (nextL (s.data.toList.drop k)).2.2]) ∧ Kp w w' := by
  have hn := next_calls s k w hk hs
  have hb := (nextL_bounds (s.data.toList.drop k)).1
  obtain ⟨x, hx⟩ : ∃ x, x = nextL (s.data.toList.drop k) := ⟨_, rfl⟩
  rw [← hx] at hn hb ⊢
  clear hx
  obtain ⟨v, n, g⟩ := x
  dsimp only at hn hb ⊢
  go_enter Tryd.func32, Tryd.ntmps32
  go_wp2_with (go_at_call 54; refine hn.mono ?_; rintro e w1 ⟨rfl, hk1⟩)
  go_ret3
  exact ⟨rfl, hk1⟩
set_option maxRecDepth 100000 in
set_option maxHeartbeats 1000000 in
theorem control_calls (v : Nat) (good : Bool) (w : World) :
    Calls Tryd.prog 57 #[.int .i32 v, .bool good] w fun e w' => e = .returned (.bool (controlB v good)) ∧ w = w' := by
  cases good
  · go_enter Tryd.func57, Tryd.ntmps57
    go_wp2
    go_ret
    exact ⟨rfl, rfl⟩
  · by_cases h1 : (v : Int) < 32
    · have e1 : decide ((v : Int) < 32) = true := by simpa using h1
      go_enter Tryd.func57, Tryd.ntmps57
      go_wp2
      go_ret
      exact ⟨ret_bool (by unfold controlB; rw [decide_eq_true (show v < 32 by omega)]; rfl), rfl⟩
    · have e1 : decide ((v : Int) < 32) = false := by simpa using h1
      by_cases h2 : (v : Int) = 127
      · have e2 : ((v : Int) == 127) = true := by simpa using h2
        go_enter Tryd.func57, Tryd.ntmps57
        go_wp2
        go_ret
        exact ⟨ret_bool (by unfold controlB; rw [decide_eq_false (show ¬ v < 32 by omega), decide_eq_true (show v = 127 by omega)]; rfl), rfl⟩
      · have e2 : ((v : Int) == 127) = false := by simpa using h2
        go_enter Tryd.func57, Tryd.ntmps57
        go_wp2
        go_ret
        exact ⟨ret_bool (by unfold controlB; rw [decide_eq_false (show ¬ v < 32 by omega), decide_eq_false (show ¬ v = 127 by omega)]; rfl), rfl⟩
/-- A scope whose code begins with the label to which it jumps back. -/
theorem wp_scope_head {P : Program} {a : Act} {w : World} {Q : Exit → Act → World → Prop} {c : Code} (l : Nat) (J : Act → World → Prop) (μ : Act → World → Nat) (h0 : J a w)
    (pass : ∀ a w, J a w → c.wp P (Exit.jump l (fun a' w' => J a' w' ∧ μ a' w' < μ a w) Q) a w) : (Code.scope ((Code.label l).seq c)).wp P Q a w := by
  refine wp_scope_jumps (rest := .seq .skip c) l J μ (by simp [findLabel]) (wp_seq (wp_label (Code.wp_mono ?_ (pass a w h0)))) (fun a w h => wp_seq (wp_skip (pass a w h)))
  intro e a' w' h
  cases e <;> first | exact h | exact ⟨h.1, h.2.1⟩
/-- The same where some code stands ahead of the label. -/
theorem wp_scope_pre {P : Program} {a : Act} {w : World} {Q : Exit → Act → World → Prop} {pre c : Code} (l : Nat) (J : Act → World → Prop) (μ : Act → World → Nat) (hn : findLabel pre l = none)
    (h0 : pre.wp P (fun e a w => e = .normal ∧ J a w) a w)
    (pass : ∀ a w, J a w → c.wp P (Exit.jump l (fun a' w' => J a' w' ∧ μ a' w' < μ a w) Q) a w) : (Code.scope (pre.seq ((Code.label l).seq c))).wp P Q a w := by
  refine wp_scope_jumps (rest := .seq .skip c) l J μ (by simp [findLabel, hn]) (wp_seq (Code.wp_mono ?_ h0)) (fun a w h => wp_seq (wp_skip (pass a w h)))
  rintro e a1 w1 ⟨rfl, hJ⟩
  refine wp_seq (wp_label (Code.wp_mono ?_ (pass a1 w1 hJ)))
  intro e a' w' h
  cases e <;> first | exact h | exact ⟨h.1, h.2.1⟩
end Go.Proofs.YtgfloplakjmncaaDoor
namespace Go.Proofs.YtgfloplakjmncaaDoor
open Go Go.RowKit
/-- The value of a token's kind, its end, an error. -/
abbrev oneV (r : Nat × Nat × Nat) : Value := .tuple #[.int .u8 r.1, .int .i64 r.2.1, .int .i64 r.2.2]
/-- The tables of package class. -/
def Cl (w : World) : Prop := Tab w 1 letterTab ∧ Tab w 2 otherTab
theorem Cl.kp {w w' : World} (h : Cl w) (k : Kp w w') : Cl w' := ⟨h.1.kp k, h.2.kp k⟩
set_option maxRecDepth 100000 in
set_option maxHeartbeats 2000000 in
theorem named_calls (s : ByteArray) (at_ e : Nat) (w : World) (hae : at_ ≤ e) (he : e ≤ s.size) (hs : s.size < 4611686018427387904) (hT : Cl w) :
    Calls Tryd.prog 34 #[.string s, .int .i64 at_, .int .i64 e] w fun en w' => en = .returned (oneV (namedR s at_ e)) ∧ Kp w w' := by
  obtain ⟨R, hR⟩ : ∃ R, R = namedF (s.size - e + 1) (s.data.toList.drop e) (e - at_) := ⟨_, rfl⟩
  rw [show namedR s at_ e = namedO s at_ R by rw [hR]; rfl]
  have HR := Lib.hid hR
  clear hR
  go_enter Tryd.func34, Tryd.ntmps34
  go_wp2
  refine wp_scope_head 0 (fun a' w' => ∃ (x f : Nat) (u9 u10 u11 u12 u13 u14 u15 u16 u17 u18 u19 u20 u21 u22 u23 u24 u25 u26 u27 u28 u29 u30 u31 u32 u33 u34 u35 u36 u37 u38 u39 : Value), a' = { tmps := #[.string s, .int .i64 at_, .int .i64 x, undef, undef, undef, .int .u8 0, .int .i64 0, .int .i64 0, u9, u10, u11, u12, u13, u14, u15, u16, u17, u18, u19, u20, u21, u22, u23, u24, u25, u26, u27, u28, u29, u30, u31, u32, u33, u34, u35, u36, u37, u38, u39], defers := [] } ∧ Kp w w' ∧ Hid (at_ ≤ x ∧ x ≤ s.size ∧ s.size - x < f ∧ namedF f (s.data.toList.drop x) (x - at_) = R)) (fun a' _ => s.size - (intOf (a'.tmps.getD 2 undef)).toNat) ?first ?pass
  case first => exact ⟨e, s.size - e + 1, _, _, _, _, _, _, _, _, _, _, _, _, _, _, _, _, _, _, _, _, _, _, _, _, _, _, _, _, _, _, _, rfl, Kp.refl _, hae, he, by omega, HR.out.symm⟩
  case pass =>
    rintro a' w' ⟨x, f, u9, u10, u11, u12, u13, u14, u15, u16, u17, u18, u19, u20, u21, u22, u23, u24, u25, u26, u27, u28, u29, u30, u31, u32, u33, u34, u35, u36, u37, u38, u39, rfl, hk, hx⟩
    obtain ⟨x1, x2, x3, x4⟩ := hx.out
    clear hx
    have hl : (s.data.toList.drop x).length = s.size - x := by simp
    obtain ⟨g, rfl⟩ : ∃ g, f = g + 1 := ⟨f - 1, by omega⟩
    have hb := nextL_bounds (s.data.toList.drop x)
    have cn := snext_calls s x w' x2 hs
    rw [namedF] at x4
    rw [hl] at hb
    rw [List.drop_drop] at x4
    obtain ⟨y, hy⟩ : ∃ y, y = nextL (s.data.toList.drop x) := ⟨_, rfl⟩
    rw [← hy] at hb cn x4
    clear hy hl
    obtain ⟨v, n, good⟩ := y
    dsimp only at hb cn x4
    obtain ⟨b1, b2, _, _, b5⟩ := hb
    have sx : s.size - x < s.size + 1 := by omega
    have e1 : (at_ : Int) ≤ (x : Int) := by omega
    have e2 : (x : Int) ≤ (s.size : Int) := by omega
    have kx : ∀ w2 : World, Calls Tryd.prog 56 #[.string (s.extract at_ x)] w2 fun e w3 => e = .returned (.bool (keyB (s.extract at_ x))) ∧ Kp w2 w3 := fun w2 => isKey_calls _ _
    have hend : R = some (x - at_) → namedO s at_ R = (if keyB (s.extract at_ x) = true then 2 else 1, x, 0) := by
      rintro rfl
      show (if keyB (s.extract at_ (at_ + (x - at_))) = true then 2 else 1, at_ + (x - at_), 0) = _
      rw [show at_ + (x - at_) = x by omega]
    have HE := Lib.hid hend
    clear hend
    have cp := fun w2 (h : Cl w2) => part_calls (v : Int) w2 h.2 h.1
    cases good
    · have hR : R = some (x - at_) := by rw [← x4, if_neg (by simp)]
      have HR2 := Lib.hid hR
      clear x4 hR
      obtain ⟨kb, hkb⟩ : ∃ kb, kb = keyB (s.extract at_ x) := ⟨_, rfl⟩
      rw [← hkb] at kx
      have HK := Lib.hid hkb
      clear hkb
      cases kb
      · go_wp2_with (first | (go_at_call 32; refine cn.mono ?_; rintro e w1 ⟨rfl, hk1⟩) | (go_at_call 55; refine (cp _ (hT.kp (hk.trans hk1))).mono ?_; rintro e w2 ⟨rfl, hk2⟩) | (go_at_call 56; refine (kx _).mono ?_; rintro e w3 ⟨rfl, hk3⟩))
        simp only [Exit.jump]
        go_ret3
        exact ⟨by rw [HE.out HR2.out, ← HK.out]; rfl, (hk.trans hk1).trans hk3⟩
      · go_wp2_with (first | (go_at_call 32; refine cn.mono ?_; rintro e w1 ⟨rfl, hk1⟩) | (go_at_call 55; refine (cp _ (hT.kp (hk.trans hk1))).mono ?_; rintro e w2 ⟨rfl, hk2⟩) | (go_at_call 56; refine (kx _).mono ?_; rintro e w3 ⟨rfl, hk3⟩))
        simp only [Exit.jump]
        go_ret3
        exact ⟨by rw [HE.out HR2.out, ← HK.out]; rfl, (hk.trans hk1).trans hk3⟩
    · obtain ⟨pb, hpb⟩ : ∃ pb, pb = partB (v : Int) := ⟨_, rfl⟩
      rw [← hpb] at cp x4
      clear hpb
      cases pb
      · have hR : R = some (x - at_) := by rw [← x4, if_neg (by simp)]
        have HR2 := Lib.hid hR
        clear x4 hR
        obtain ⟨kb, hkb⟩ : ∃ kb, kb = keyB (s.extract at_ x) := ⟨_, rfl⟩
        rw [← hkb] at kx
        have HK := Lib.hid hkb
        clear hkb
        cases kb
        · go_wp2_with (first | (go_at_call 32; refine cn.mono ?_; rintro e w1 ⟨rfl, hk1⟩) | (go_at_call 55; refine (cp _ (hT.kp (hk.trans hk1))).mono ?_; rintro e w2 ⟨rfl, hk2⟩) | (go_at_call 56; refine (kx _).mono ?_; rintro e w3 ⟨rfl, hk3⟩))
          simp only [Exit.jump]
          go_ret3
          exact ⟨by rw [HE.out HR2.out, ← HK.out]; rfl, ((hk.trans hk1).trans hk2).trans hk3⟩
        · go_wp2_with (first | (go_at_call 32; refine cn.mono ?_; rintro e w1 ⟨rfl, hk1⟩) | (go_at_call 55; refine (cp _ (hT.kp (hk.trans hk1))).mono ?_; rintro e w2 ⟨rfl, hk2⟩) | (go_at_call 56; refine (kx _).mono ?_; rintro e w3 ⟨rfl, hk3⟩))
          simp only [Exit.jump]
          go_ret3
          exact ⟨by rw [HE.out HR2.out, ← HK.out]; rfl, ((hk.trans hk1).trans hk2).trans hk3⟩
      · rw [if_pos ⟨rfl, rfl⟩] at x4
        have b6 := b5 rfl
        by_cases hlong : x - at_ + n > 65535
        · have hR : R = none := by rw [← x4, if_pos hlong]
          have HR2 := Lib.hid hR
          clear x4 hR
          have l1 : (65535 : Int) < (x : Int) + n - at_ := by omega
          go_wp2_with (first | (go_at_call 32; refine cn.mono ?_; rintro e w1 ⟨rfl, hk1⟩) | (go_at_call 55; refine (cp _ (hT.kp (hk.trans hk1))).mono ?_; rintro e w2 ⟨rfl, hk2⟩) | (go_at_call 56; refine (kx _).mono ?_; rintro e w3 ⟨rfl, hk3⟩))
          simp only [Exit.jump]
          go_ret3
          exact ⟨by rw [HR2.out]; rfl, (hk.trans hk1).trans hk2⟩
        · rw [if_neg hlong] at x4
          have X4 := Lib.hid x4
          clear x4
          have l1 : ¬ (65535 : Int) < (x : Int) + n - at_ := by omega
          go_wp2_with (first | (go_at_call 32; refine cn.mono ?_; rintro e w1 ⟨rfl, hk1⟩) | (go_at_call 55; refine (cp _ (hT.kp (hk.trans hk1))).mono ?_; rintro e w2 ⟨rfl, hk2⟩) | (go_at_call 56; refine (kx _).mono ?_; rintro e w3 ⟨rfl, hk3⟩))
          go_step3
          refine ⟨rfl, ⟨x + n, g, _, _, _, _, _, _, _, _, _, _, _, _, _, _, _, _, _, _, _, _, _, _, _, _, _, _, _, _, _, _, _, rfl, (hk.trans hk1).trans hk2, by omega, by omega, by omega, ?_⟩, ?_⟩
          · rw [show x + n - at_ = x - at_ + n by omega]; exact X4.out
          · simp [intOf]; omega
end Go.Proofs.YtgfloplakjmncaaDoor
namespace Go.Proofs.YtgfloplakjmncaaDoor
open Go Go.RowKit
set_option maxRecDepth 100000 in
set_option maxHeartbeats 2000000 in
theorem numbered_calls (s : ByteArray) (at_ e : Nat) (w : World) (hae : at_ ≤ e) (he : e ≤ s.size) (hs : s.size < 4611686018427387904) :
    Calls Tryd.prog 35 #[.string s, .int .i64 at_, .int .i64 e] w fun en w' => en = .returned (oneV (numberedR s at_ e)) ∧ Kp w w' := by
  obtain ⟨R, hR⟩ : ∃ R, R = numberedF (s.size - e + 1) (s.data.toList.drop e) (e - at_) := ⟨_, rfl⟩
  rw [show numberedR s at_ e = numberedO at_ R by rw [hR]; rfl]
  have HR := Lib.hid hR
  clear hR
  go_enter Tryd.func35, Tryd.ntmps35
  go_wp2
  refine wp_scope_head 0 (fun a' w' => ∃ (x f : Nat) (u9 u10 u11 u12 u13 u14 u15 u16 u17 u18 u19 u20 u21 u22 u23 u24 u25 u26 u27 u28 u29 u30 u31 u32 u33 u34 u35 u36 u37 : Value), a' = { tmps := #[.string s, .int .i64 at_, .int .i64 x, undef, undef, undef, .int .u8 0, .int .i64 0, .int .i64 0, u9, u10, u11, u12, u13, u14, u15, u16, u17, u18, u19, u20, u21, u22, u23, u24, u25, u26, u27, u28, u29, u30, u31, u32, u33, u34, u35, u36, u37], defers := [] } ∧ Kp w w' ∧ Hid (at_ ≤ x ∧ x ≤ s.size ∧ s.size - x < f ∧ numberedF f (s.data.toList.drop x) (x - at_) = R)) (fun a' _ => s.size - (intOf (a'.tmps.getD 2 undef)).toNat) ?first ?pass
  case first => exact ⟨e, s.size - e + 1, _, _, _, _, _, _, _, _, _, _, _, _, _, _, _, _, _, _, _, _, _, _, _, _, _, _, _, _, _, rfl, Kp.refl _, hae, he, by omega, HR.out.symm⟩
  case pass =>
    rintro a' w' ⟨x, f, u9, u10, u11, u12, u13, u14, u15, u16, u17, u18, u19, u20, u21, u22, u23, u24, u25, u26, u27, u28, u29, u30, u31, u32, u33, u34, u35, u36, u37, rfl, hk, hx⟩
    obtain ⟨x1, x2, x3, x4⟩ := hx.out
    clear hx
    have hl : (s.data.toList.drop x).length = s.size - x := by simp
    obtain ⟨g, rfl⟩ : ∃ g, f = g + 1 := ⟨f - 1, by omega⟩
    have hb := nextL_bounds (s.data.toList.drop x)
    have cn := snext_calls s x w' x2 hs
    rw [numberedF] at x4
    rw [hl] at hb
    rw [List.drop_drop] at x4
    obtain ⟨y, hy⟩ : ∃ y, y = nextL (s.data.toList.drop x) := ⟨_, rfl⟩
    rw [← hy] at hb cn x4
    clear hy hl
    obtain ⟨v, n, good⟩ := y
    dsimp only at hb cn x4
    obtain ⟨b1, b2, _, _, b5⟩ := hb
    clear b5
    have e1 : (at_ : Int) ≤ (x : Int) := by omega
    have e2 : (x : Int) ≤ (s.size : Int) := by omega
    by_cases hc : 0 < n ∧ 48 ≤ v ∧ v ≤ 57
    · rw [if_pos hc] at x4
      obtain ⟨c1, c2, c3⟩ := hc
      have d1 : (0 : Int) < (n : Int) := by omega
      have d2 : (48 : Int) ≤ (v : Int) := by omega
      have d3 : (v : Int) ≤ 57 := by omega
      by_cases hlong : x - at_ + n > 65535
      · have hR : R = none := by rw [← x4, if_pos hlong]
        have HR2 := Lib.hid hR
        clear x4 hR
        have l1 : (65535 : Int) < (x : Int) + n - at_ := by omega
        go_wp2_with (go_at_call 32; refine cn.mono ?_; rintro e w1 ⟨rfl, hk1⟩)
        simp only [Exit.jump]
        go_ret3
        exact ⟨by rw [HR2.out]; rfl, hk.trans hk1⟩
      · rw [if_neg hlong] at x4
        have X4 := Lib.hid x4
        clear x4
        have l1 : ¬ (65535 : Int) < (x : Int) + n - at_ := by omega
        go_wp2_with (go_at_call 32; refine cn.mono ?_; rintro e w1 ⟨rfl, hk1⟩)
        go_step3
        refine ⟨rfl, ⟨x + n, g, _, _, _, _, _, _, _, _, _, _, _, _, _, _, _, _, _, _, _, _, _, _, _, _, _, _, _, _, _, rfl, hk.trans hk1, by omega, by omega, by omega, ?_⟩, ?_⟩
        · rw [show x + n - at_ = x - at_ + n by omega]; exact X4.out
        · simp [intOf]; omega
    · have hR : R = some (x - at_) := by rw [← x4, if_neg hc]
      have HR2 := Lib.hid hR
      clear x4 hR
      by_cases c1 : 0 < n
      · have d1 : (0 : Int) < (n : Int) := by omega
        by_cases c2 : 48 ≤ v
        · have d2 : (48 : Int) ≤ (v : Int) := by omega
          have d3 : ¬ (v : Int) ≤ 57 := by omega
          clear hc
          go_wp2_with (go_at_call 32; refine cn.mono ?_; rintro e w1 ⟨rfl, hk1⟩)
          simp only [Exit.jump]
          go_ret3
          exact ⟨by rw [HR2.out, show numberedO at_ (some (x - at_)) = (3, x, 0) from by show (3, at_ + (x - at_), 0) = _; rw [show at_ + (x - at_) = x by omega]]; rfl, hk.trans hk1⟩
        · have d2 : ¬ (48 : Int) ≤ (v : Int) := by omega
          clear hc
          go_wp2_with (go_at_call 32; refine cn.mono ?_; rintro e w1 ⟨rfl, hk1⟩)
          simp only [Exit.jump]
          go_ret3
          exact ⟨by rw [HR2.out, show numberedO at_ (some (x - at_)) = (3, x, 0) from by show (3, at_ + (x - at_), 0) = _; rw [show at_ + (x - at_) = x by omega]]; rfl, hk.trans hk1⟩
      · have d1 : ¬ (0 : Int) < (n : Int) := by omega
        clear hc
        go_wp2_with (go_at_call 32; refine cn.mono ?_; rintro e w1 ⟨rfl, hk1⟩)
        simp only [Exit.jump]
        go_ret3
        exact ⟨by rw [HR2.out, show numberedO at_ (some (x - at_)) = (3, x, 0) from by show (3, at_ + (x - at_), 0) = _; rw [show at_ + (x - at_) = x by omega]]; rfl, hk.trans hk1⟩
end Go.Proofs.YtgfloplakjmncaaDoor
namespace Go.Proofs.YtgfloplakjmncaaDoor
open Go Go.RowKit
theorem beq_t {a b : Nat} (h : a = b) : ((a : Int) == (b : Int)) = true := by rw [h]; exact beq_self_eq_true _
theorem beq_f {a b : Nat} (h : ¬ a = b) : ((a : Int) == (b : Int)) = false := beq_eq_false_iff_ne.2 (by omega)
theorem bne_t {a b : Nat} (h : ¬ a = b) : ((a : Int) != (b : Int)) = true := by rw [bne, beq_f h]; rfl
theorem bne_f {a b : Nat} (h : a = b) : ((a : Int) != (b : Int)) = false := by rw [bne, beq_t h]; rfl
set_option maxRecDepth 100000 in
set_option maxHeartbeats 2000000 in
theorem quoted_calls (s : ByteArray) (at_ e : Nat) (w : World) (hae : at_ ≤ e) (he : e ≤ s.size) (hs : s.size < 4611686018427387904) :
    Calls Tryd.prog 36 #[.string s, .int .i64 at_, .int .i64 e] w fun en w' => en = .returned (oneV (quotedR s at_ e)) ∧ Kp w w' := by
  obtain ⟨R, hR⟩ : ∃ R, R = quotedF (s.size - e + 1) (s.data.toList.drop e) (e - at_) := ⟨_, rfl⟩
  rw [show quotedR s at_ e = offR at_ R by rw [hR]; rfl]
  have HR := Lib.hid hR
  clear hR
  go_enter Tryd.func36, Tryd.ntmps36
  go_wp2
  refine wp_scope_head 0 (fun a' w' => ∃ (x f : Nat) (u9 u10 u11 u12 u13 u14 u15 u16 u17 u18 u19 u20 u21 u22 u23 u24 u25 u26 u27 u28 u29 u30 u31 u32 u33 u34 u35 u36 u37 u38 u39 u40 u41 u42 u43 u44 u45 : Value), a' = { tmps := #[.string s, .int .i64 at_, .int .i64 x, undef, undef, undef, .int .u8 0, .int .i64 0, .int .i64 0, u9, u10, u11, u12, u13, u14, u15, u16, u17, u18, u19, u20, u21, u22, u23, u24, u25, u26, u27, u28, u29, u30, u31, u32, u33, u34, u35, u36, u37, u38, u39, u40, u41, u42, u43, u44, u45], defers := [] } ∧ Kp w w' ∧ Hid (at_ ≤ x ∧ x ≤ s.size ∧ s.size - x < f ∧ quotedF f (s.data.toList.drop x) (x - at_) = R)) (fun a' _ => s.size - (intOf (a'.tmps.getD 2 undef)).toNat) ?first ?pass
  case first => exact ⟨e, s.size - e + 1, _, _, _, _, _, _, _, _, _, _, _, _, _, _, _, _, _, _, _, _, _, _, _, _, _, _, _, _, _, _, _, _, _, _, _, _, _, rfl, Kp.refl _, hae, he, by omega, HR.out.symm⟩
  case pass =>
    rintro a' w' ⟨x, f, u9, u10, u11, u12, u13, u14, u15, u16, u17, u18, u19, u20, u21, u22, u23, u24, u25, u26, u27, u28, u29, u30, u31, u32, u33, u34, u35, u36, u37, u38, u39, u40, u41, u42, u43, u44, u45, rfl, hk, hx⟩
    obtain ⟨x1, x2, x3, x4⟩ := hx.out
    clear hx
    have hl : (s.data.toList.drop x).length = s.size - x := by simp
    obtain ⟨g, rfl⟩ : ∃ g, f = g + 1 := ⟨f - 1, by omega⟩
    have hb := nextL_bounds (s.data.toList.drop x)
    have cn := snext_calls s x w' x2 hs
    rw [quotedF] at x4
    rw [hl] at hb
    rw [List.drop_drop] at x4
    obtain ⟨y, hy⟩ : ∃ y, y = nextL (s.data.toList.drop x) := ⟨_, rfl⟩
    rw [← hy] at hb cn x4
    clear hy hl
    obtain ⟨v, n, good⟩ := y
    dsimp only at hb cn x4
    obtain ⟨b1, b2, _, _, b5⟩ := hb
    clear b5
    have e1 : (at_ : Int) ≤ (x : Int) := by omega
    have e2 : (x : Int) ≤ (s.size : Int) := by omega
    have cc := fun w2 => control_calls v good w2
    obtain ⟨cb, hcb⟩ : ∃ cb, cb = controlB v good := ⟨_, rfl⟩
    rw [← hcb] at cc x4
    clear hcb
    by_cases n0 : n = 0
    · rw [if_pos n0] at x4
      have d1 := beq_t n0
      subst n0
      have hR : R = (0, 0, 101) := by rw [← x4]
      have HR2 := Lib.hid hR
      clear x4 hR
      go_wp2_with (first | (go_at_call 32; refine cn.mono ?_; rintro e w1 ⟨rfl, hk1⟩) | (go_at_call 57; refine (cc _).mono ?_; rintro e w2 ⟨rfl, rfl⟩))
      simp only [Exit.jump]
      go_ret3
      exact ⟨by rw [HR2.out, show offR at_ (0, 0, 101) = (0, at_, 101) from offR_eq (by omega)]; rfl, hk.trans hk1⟩
    · rw [if_neg n0] at x4
      have d1 : ((n : Int) == 0) = false := beq_f (b := 0) n0
      by_cases v10 : v = 10
      · rw [if_pos v10] at x4
        have d2 : ((v : Int) == 10) = true := beq_t (b := 10) v10
        clear v10
        have hR : R = (0, 0, 101) := by rw [← x4]
        have HR2 := Lib.hid hR
        clear x4 hR
        go_wp2_with (first | (go_at_call 32; refine cn.mono ?_; rintro e w1 ⟨rfl, hk1⟩) | (go_at_call 57; refine (cc _).mono ?_; rintro e w2 ⟨rfl, rfl⟩))
        simp only [Exit.jump]
        go_ret3
        exact ⟨by rw [HR2.out, show offR at_ (0, 0, 101) = (0, at_, 101) from offR_eq (by omega)]; rfl, hk.trans hk1⟩
      · rw [if_neg v10] at x4
        have d2 : ((v : Int) == 10) = false := beq_f (b := 10) v10
        by_cases hlong : x - at_ + n > 65535
        · rw [if_pos hlong] at x4
          have l1 : (65535 : Int) < (x : Int) + n - at_ := by omega
          clear v10
          have hR : R = (0, 0, 103) := by rw [← x4]
          have HR2 := Lib.hid hR
          clear x4 hR
          go_wp2_with (first | (go_at_call 32; refine cn.mono ?_; rintro e w1 ⟨rfl, hk1⟩) | (go_at_call 57; refine (cc _).mono ?_; rintro e w2 ⟨rfl, rfl⟩))
          simp only [Exit.jump]
          go_ret3
          exact ⟨by rw [HR2.out, show offR at_ (0, 0, 103) = (0, at_, 103) from offR_eq (by omega)]; rfl, hk.trans hk1⟩
        · rw [if_neg hlong] at x4
          have l1 : ¬ (65535 : Int) < (x : Int) + n - at_ := by omega
          cases cb
          · by_cases v34 : v = 34
            · rw [if_neg (by simp), if_pos v34] at x4
              have d3 : ((v : Int) == 34) = true := beq_t (b := 34) v34
              have d4 : ((v : Int) != 34) = false := bne_f (b := 34) v34
              clear v34 v10
              have hR : R = (4, x - at_ + n, 0) := by rw [← x4]
              have HR2 := Lib.hid hR
              clear x4 hR
              go_wp2_with (first | (go_at_call 32; refine cn.mono ?_; rintro e w1 ⟨rfl, hk1⟩) | (go_at_call 57; refine (cc _).mono ?_; rintro e w2 ⟨rfl, rfl⟩))
              simp only [Exit.jump]
              go_ret3
              exact ⟨by rw [HR2.out, show offR at_ (4, x - at_ + n, 0) = (4, x + n, 0) from offR_eq (by omega)]; rfl, hk.trans hk1⟩
            · rw [if_neg (by simp), if_neg v34] at x4
              have d3 : ((v : Int) == 34) = false := beq_f (b := 34) v34
              have d4 : ((v : Int) != 34) = true := bne_t (b := 34) v34
              have X4 := Lib.hid x4
              clear x4 v34 v10
              go_wp2_with (first | (go_at_call 32; refine cn.mono ?_; rintro e w1 ⟨rfl, hk1⟩) | (go_at_call 57; refine (cc _).mono ?_; rintro e w2 ⟨rfl, rfl⟩))
              go_step3
              refine ⟨rfl, ⟨x + n, g, _, _, _, _, _, _, _, _, _, _, _, _, _, _, _, _, _, _, _, _, _, _, _, _, _, _, _, _, _, _, _, _, _, _, _, _, _, rfl, hk.trans hk1, by omega, by omega, by omega, ?_⟩, ?_⟩
              · rw [show x + n - at_ = x - at_ + n by omega]; exact X4.out
              · simp [intOf]; omega
          · rw [if_pos rfl] at x4
            clear v10
            have hR : R = (0, x - at_, 102) := by rw [← x4]
            have HR2 := Lib.hid hR
            clear x4 hR
            go_wp2_with (first | (go_at_call 32; refine cn.mono ?_; rintro e w1 ⟨rfl, hk1⟩) | (go_at_call 57; refine (cc _).mono ?_; rintro e w2 ⟨rfl, rfl⟩))
            simp only [Exit.jump]
            go_ret3
            exact ⟨by rw [HR2.out, show offR at_ (0, x - at_, 102) = (0, x, 102) from offR_eq (by omega)]; rfl, hk.trans hk1⟩
end Go.Proofs.YtgfloplakjmncaaDoor
namespace Go.Proofs.YtgfloplakjmncaaDoor
open Go Go.RowKit
set_option maxRecDepth 100000 in
set_option maxHeartbeats 2000000 in
theorem comment_calls (line : Bool) (s : ByteArray) (at_ e : Nat) (w : World) (hae : at_ ≤ e) (he : e ≤ s.size) (hs : s.size < 4611686018427387904) (hlt : at_ < s.size) (hline : (((s[at_]'hlt).toNat : Int) == 47) = line) :
    Calls Tryd.prog 39 #[.string s, .int .i64 at_, .int .i64 e] w fun en w' => en = .returned (oneV (commentR line s at_ e)) ∧ Kp w w' := by
  obtain ⟨R, hR⟩ : ∃ R, R = commentF line (s.size - e + 1) (s.data.toList.drop e) (e - at_) := ⟨_, rfl⟩
  rw [show commentR line s at_ e = offR at_ R by rw [hR]; rfl]
  have HR := Lib.hid hR
  clear hR
  have i1 : (at_ : Int) < (s.size : Int) := by omega
  go_enter Tryd.func39, Tryd.ntmps39
  go_wp2
  refine wp_scope_pre 0 (fun a' w' => Hid (∃ (x f : Nat) (u10 u11 u12 u15 u16 u17 u18 u19 u20 u21 u22 u23 u24 u25 u26 u27 u28 u29 u30 u31 u32 u33 u34 u35 u36 u37 u38 u39 u40 u41 u42 u43 u44 u45 u46 u47 u48 u49 u50 u51 u52 : Value), a' = { tmps := #[.string s, .int .i64 at_, .int .i64 x, undef, undef, undef, .int .u8 0, .int .i64 0, .int .i64 0, .bool line, u10, u11, u12, .string s, .int .i64 at_, u15, u16, u17, u18, u19, u20, u21, u22, u23, u24, u25, u26, u27, u28, u29, u30, u31, u32, u33, u34, u35, u36, u37, u38, u39, u40, u41, u42, u43, u44, u45, u46, u47, u48, u49, u50, u51, u52], defers := [] } ∧ Kp w w' ∧ Hid (at_ ≤ x ∧ x ≤ s.size ∧ s.size - x < f ∧ commentF line f (s.data.toList.drop x) (x - at_) = R))) (fun a' _ => s.size - (intOf (a'.tmps.getD 2 undef)).toNat) rfl ?first ?pass
  case first =>
    go_wp2
    exact ⟨e, rfl, Kp.refl _, s.size - e + 1, hae, he, by omega, HR.out.symm⟩
  case pass =>
    intro a' w' hJ
    obtain ⟨x, f, u10, u11, u12, u15, u16, u17, u18, u19, u20, u21, u22, u23, u24, u25, u26, u27, u28, u29, u30, u31, u32, u33, u34, u35, u36, u37, u38, u39, u40, u41, u42, u43, u44, u45, u46, u47, u48, u49, u50, u51, u52, rfl, hk, hx⟩ := hJ.out
    clear hJ
    obtain ⟨x1, x2, x3, x4⟩ := hx.out
    clear hx hline
    have hl : (s.data.toList.drop x).length = s.size - x := by simp
    obtain ⟨g, rfl⟩ : ∃ g, f = g + 1 := ⟨f - 1, by omega⟩
    have hb := nextL_bounds (s.data.toList.drop x)
    have cn := snext_calls s x w' x2 hs
    rw [commentF] at x4
    rw [hl] at hb
    rw [List.drop_drop] at x4
    obtain ⟨y, hy⟩ : ∃ y, y = nextL (s.data.toList.drop x) := ⟨_, rfl⟩
    rw [← hy] at hb cn x4
    clear hy hl
    obtain ⟨v, n, good⟩ := y
    dsimp only at hb cn x4
    obtain ⟨b1, b2, _, _, b5⟩ := hb
    clear b5
    have e1 : (at_ : Int) ≤ (x : Int) := by omega
    have e2 : (x : Int) ≤ (s.size : Int) := by omega
    by_cases n0 : n = 0
    · rw [if_pos n0] at x4
      have d1 := beq_t n0
      subst n0
      cases line
      · rw [if_neg (by simp)] at x4
        have hR : R = (0, 0, 101) := by rw [← x4]
        have HR2 := Lib.hid hR
        clear x4 hR
        go_wp2_with (go_at_call 32; refine cn.mono ?_; rintro e w1 ⟨rfl, hk1⟩)
        simp only [Exit.jump]
        go_ret3
        exact ⟨by rw [HR2.out, show offR at_ (0, 0, 101) = (0, at_, 101) from offR_eq (by omega)]; rfl, hk.trans hk1⟩
      · rw [if_pos rfl] at x4
        have hR : R = (7, x - at_, 0) := by rw [← x4]
        have HR2 := Lib.hid hR
        clear x4 hR
        go_wp2_with (go_at_call 32; refine cn.mono ?_; rintro e w1 ⟨rfl, hk1⟩)
        simp only [Exit.jump]
        go_ret3
        exact ⟨by rw [HR2.out, show offR at_ (7, x - at_, 0) = (7, x, 0) from offR_eq (by omega)]; rfl, hk.trans hk1⟩
    · rw [if_neg n0] at x4
      have d1 : ((n : Int) == 0) = false := beq_f (b := 0) n0
      by_cases hlong : x - at_ + n > 65535
      · have l1 : (65535 : Int) < (x : Int) + n - at_ := by omega
        cases line
        · rw [if_neg (by simp), if_pos hlong] at x4
          have hR : R = (0, 0, 103) := by rw [← x4]
          have HR2 := Lib.hid hR
          clear x4 hR
          go_wp2_with (go_at_call 32; refine cn.mono ?_; rintro e w1 ⟨rfl, hk1⟩)
          simp only [Exit.jump]
          go_ret3
          exact ⟨by rw [HR2.out, show offR at_ (0, 0, 103) = (0, at_, 103) from offR_eq (by omega)]; rfl, hk.trans hk1⟩
        · by_cases v10 : v = 10
          · rw [if_pos ⟨rfl, v10⟩] at x4
            have d2 : ((v : Int) == 10) = true := beq_t (b := 10) v10
            clear v10
            have hR : R = (7, x - at_, 0) := by rw [← x4]
            have HR2 := Lib.hid hR
            clear x4 hR
            go_wp2_with (go_at_call 32; refine cn.mono ?_; rintro e w1 ⟨rfl, hk1⟩)
            simp only [Exit.jump]
            go_ret3
            exact ⟨by rw [HR2.out, show offR at_ (7, x - at_, 0) = (7, x, 0) from offR_eq (by omega)]; rfl, hk.trans hk1⟩
          · rw [if_neg (fun h => v10 h.2), if_pos hlong] at x4
            have d2 : ((v : Int) == 10) = false := beq_f (b := 10) v10
            clear v10
            have hR : R = (0, 0, 103) := by rw [← x4]
            have HR2 := Lib.hid hR
            clear x4 hR
            go_wp2_with (go_at_call 32; refine cn.mono ?_; rintro e w1 ⟨rfl, hk1⟩)
            simp only [Exit.jump]
            go_ret3
            exact ⟨by rw [HR2.out, show offR at_ (0, 0, 103) = (0, at_, 103) from offR_eq (by omega)]; rfl, hk.trans hk1⟩
      · have l1 : ¬ (65535 : Int) < (x : Int) + n - at_ := by omega
        cases line
        · by_cases v125 : v = 125
          · rw [if_neg (by simp), if_neg hlong, if_pos ⟨rfl, v125⟩] at x4
            have d3 : ((v : Int) == 125) = true := beq_t (b := 125) v125
            have d4 : ((v : Int) != 125) = false := bne_f (b := 125) v125
            clear v125
            have hR : R = (8, x - at_ + n, 0) := by rw [← x4]
            have HR2 := Lib.hid hR
            clear x4 hR
            go_wp2_with (go_at_call 32; refine cn.mono ?_; rintro e w1 ⟨rfl, hk1⟩)
            simp only [Exit.jump]
            go_ret3
            exact ⟨by rw [HR2.out, show offR at_ (8, x - at_ + n, 0) = (8, x + n, 0) from offR_eq (by omega)]; rfl, hk.trans hk1⟩
          · rw [if_neg (by simp), if_neg hlong, if_neg (fun h => v125 h.2)] at x4
            have d3 : ((v : Int) == 125) = false := beq_f (b := 125) v125
            have d4 : ((v : Int) != 125) = true := bne_t (b := 125) v125
            clear v125
            have X4 := Lib.hid x4
            clear x4
            go_wp2_with (go_at_call 32; refine cn.mono ?_; rintro e w1 ⟨rfl, hk1⟩)
            go_step3
            refine ⟨rfl, ⟨x + n, g, _, _, _, _, _, _, _, _, _, _, _, _, _, _, _, _, _, _, _, _, _, _, _, _, _, _, _, _, _, _, _, _, _, _, _, _, _, _, _, _, _, rfl, hk.trans hk1, by omega, by omega, by omega, ?_⟩, ?_⟩
            · rw [show x + n - at_ = x - at_ + n by omega]; exact X4.out
            · simp [intOf]; omega
        · by_cases v10 : v = 10
          · rw [if_pos ⟨rfl, v10⟩] at x4
            have d2 : ((v : Int) == 10) = true := beq_t (b := 10) v10
            clear v10
            have hR : R = (7, x - at_, 0) := by rw [← x4]
            have HR2 := Lib.hid hR
            clear x4 hR
            go_wp2_with (go_at_call 32; refine cn.mono ?_; rintro e w1 ⟨rfl, hk1⟩)
            simp only [Exit.jump]
            go_ret3
            exact ⟨by rw [HR2.out, show offR at_ (7, x - at_, 0) = (7, x, 0) from offR_eq (by omega)]; rfl, hk.trans hk1⟩
          · rw [if_neg (fun h => v10 h.2), if_neg hlong, if_neg (by simp)] at x4
            have d2 : ((v : Int) == 10) = false := beq_f (b := 10) v10
            clear v10
            have X4 := Lib.hid x4
            clear x4
            go_wp2_with (go_at_call 32; refine cn.mono ?_; rintro e w1 ⟨rfl, hk1⟩)
            go_step3
            refine ⟨rfl, ⟨x + n, g, _, _, _, _, _, _, _, _, _, _, _, _, _, _, _, _, _, _, _, _, _, _, _, _, _, _, _, _, _, _, _, _, _, _, _, _, _, _, _, _, _, rfl, hk.trans hk1, by omega, by omega, by omega, ?_⟩, ?_⟩
            · rw [show x + n - at_ = x - at_ + n by omega]; exact X4.out
            · simp [intOf]; omega
end Go.Proofs.YtgfloplakjmncaaDoor
namespace Go.Proofs.YtgfloplakjmncaaDoor
open Go Go.RowKit
set_option maxRecDepth 100000 in
set_option maxHeartbeats 2000000 in
theorem single_calls (s : ByteArray) (at_ e : Nat) (w : World) (hae : at_ ≤ e) (he : e ≤ s.size) (hs : s.size < 4611686018427387904) :
    Calls Tryd.prog 37 #[.string s, .int .i64 at_, .int .i64 e] w fun en w' => en = .returned (oneV (singleR s at_ e)) ∧ Kp w w' := by
  have hS : singleR s at_ e = offR at_ (singleF (s.data.toList.drop e) (e - at_)) := rfl
  have hl : (s.data.toList.drop e).length = s.size - e := by simp
  have hb := nextL_bounds (s.data.toList.drop e)
  have cn := snext_calls s e w he hs
  rw [hl] at hb
  unfold singleF at hS
  rw [List.drop_drop] at hS
  obtain ⟨y, hy⟩ : ∃ y, y = nextL (s.data.toList.drop e) := ⟨_, rfl⟩
  rw [← hy] at hb cn hS
  clear hy hl
  obtain ⟨v, n, good⟩ := y
  dsimp only at hb cn hS
  obtain ⟨b1, b2, _, _, b5⟩ := hb
  clear b5
  have hb2 := nextL_bounds (s.data.toList.drop (e + n))
  have cm := fun w2 => snext_calls s (e + n) w2 (by omega) hs
  rw [show (s.data.toList.drop (e + n)).length = s.size - (e + n) by simp] at hb2
  obtain ⟨z, hz⟩ : ∃ z, z = nextL (s.data.toList.drop (e + n)) := ⟨_, rfl⟩
  rw [← hz] at hb2 cm hS
  clear hz
  obtain ⟨v2, n2, good2⟩ := z
  dsimp only at hb2 cm hS
  obtain ⟨g1, g2, _, _, g5⟩ := hb2
  clear g5
  rw [show ((e + n : Nat) : Int) = (e : Int) + n by omega] at cm
  have cc := fun w2 => control_calls v good w2
  obtain ⟨cb, hcb⟩ : ∃ cb, cb = controlB v good := ⟨_, rfl⟩
  rw [← hcb] at cc hS
  clear hcb
  by_cases n0 : n = 0
  · rw [if_pos n0] at hS
    have d1 := beq_t n0
    subst n0
    rw [show singleR s at_ e = (0, at_, 101) from by rw [hS]; exact offR_eq (by omega)]
    clear hS
    go_enter Tryd.func37, Tryd.ntmps37
    go_wp2_with (first | (go_at_call_of 32 (Value.int IntKind.i64 (e : Int)); refine cn.mono ?_; rintro en w1 ⟨rfl, hk1⟩) | (go_at_call 57; refine (cc _).mono ?_; rintro en w2 ⟨rfl, rfl⟩) | (go_at_call 32; refine (cm _).mono ?_; rintro en w3 ⟨rfl, hk3⟩))
    go_ret3
    exact ⟨rfl, hk1⟩
  · rw [if_neg n0] at hS
    have d1 : ((n : Int) == 0) = false := beq_f (b := 0) n0
    by_cases v10 : v = 10
    · rw [if_pos v10] at hS
      have d2 : ((v : Int) == 10) = true := beq_t (b := 10) v10
      clear v10
      rw [show singleR s at_ e = (0, at_, 101) from by rw [hS]; exact offR_eq (by omega)]
      clear hS
      go_enter Tryd.func37, Tryd.ntmps37
      go_wp2_with (first | (go_at_call_of 32 (Value.int IntKind.i64 (e : Int)); refine cn.mono ?_; rintro en w1 ⟨rfl, hk1⟩) | (go_at_call 57; refine (cc _).mono ?_; rintro en w2 ⟨rfl, rfl⟩) | (go_at_call 32; refine (cm _).mono ?_; rintro en w3 ⟨rfl, hk3⟩))
      go_ret3
      exact ⟨rfl, hk1⟩
    · rw [if_neg v10] at hS
      have d2 : ((v : Int) == 10) = false := beq_f (b := 10) v10
      by_cases v39 : v = 39
      · rw [if_pos v39] at hS
        have d3 : ((v : Int) == 39) = true := beq_t (b := 39) v39
        clear v39 v10
        rw [show singleR s at_ e = (0, e, 102) from by rw [hS]; exact offR_eq (by omega)]
        clear hS
        go_enter Tryd.func37, Tryd.ntmps37
        go_wp2_with (first | (go_at_call_of 32 (Value.int IntKind.i64 (e : Int)); refine cn.mono ?_; rintro en w1 ⟨rfl, hk1⟩) | (go_at_call 57; refine (cc _).mono ?_; rintro en w2 ⟨rfl, rfl⟩) | (go_at_call 32; refine (cm _).mono ?_; rintro en w3 ⟨rfl, hk3⟩))
        go_ret3
        exact ⟨rfl, hk1⟩
      · rw [if_neg v39] at hS
        have d3 : ((v : Int) == 39) = false := beq_f (b := 39) v39
        cases cb
        · rw [if_neg (by simp)] at hS
          clear v39 v10
          by_cases m0 : n2 = 0
          · rw [if_pos m0] at hS
            have f1 := beq_t m0
            subst m0
            rw [show singleR s at_ e = (0, at_, 101) from by rw [hS]; exact offR_eq (by omega)]
            clear hS
            go_enter Tryd.func37, Tryd.ntmps37
            go_wp2_with (first | (go_at_call_of 32 (Value.int IntKind.i64 (e : Int)); refine cn.mono ?_; rintro en w1 ⟨rfl, hk1⟩) | (go_at_call 57; refine (cc _).mono ?_; rintro en w2 ⟨rfl, rfl⟩) | (go_at_call 32; refine (cm _).mono ?_; rintro en w3 ⟨rfl, hk3⟩))
            go_ret3
            exact ⟨rfl, hk1.trans hk3⟩
          · rw [if_neg m0] at hS
            have f1 : ((n2 : Int) == 0) = false := beq_f (b := 0) m0
            by_cases u10 : v2 = 10
            · rw [if_pos u10] at hS
              have f2 : ((v2 : Int) == 10) = true := beq_t (b := 10) u10
              clear u10
              rw [show singleR s at_ e = (0, at_, 101) from by rw [hS]; exact offR_eq (by omega)]
              clear hS
              go_enter Tryd.func37, Tryd.ntmps37
              go_wp2_with (first | (go_at_call_of 32 (Value.int IntKind.i64 (e : Int)); refine cn.mono ?_; rintro en w1 ⟨rfl, hk1⟩) | (go_at_call 57; refine (cc _).mono ?_; rintro en w2 ⟨rfl, rfl⟩) | (go_at_call 32; refine (cm _).mono ?_; rintro en w3 ⟨rfl, hk3⟩))
              go_ret3
              exact ⟨rfl, hk1.trans hk3⟩
            · rw [if_neg u10] at hS
              have f2 : ((v2 : Int) == 10) = false := beq_f (b := 10) u10
              by_cases u39 : v2 = 39
              · rw [if_pos u39] at hS
                have f3 : ((v2 : Int) != 39) = false := bne_f (b := 39) u39
                have f4 : ((v2 : Int) == 39) = true := beq_t (b := 39) u39
                clear u39 u10
                rw [show singleR s at_ e = (5, e + n + n2, 0) from by rw [hS]; exact offR_eq (by omega)]
                clear hS
                go_enter Tryd.func37, Tryd.ntmps37
                go_wp2_with (first | (go_at_call_of 32 (Value.int IntKind.i64 (e : Int)); refine cn.mono ?_; rintro en w1 ⟨rfl, hk1⟩) | (go_at_call 57; refine (cc _).mono ?_; rintro en w2 ⟨rfl, rfl⟩) | (go_at_call 32; refine (cm _).mono ?_; rintro en w3 ⟨rfl, hk3⟩))
                go_ret3
                exact ⟨rfl, hk1.trans hk3⟩
              · rw [if_neg u39] at hS
                have f3 : ((v2 : Int) != 39) = true := bne_t (b := 39) u39
                have f4 : ((v2 : Int) == 39) = false := beq_f (b := 39) u39
                clear u39 u10
                rw [show singleR s at_ e = (0, e + n, 102) from by rw [hS]; exact offR_eq (by omega)]
                clear hS
                go_enter Tryd.func37, Tryd.ntmps37
                go_wp2_with (first | (go_at_call_of 32 (Value.int IntKind.i64 (e : Int)); refine cn.mono ?_; rintro en w1 ⟨rfl, hk1⟩) | (go_at_call 57; refine (cc _).mono ?_; rintro en w2 ⟨rfl, rfl⟩) | (go_at_call 32; refine (cm _).mono ?_; rintro en w3 ⟨rfl, hk3⟩))
                go_ret3
                exact ⟨rfl, hk1.trans hk3⟩
        · rw [if_pos rfl] at hS
          clear v39 v10
          rw [show singleR s at_ e = (0, e, 102) from by rw [hS]; exact offR_eq (by omega)]
          clear hS
          go_enter Tryd.func37, Tryd.ntmps37
          go_wp2_with (first | (go_at_call_of 32 (Value.int IntKind.i64 (e : Int)); refine cn.mono ?_; rintro en w1 ⟨rfl, hk1⟩) | (go_at_call 57; refine (cc _).mono ?_; rintro en w2 ⟨rfl, rfl⟩) | (go_at_call 32; refine (cm _).mono ?_; rintro en w3 ⟨rfl, hk3⟩))
          go_ret3
          exact ⟨rfl, hk1⟩
end Go.Proofs.YtgfloplakjmncaaDoor
namespace Go.Proofs.YtgfloplakjmncaaDoor
open Go Go.RowKit
/-- The token at a place: kind, end, error. -/
def oneR (s : ByteArray) (at_ : Nat) : Nat × Nat × Nat :=
  if (nextL (s.data.toList.drop at_)).2.2 = true ∧ letterB (nextL (s.data.toList.drop at_)).1 = true then namedR s at_ (at_ + (nextL (s.data.toList.drop at_)).2.1)
  else if 48 ≤ (nextL (s.data.toList.drop at_)).1 ∧ (nextL (s.data.toList.drop at_)).1 ≤ 57 then numberedR s at_ (at_ + (nextL (s.data.toList.drop at_)).2.1)
  else if (nextL (s.data.toList.drop at_)).1 = 34 then quotedR s at_ (at_ + (nextL (s.data.toList.drop at_)).2.1)
  else if (nextL (s.data.toList.drop at_)).1 = 39 then singleR s at_ (at_ + (nextL (s.data.toList.drop at_)).2.1)
  else if (nextL (s.data.toList.drop at_)).1 = 123 ∨ Lib.hasPrefix (s.data.toList.drop at_) [47, 47] = true then commentR ((s.data.toList.getD at_ 0) == 47) s at_ (at_ + (nextL (s.data.toList.drop at_)).2.1)
  else if (signB (s.extract at_ s.size)).size = 0 then (0, at_, 100)
  else (6, at_ + (signB (s.extract at_ s.size)).size, 0)
theorem list_of_size {b : ByteArray} (h : ¬ b.size = 0) : b.toList.isEmpty = false := by
  cases hb : b.toList.isEmpty
  · rfl
  · rw [List.isEmpty_iff, Lib.toList_data] at hb
    have h2 := congrArg List.length hb
    simp at h2
    exact absurd (by rw [h2]; rfl) h
theorem empty_of_size {b : ByteArray} (h : b.size = 0) : b = ⟨#[]⟩ := by
  apply ByteArray.ext; apply Array.eq_empty_of_size_eq_zero; exact h
theorem byte47 (s : ByteArray) (k : Nat) (h : k < s.size) : ((((s[k]'h).toNat : Int)) == 47) = (s.data.toList.getD k 0 == 47) := by
  have : s.data.toList.getD k 0 = s[k]'h := by
    rw [List.getD_eq_getElem?_getD, List.getElem?_eq_getElem (by simpa using h)]; rfl
  rw [this]
  cases hb : (s[k]'h == 47)
  · rw [beq_eq_false_iff_ne] at hb ⊢
    intro h2; apply hb
    have : (s[k]'h).toNat = 47 := by omega
    exact UInt8.toNat_inj.1 this
  · rw [beq_iff_eq] at hb ⊢; rw [hb]; rfl
theorem signB_size (s : ByteArray) (k : Nat) : (signB (s.extract k s.size)).size ≤ s.size := by
  unfold signB
  by_cases h0 : (s.extract k s.size).size = 0
  · rw [if_pos h0]; exact Nat.zero_le _
  · rw [if_neg h0]
    have hsz : (s.extract k s.size).size = s.size - k := by simp
    cases hf : twoZs.find? (fun z => Lib.hasPrefix (s.extract k s.size).data.toList z.data.toList) with
    | some z =>
      have hp := List.find?_some hf
      have hm := (List.isPrefixOf_iff_prefix.1 hp).length_le
      simp at hm ⊢; omega
    | none =>
      dsimp only
      split
      · simp; omega
      · exact Nat.zero_le _
set_option maxRecDepth 100000 in
set_option maxHeartbeats 4000000 in
theorem one_calls (s : ByteArray) (at_ : Nat) (w : World) (hlt : at_ < s.size) (hs : s.size < 4611686018427387904) (hT : Cl w) :
    Calls Tryd.prog 18 #[.string s, .int .i64 at_] w fun en w' => en = .returned (oneV (oneR s at_)) ∧ Kp w w' := by
  have hS : oneR s at_ = oneR s at_ := rfl
  conv at hS => rhs; unfold oneR
  have hl : (s.data.toList.drop at_).length = s.size - at_ := by simp
  have hb := nextL_bounds (s.data.toList.drop at_)
  have cn := snext_calls s at_ w (by omega) hs
  rw [hl] at hb
  have i0 : (at_ : Int) < (s.size : Int) := by omega
  have i1 : (at_ : Int) ≤ (s.size : Int) := by omega
  have hdd : (s.extract at_ s.size).data.toList = s.data.toList.drop at_ := by simp [List.take_of_length_le]
  obtain ⟨y, hy⟩ : ∃ y, y = nextL (s.data.toList.drop at_) := ⟨_, rfl⟩
  rw [← hy] at hb cn hS
  clear hy hl
  obtain ⟨v, n, good⟩ := y
  dsimp only at hb cn hS
  obtain ⟨b1, b2, _, _, b5⟩ := hb
  clear b5
  have e2 : (at_ : Int) + n ≤ s.size := by omega
  have e1 : (at_ : Int) + n = ((at_ + n : Nat) : Int) := by omega
  have cl := fun w (hT : Tab w 1 letterTab) => letter_calls (v : Int) w hT
  obtain ⟨lt, hlt2⟩ : ∃ lt, lt = letterB (v : Int) := ⟨_, rfl⟩
  rw [← hlt2] at cl hS
  clear hlt2
  have KP : ∀ {a b c : World}, Kp a b → Kp b c → Kp a c := fun h k => h.trans k
  cases good
  · rw [if_neg (by simp)] at hS
    by_cases v48 : 48 ≤ v
    · have d1 : (48 : Int) ≤ (v : Int) := by omega
      by_cases v57 : v ≤ 57
      · have d2 : (v : Int) ≤ 57 := by omega
        rw [if_pos ⟨v48, v57⟩] at hS
        have cx := fun w => numbered_calls s at_ (at_ + n) w (by omega) (by omega) hs
        rw [← hS, ← e1] at cx; dsimp only [oneV] at cx
        clear hS; try clear e1
        go_enter Tryd.func18, Tryd.ntmps18
        go_wp2_with (first | (go_at_call 32; refine cn.mono ?_; rintro en w1 ⟨rfl, hk1⟩; have hT1 := hT.kp hk1) | (go_at_call 33; refine (cl _ hT1.1).mono ?_; rintro en w2 ⟨rfl, hk2⟩) | (go_at_call 35; refine (cx _).mono ?_; rintro en w3 ⟨rfl, hk3⟩))
        go_ret3
        exact ⟨rfl, hk1.trans hk3⟩
      · have d2 : ¬ (v : Int) ≤ 57 := by omega
        rw [if_neg (fun h => v57 h.2)] at hS
        clear v48
        by_cases v34 : v = 34
        · have d3 : ((v : Int) == 34) = true := beq_t (b := 34) v34
          rw [if_pos v34] at hS
          clear v34
          have cx := fun w => quoted_calls s at_ (at_ + n) w (by omega) (by omega) hs
          rw [← hS, ← e1] at cx; dsimp only [oneV] at cx
          clear hS; try clear e1
          go_enter Tryd.func18, Tryd.ntmps18
          go_wp2_with (first | (go_at_call 32; refine cn.mono ?_; rintro en w1 ⟨rfl, hk1⟩; have hT1 := hT.kp hk1) | (go_at_call 33; refine (cl _ hT1.1).mono ?_; rintro en w2 ⟨rfl, hk2⟩) | (go_at_call 36; refine (cx _).mono ?_; rintro en w3 ⟨rfl, hk3⟩))
          go_ret3
          exact ⟨rfl, hk1.trans hk3⟩
        · have d3 : ((v : Int) == 34) = false := beq_f (b := 34) v34
          rw [if_neg v34] at hS
          clear v34
          by_cases v39 : v = 39
          · have d4 : ((v : Int) == 39) = true := beq_t (b := 39) v39
            rw [if_pos v39] at hS
            clear v39
            have cx := fun w => single_calls s at_ (at_ + n) w (by omega) (by omega) hs
            rw [← hS, ← e1] at cx; dsimp only [oneV] at cx
            clear hS; try clear e1
            go_enter Tryd.func18, Tryd.ntmps18
            go_wp2_with (first | (go_at_call 32; refine cn.mono ?_; rintro en w1 ⟨rfl, hk1⟩; have hT1 := hT.kp hk1) | (go_at_call 33; refine (cl _ hT1.1).mono ?_; rintro en w2 ⟨rfl, hk2⟩) | (go_at_call 37; refine (cx _).mono ?_; rintro en w3 ⟨rfl, hk3⟩))
            go_ret3
            exact ⟨rfl, hk1.trans hk3⟩
          · have d4 : ((v : Int) == 39) = false := beq_f (b := 39) v39
            rw [if_neg v39] at hS
            clear v39
            have hline : ((((s[at_]'hlt).toNat : Int)) == 47) = (s.data.toList.getD at_ 0 == 47) := byte47 s at_ hlt
            by_cases v123 : v = 123
            · have d5 : ((v : Int) == 123) = true := beq_t (b := 123) v123
              rw [if_pos (Or.inl v123)] at hS
              clear v123
              have cx := fun w => comment_calls _ s at_ (at_ + n) w (by omega) (by omega) hs hlt hline
              rw [← hS, ← e1] at cx; dsimp only [oneV] at cx
              clear hS hline e1
              go_enter Tryd.func18, Tryd.ntmps18
              go_wp2_with (first | (go_at_call 32; refine cn.mono ?_; rintro en w1 ⟨rfl, hk1⟩; have hT1 := hT.kp hk1) | (go_at_call 33; refine (cl _ hT1.1).mono ?_; rintro en w2 ⟨rfl, hk2⟩) | (go_at_call 39; refine (cx _).mono ?_; rintro en w3 ⟨rfl, hk3⟩))
              go_ret3
              exact ⟨rfl, hk1.trans hk3⟩
            · have d5 : ((v : Int) == 123) = false := beq_f (b := 123) v123
              have cp := fun w => Tryd.strings_HasPrefix (s.extract at_ s.size) ⟨#[47, 47]⟩ w
              rw [hdd, show (⟨#[47, 47]⟩ : ByteArray).data.toList = [47, 47] from rfl] at cp
              have cs := fun w => sign_calls s at_ w hlt
              obtain ⟨hp, hhp⟩ : ∃ hp, hp = Lib.hasPrefix (s.data.toList.drop at_) [47, 47] := ⟨_, rfl⟩
              rw [← hhp] at cp hS
              clear hhp hdd
              cases hp
              · rw [if_neg (by simp [v123])] at hS
                clear v123 hline
                obtain ⟨g, hg⟩ : ∃ g, g = signB (s.extract at_ s.size) := ⟨_, rfl⟩
                have hgs : g.size ≤ s.size := by rw [hg]; exact signB_size s at_
                rw [← hg] at cs hS
                clear hg
                by_cases g0 : g.size = 0
                · rw [if_pos g0] at hS
                  have gE := empty_of_size g0
                  subst gE
                  clear g0
                  rw [hS]
                  clear hS; try clear e1
                  go_enter Tryd.func18, Tryd.ntmps18
                  go_wp2_with (first | (go_at_call 32; refine cn.mono ?_; rintro en w1 ⟨rfl, hk1⟩; have hT1 := hT.kp hk1) | (go_at_call 33; refine (cl _ hT1.1).mono ?_; rintro en w2 ⟨rfl, hk2⟩) | (go_at_call 38; refine (cp _).mono ?_; rintro en w4 ⟨rfl, rfl⟩) | (go_at_call 40; refine (cs _).mono ?_; rintro en w3 ⟨rfl, hk3⟩))
                  go_ret3
                  exact ⟨rfl, hk1.trans hk3⟩
                · rw [if_neg g0] at hS
                  have d6 := list_of_size g0
                  clear g0
                  rw [hS]
                  clear hS; try clear e1
                  go_enter Tryd.func18, Tryd.ntmps18
                  go_wp2_with (first | (go_at_call 32; refine cn.mono ?_; rintro en w1 ⟨rfl, hk1⟩; have hT1 := hT.kp hk1) | (go_at_call 33; refine (cl _ hT1.1).mono ?_; rintro en w2 ⟨rfl, hk2⟩) | (go_at_call 38; refine (cp _).mono ?_; rintro en w4 ⟨rfl, rfl⟩) | (go_at_call 40; refine (cs _).mono ?_; rintro en w3 ⟨rfl, hk3⟩))
                  go_ret3
                  exact ⟨rfl, (hk1.trans (by assumption)).trans hk3⟩
              · rw [if_pos (Or.inr rfl)] at hS
                clear v123
                have cx := fun w => comment_calls _ s at_ (at_ + n) w (by omega) (by omega) hs hlt hline
                rw [← hS, ← e1] at cx; dsimp only [oneV] at cx
                clear hS hline e1
                go_enter Tryd.func18, Tryd.ntmps18
                go_wp2_with (first | (go_at_call 32; refine cn.mono ?_; rintro en w1 ⟨rfl, hk1⟩; have hT1 := hT.kp hk1) | (go_at_call 33; refine (cl _ hT1.1).mono ?_; rintro en w2 ⟨rfl, hk2⟩) | (go_at_call 38; refine (cp _).mono ?_; rintro en w4 ⟨rfl, rfl⟩) | (go_at_call 39; refine (cx _).mono ?_; rintro en w3 ⟨rfl, hk3⟩))
                go_ret3
                exact ⟨rfl, hk1.trans hk3⟩
    · have d1 : ¬ (48 : Int) ≤ (v : Int) := by omega
      rw [if_neg (fun h => v48 h.1)] at hS
      clear v48
      by_cases v34 : v = 34
      · have d3 : ((v : Int) == 34) = true := beq_t (b := 34) v34
        rw [if_pos v34] at hS
        clear v34
        have cx := fun w => quoted_calls s at_ (at_ + n) w (by omega) (by omega) hs
        rw [← hS, ← e1] at cx; dsimp only [oneV] at cx
        clear hS; try clear e1
        go_enter Tryd.func18, Tryd.ntmps18
        go_wp2_with (first | (go_at_call 32; refine cn.mono ?_; rintro en w1 ⟨rfl, hk1⟩; have hT1 := hT.kp hk1) | (go_at_call 33; refine (cl _ hT1.1).mono ?_; rintro en w2 ⟨rfl, hk2⟩) | (go_at_call 36; refine (cx _).mono ?_; rintro en w3 ⟨rfl, hk3⟩))
        go_ret3
        exact ⟨rfl, hk1.trans hk3⟩
      · have d3 : ((v : Int) == 34) = false := beq_f (b := 34) v34
        rw [if_neg v34] at hS
        clear v34
        by_cases v39 : v = 39
        · have d4 : ((v : Int) == 39) = true := beq_t (b := 39) v39
          rw [if_pos v39] at hS
          clear v39
          have cx := fun w => single_calls s at_ (at_ + n) w (by omega) (by omega) hs
          rw [← hS, ← e1] at cx; dsimp only [oneV] at cx
          clear hS; try clear e1
          go_enter Tryd.func18, Tryd.ntmps18
          go_wp2_with (first | (go_at_call 32; refine cn.mono ?_; rintro en w1 ⟨rfl, hk1⟩; have hT1 := hT.kp hk1) | (go_at_call 33; refine (cl _ hT1.1).mono ?_; rintro en w2 ⟨rfl, hk2⟩) | (go_at_call 37; refine (cx _).mono ?_; rintro en w3 ⟨rfl, hk3⟩))
          go_ret3
          exact ⟨rfl, hk1.trans hk3⟩
        · have d4 : ((v : Int) == 39) = false := beq_f (b := 39) v39
          rw [if_neg v39] at hS
          clear v39
          have hline : ((((s[at_]'hlt).toNat : Int)) == 47) = (s.data.toList.getD at_ 0 == 47) := byte47 s at_ hlt
          by_cases v123 : v = 123
          · have d5 : ((v : Int) == 123) = true := beq_t (b := 123) v123
            rw [if_pos (Or.inl v123)] at hS
            clear v123
            have cx := fun w => comment_calls _ s at_ (at_ + n) w (by omega) (by omega) hs hlt hline
            rw [← hS, ← e1] at cx; dsimp only [oneV] at cx
            clear hS hline e1
            go_enter Tryd.func18, Tryd.ntmps18
            go_wp2_with (first | (go_at_call 32; refine cn.mono ?_; rintro en w1 ⟨rfl, hk1⟩; have hT1 := hT.kp hk1) | (go_at_call 33; refine (cl _ hT1.1).mono ?_; rintro en w2 ⟨rfl, hk2⟩) | (go_at_call 39; refine (cx _).mono ?_; rintro en w3 ⟨rfl, hk3⟩))
            go_ret3
            exact ⟨rfl, hk1.trans hk3⟩
          · have d5 : ((v : Int) == 123) = false := beq_f (b := 123) v123
            have cp := fun w => Tryd.strings_HasPrefix (s.extract at_ s.size) ⟨#[47, 47]⟩ w
            rw [hdd, show (⟨#[47, 47]⟩ : ByteArray).data.toList = [47, 47] from rfl] at cp
            have cs := fun w => sign_calls s at_ w hlt
            obtain ⟨hp, hhp⟩ : ∃ hp, hp = Lib.hasPrefix (s.data.toList.drop at_) [47, 47] := ⟨_, rfl⟩
            rw [← hhp] at cp hS
            clear hhp hdd
            cases hp
            · rw [if_neg (by simp [v123])] at hS
              clear v123 hline
              obtain ⟨g, hg⟩ : ∃ g, g = signB (s.extract at_ s.size) := ⟨_, rfl⟩
              have hgs : g.size ≤ s.size := by rw [hg]; exact signB_size s at_
              rw [← hg] at cs hS
              clear hg
              by_cases g0 : g.size = 0
              · rw [if_pos g0] at hS
                have gE := empty_of_size g0
                subst gE
                clear g0
                rw [hS]
                clear hS; try clear e1
                go_enter Tryd.func18, Tryd.ntmps18
                go_wp2_with (first | (go_at_call 32; refine cn.mono ?_; rintro en w1 ⟨rfl, hk1⟩; have hT1 := hT.kp hk1) | (go_at_call 33; refine (cl _ hT1.1).mono ?_; rintro en w2 ⟨rfl, hk2⟩) | (go_at_call 38; refine (cp _).mono ?_; rintro en w4 ⟨rfl, rfl⟩) | (go_at_call 40; refine (cs _).mono ?_; rintro en w3 ⟨rfl, hk3⟩))
                go_ret3
                exact ⟨rfl, hk1.trans hk3⟩
              · rw [if_neg g0] at hS
                have d6 := list_of_size g0
                clear g0
                rw [hS]
                clear hS; try clear e1
                go_enter Tryd.func18, Tryd.ntmps18
                go_wp2_with (first | (go_at_call 32; refine cn.mono ?_; rintro en w1 ⟨rfl, hk1⟩; have hT1 := hT.kp hk1) | (go_at_call 33; refine (cl _ hT1.1).mono ?_; rintro en w2 ⟨rfl, hk2⟩) | (go_at_call 38; refine (cp _).mono ?_; rintro en w4 ⟨rfl, rfl⟩) | (go_at_call 40; refine (cs _).mono ?_; rintro en w3 ⟨rfl, hk3⟩))
                go_ret3
                exact ⟨rfl, (hk1.trans (by assumption)).trans hk3⟩
            · rw [if_pos (Or.inr rfl)] at hS
              clear v123
              have cx := fun w => comment_calls _ s at_ (at_ + n) w (by omega) (by omega) hs hlt hline
              rw [← hS, ← e1] at cx; dsimp only [oneV] at cx
              clear hS hline e1
              go_enter Tryd.func18, Tryd.ntmps18
              go_wp2_with (first | (go_at_call 32; refine cn.mono ?_; rintro en w1 ⟨rfl, hk1⟩; have hT1 := hT.kp hk1) | (go_at_call 33; refine (cl _ hT1.1).mono ?_; rintro en w2 ⟨rfl, hk2⟩) | (go_at_call 38; refine (cp _).mono ?_; rintro en w4 ⟨rfl, rfl⟩) | (go_at_call 39; refine (cx _).mono ?_; rintro en w3 ⟨rfl, hk3⟩))
              go_ret3
              exact ⟨rfl, hk1.trans hk3⟩
  · cases lt
    · rw [if_neg (by simp)] at hS
      by_cases v48 : 48 ≤ v
      · have d1 : (48 : Int) ≤ (v : Int) := by omega
        by_cases v57 : v ≤ 57
        · have d2 : (v : Int) ≤ 57 := by omega
          rw [if_pos ⟨v48, v57⟩] at hS
          have cx := fun w => numbered_calls s at_ (at_ + n) w (by omega) (by omega) hs
          rw [← hS, ← e1] at cx; dsimp only [oneV] at cx
          clear hS; try clear e1
          go_enter Tryd.func18, Tryd.ntmps18
          go_wp2_with (first | (go_at_call 32; refine cn.mono ?_; rintro en w1 ⟨rfl, hk1⟩; have hT1 := hT.kp hk1) | (go_at_call 33; refine (cl _ hT1.1).mono ?_; rintro en w2 ⟨rfl, hk2⟩) | (go_at_call 35; refine (cx _).mono ?_; rintro en w3 ⟨rfl, hk3⟩))
          go_ret3
          exact ⟨rfl, (hk1.trans hk2).trans hk3⟩
        · have d2 : ¬ (v : Int) ≤ 57 := by omega
          rw [if_neg (fun h => v57 h.2)] at hS
          clear v48
          by_cases v34 : v = 34
          · have d3 : ((v : Int) == 34) = true := beq_t (b := 34) v34
            rw [if_pos v34] at hS
            clear v34
            have cx := fun w => quoted_calls s at_ (at_ + n) w (by omega) (by omega) hs
            rw [← hS, ← e1] at cx; dsimp only [oneV] at cx
            clear hS; try clear e1
            go_enter Tryd.func18, Tryd.ntmps18
            go_wp2_with (first | (go_at_call 32; refine cn.mono ?_; rintro en w1 ⟨rfl, hk1⟩; have hT1 := hT.kp hk1) | (go_at_call 33; refine (cl _ hT1.1).mono ?_; rintro en w2 ⟨rfl, hk2⟩) | (go_at_call 36; refine (cx _).mono ?_; rintro en w3 ⟨rfl, hk3⟩))
            go_ret3
            exact ⟨rfl, (hk1.trans hk2).trans hk3⟩
          · have d3 : ((v : Int) == 34) = false := beq_f (b := 34) v34
            rw [if_neg v34] at hS
            clear v34
            by_cases v39 : v = 39
            · have d4 : ((v : Int) == 39) = true := beq_t (b := 39) v39
              rw [if_pos v39] at hS
              clear v39
              have cx := fun w => single_calls s at_ (at_ + n) w (by omega) (by omega) hs
              rw [← hS, ← e1] at cx; dsimp only [oneV] at cx
              clear hS; try clear e1
              go_enter Tryd.func18, Tryd.ntmps18
              go_wp2_with (first | (go_at_call 32; refine cn.mono ?_; rintro en w1 ⟨rfl, hk1⟩; have hT1 := hT.kp hk1) | (go_at_call 33; refine (cl _ hT1.1).mono ?_; rintro en w2 ⟨rfl, hk2⟩) | (go_at_call 37; refine (cx _).mono ?_; rintro en w3 ⟨rfl, hk3⟩))
              go_ret3
              exact ⟨rfl, (hk1.trans hk2).trans hk3⟩
            · have d4 : ((v : Int) == 39) = false := beq_f (b := 39) v39
              rw [if_neg v39] at hS
              clear v39
              have hline : ((((s[at_]'hlt).toNat : Int)) == 47) = (s.data.toList.getD at_ 0 == 47) := byte47 s at_ hlt
              by_cases v123 : v = 123
              · have d5 : ((v : Int) == 123) = true := beq_t (b := 123) v123
                rw [if_pos (Or.inl v123)] at hS
                clear v123
                have cx := fun w => comment_calls _ s at_ (at_ + n) w (by omega) (by omega) hs hlt hline
                rw [← hS, ← e1] at cx; dsimp only [oneV] at cx
                clear hS hline e1
                go_enter Tryd.func18, Tryd.ntmps18
                go_wp2_with (first | (go_at_call 32; refine cn.mono ?_; rintro en w1 ⟨rfl, hk1⟩; have hT1 := hT.kp hk1) | (go_at_call 33; refine (cl _ hT1.1).mono ?_; rintro en w2 ⟨rfl, hk2⟩) | (go_at_call 39; refine (cx _).mono ?_; rintro en w3 ⟨rfl, hk3⟩))
                go_ret3
                exact ⟨rfl, (hk1.trans hk2).trans hk3⟩
              · have d5 : ((v : Int) == 123) = false := beq_f (b := 123) v123
                have cp := fun w => Tryd.strings_HasPrefix (s.extract at_ s.size) ⟨#[47, 47]⟩ w
                rw [hdd, show (⟨#[47, 47]⟩ : ByteArray).data.toList = [47, 47] from rfl] at cp
                have cs := fun w => sign_calls s at_ w hlt
                obtain ⟨hp, hhp⟩ : ∃ hp, hp = Lib.hasPrefix (s.data.toList.drop at_) [47, 47] := ⟨_, rfl⟩
                rw [← hhp] at cp hS
                clear hhp hdd
                cases hp
                · rw [if_neg (by simp [v123])] at hS
                  clear v123 hline
                  obtain ⟨g, hg⟩ : ∃ g, g = signB (s.extract at_ s.size) := ⟨_, rfl⟩
                  have hgs : g.size ≤ s.size := by rw [hg]; exact signB_size s at_
                  rw [← hg] at cs hS
                  clear hg
                  by_cases g0 : g.size = 0
                  · rw [if_pos g0] at hS
                    have gE := empty_of_size g0
                    subst gE
                    clear g0
                    rw [hS]
                    clear hS; try clear e1
                    go_enter Tryd.func18, Tryd.ntmps18
                    go_wp2_with (first | (go_at_call 32; refine cn.mono ?_; rintro en w1 ⟨rfl, hk1⟩; have hT1 := hT.kp hk1) | (go_at_call 33; refine (cl _ hT1.1).mono ?_; rintro en w2 ⟨rfl, hk2⟩) | (go_at_call 38; refine (cp _).mono ?_; rintro en w4 ⟨rfl, rfl⟩) | (go_at_call 40; refine (cs _).mono ?_; rintro en w3 ⟨rfl, hk3⟩))
                    go_ret3
                    exact ⟨rfl, (hk1.trans hk2).trans hk3⟩
                  · rw [if_neg g0] at hS
                    have d6 := list_of_size g0
                    clear g0
                    rw [hS]
                    clear hS; try clear e1
                    go_enter Tryd.func18, Tryd.ntmps18
                    go_wp2_with (first | (go_at_call 32; refine cn.mono ?_; rintro en w1 ⟨rfl, hk1⟩; have hT1 := hT.kp hk1) | (go_at_call 33; refine (cl _ hT1.1).mono ?_; rintro en w2 ⟨rfl, hk2⟩) | (go_at_call 38; refine (cp _).mono ?_; rintro en w4 ⟨rfl, rfl⟩) | (go_at_call 40; refine (cs _).mono ?_; rintro en w3 ⟨rfl, hk3⟩))
                    go_ret3
                    exact ⟨rfl, ((hk1.trans hk2).trans (by assumption)).trans hk3⟩
                · rw [if_pos (Or.inr rfl)] at hS
                  clear v123
                  have cx := fun w => comment_calls _ s at_ (at_ + n) w (by omega) (by omega) hs hlt hline
                  rw [← hS, ← e1] at cx; dsimp only [oneV] at cx
                  clear hS hline e1
                  go_enter Tryd.func18, Tryd.ntmps18
                  go_wp2_with (first | (go_at_call 32; refine cn.mono ?_; rintro en w1 ⟨rfl, hk1⟩; have hT1 := hT.kp hk1) | (go_at_call 33; refine (cl _ hT1.1).mono ?_; rintro en w2 ⟨rfl, hk2⟩) | (go_at_call 38; refine (cp _).mono ?_; rintro en w4 ⟨rfl, rfl⟩) | (go_at_call 39; refine (cx _).mono ?_; rintro en w3 ⟨rfl, hk3⟩))
                  go_ret3
                  exact ⟨rfl, (hk1.trans hk2).trans hk3⟩
      · have d1 : ¬ (48 : Int) ≤ (v : Int) := by omega
        rw [if_neg (fun h => v48 h.1)] at hS
        clear v48
        by_cases v34 : v = 34
        · have d3 : ((v : Int) == 34) = true := beq_t (b := 34) v34
          rw [if_pos v34] at hS
          clear v34
          have cx := fun w => quoted_calls s at_ (at_ + n) w (by omega) (by omega) hs
          rw [← hS, ← e1] at cx; dsimp only [oneV] at cx
          clear hS; try clear e1
          go_enter Tryd.func18, Tryd.ntmps18
          go_wp2_with (first | (go_at_call 32; refine cn.mono ?_; rintro en w1 ⟨rfl, hk1⟩; have hT1 := hT.kp hk1) | (go_at_call 33; refine (cl _ hT1.1).mono ?_; rintro en w2 ⟨rfl, hk2⟩) | (go_at_call 36; refine (cx _).mono ?_; rintro en w3 ⟨rfl, hk3⟩))
          go_ret3
          exact ⟨rfl, (hk1.trans hk2).trans hk3⟩
        · have d3 : ((v : Int) == 34) = false := beq_f (b := 34) v34
          rw [if_neg v34] at hS
          clear v34
          by_cases v39 : v = 39
          · have d4 : ((v : Int) == 39) = true := beq_t (b := 39) v39
            rw [if_pos v39] at hS
            clear v39
            have cx := fun w => single_calls s at_ (at_ + n) w (by omega) (by omega) hs
            rw [← hS, ← e1] at cx; dsimp only [oneV] at cx
            clear hS; try clear e1
            go_enter Tryd.func18, Tryd.ntmps18
            go_wp2_with (first | (go_at_call 32; refine cn.mono ?_; rintro en w1 ⟨rfl, hk1⟩; have hT1 := hT.kp hk1) | (go_at_call 33; refine (cl _ hT1.1).mono ?_; rintro en w2 ⟨rfl, hk2⟩) | (go_at_call 37; refine (cx _).mono ?_; rintro en w3 ⟨rfl, hk3⟩))
            go_ret3
            exact ⟨rfl, (hk1.trans hk2).trans hk3⟩
          · have d4 : ((v : Int) == 39) = false := beq_f (b := 39) v39
            rw [if_neg v39] at hS
            clear v39
            have hline : ((((s[at_]'hlt).toNat : Int)) == 47) = (s.data.toList.getD at_ 0 == 47) := byte47 s at_ hlt
            by_cases v123 : v = 123
            · have d5 : ((v : Int) == 123) = true := beq_t (b := 123) v123
              rw [if_pos (Or.inl v123)] at hS
              clear v123
              have cx := fun w => comment_calls _ s at_ (at_ + n) w (by omega) (by omega) hs hlt hline
              rw [← hS, ← e1] at cx; dsimp only [oneV] at cx
              clear hS hline e1
              go_enter Tryd.func18, Tryd.ntmps18
              go_wp2_with (first | (go_at_call 32; refine cn.mono ?_; rintro en w1 ⟨rfl, hk1⟩; have hT1 := hT.kp hk1) | (go_at_call 33; refine (cl _ hT1.1).mono ?_; rintro en w2 ⟨rfl, hk2⟩) | (go_at_call 39; refine (cx _).mono ?_; rintro en w3 ⟨rfl, hk3⟩))
              go_ret3
              exact ⟨rfl, (hk1.trans hk2).trans hk3⟩
            · have d5 : ((v : Int) == 123) = false := beq_f (b := 123) v123
              have cp := fun w => Tryd.strings_HasPrefix (s.extract at_ s.size) ⟨#[47, 47]⟩ w
              rw [hdd, show (⟨#[47, 47]⟩ : ByteArray).data.toList = [47, 47] from rfl] at cp
              have cs := fun w => sign_calls s at_ w hlt
              obtain ⟨hp, hhp⟩ : ∃ hp, hp = Lib.hasPrefix (s.data.toList.drop at_) [47, 47] := ⟨_, rfl⟩
              rw [← hhp] at cp hS
              clear hhp hdd
              cases hp
              · rw [if_neg (by simp [v123])] at hS
                clear v123 hline
                obtain ⟨g, hg⟩ : ∃ g, g = signB (s.extract at_ s.size) := ⟨_, rfl⟩
                have hgs : g.size ≤ s.size := by rw [hg]; exact signB_size s at_
                rw [← hg] at cs hS
                clear hg
                by_cases g0 : g.size = 0
                · rw [if_pos g0] at hS
                  have gE := empty_of_size g0
                  subst gE
                  clear g0
                  rw [hS]
                  clear hS; try clear e1
                  go_enter Tryd.func18, Tryd.ntmps18
                  go_wp2_with (first | (go_at_call 32; refine cn.mono ?_; rintro en w1 ⟨rfl, hk1⟩; have hT1 := hT.kp hk1) | (go_at_call 33; refine (cl _ hT1.1).mono ?_; rintro en w2 ⟨rfl, hk2⟩) | (go_at_call 38; refine (cp _).mono ?_; rintro en w4 ⟨rfl, rfl⟩) | (go_at_call 40; refine (cs _).mono ?_; rintro en w3 ⟨rfl, hk3⟩))
                  go_ret3
                  exact ⟨rfl, (hk1.trans hk2).trans hk3⟩
                · rw [if_neg g0] at hS
                  have d6 := list_of_size g0
                  clear g0
                  rw [hS]
                  clear hS; try clear e1
                  go_enter Tryd.func18, Tryd.ntmps18
                  go_wp2_with (first | (go_at_call 32; refine cn.mono ?_; rintro en w1 ⟨rfl, hk1⟩; have hT1 := hT.kp hk1) | (go_at_call 33; refine (cl _ hT1.1).mono ?_; rintro en w2 ⟨rfl, hk2⟩) | (go_at_call 38; refine (cp _).mono ?_; rintro en w4 ⟨rfl, rfl⟩) | (go_at_call 40; refine (cs _).mono ?_; rintro en w3 ⟨rfl, hk3⟩))
                  go_ret3
                  exact ⟨rfl, ((hk1.trans hk2).trans (by assumption)).trans hk3⟩
              · rw [if_pos (Or.inr rfl)] at hS
                clear v123
                have cx := fun w => comment_calls _ s at_ (at_ + n) w (by omega) (by omega) hs hlt hline
                rw [← hS, ← e1] at cx; dsimp only [oneV] at cx
                clear hS hline e1
                go_enter Tryd.func18, Tryd.ntmps18
                go_wp2_with (first | (go_at_call 32; refine cn.mono ?_; rintro en w1 ⟨rfl, hk1⟩; have hT1 := hT.kp hk1) | (go_at_call 33; refine (cl _ hT1.1).mono ?_; rintro en w2 ⟨rfl, hk2⟩) | (go_at_call 38; refine (cp _).mono ?_; rintro en w4 ⟨rfl, rfl⟩) | (go_at_call 39; refine (cx _).mono ?_; rintro en w3 ⟨rfl, hk3⟩))
                go_ret3
                exact ⟨rfl, (hk1.trans hk2).trans hk3⟩
    · rw [if_pos ⟨rfl, rfl⟩] at hS
      have cx := fun w hT => named_calls s at_ (at_ + n) w (by omega) (by omega) hs hT
      rw [← hS, ← e1] at cx; dsimp only [oneV] at cx
      clear hS; try clear e1
      go_enter Tryd.func18, Tryd.ntmps18
      go_wp2_with (first | (go_at_call 32; refine cn.mono ?_; rintro en w1 ⟨rfl, hk1⟩; have hT1 := hT.kp hk1) | (go_at_call 33; refine (cl _ hT1.1).mono ?_; rintro en w2 ⟨rfl, hk2⟩) | (go_at_call 34; refine (cx _ (hT1.kp hk2)).mono ?_; rintro en w3 ⟨rfl, hk3⟩))
      go_ret3
      exact ⟨rfl, (hk1.trans hk2).trans hk3⟩
end Go.Proofs.YtgfloplakjmncaaDoor
