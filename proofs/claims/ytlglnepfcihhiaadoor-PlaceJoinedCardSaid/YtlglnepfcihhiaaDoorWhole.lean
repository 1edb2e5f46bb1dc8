/- The contract of char.Whole. By an AI agent; no person has read it. -/
import Derived.Test.YtlglnepfcihhiaaDoorFullRune
import Derived.Lib.Strings
import Derived.Lib.IndexBytes
set_option linter.unusedSimpArgs false
set_option linter.unusedVariables false
namespace Go.Proofs.YtlglnepfcihhiaaDoor
open Go Go.RowKit

theorem extract_list (s : ByteArray) (a : Nat) : (s.extract a s.size).data.toList = s.data.toList.drop a := by
  rw [Lib.extract_data]
  exact List.take_of_length_le (by simp)
theorem wholeL_1 {l : List UInt8} (n : Nat) (hn : 1 ≤ n) (h3 : n ≤ 3) (hl : n ≤ l.length) (hf : ¬ full (l.drop (l.length - n))) (hb : ∀ m, 1 ≤ m → m < n → full (l.drop (l.length - m))) : wholeL l = l.length - n := by
  unfold wholeL
  rcases (by omega : n = 1 ∨ n = 2 ∨ n = 3) with rfl | rfl | rfl
  · rw [if_pos ⟨hl, hf⟩]
  · rw [if_neg (fun h => h.2 (hb 1 (by omega) (by omega))), if_pos ⟨hl, hf⟩]
  · rw [if_neg (fun h => h.2 (hb 1 (by omega) (by omega))), if_neg (fun h => h.2 (hb 2 (by omega) (by omega))), if_pos ⟨hl, hf⟩]
theorem wholeL_all {l : List UInt8} (n : Nat) (hn : ¬ (n < 4 ∧ n ≤ l.length)) (hb : ∀ m, 1 ≤ m → m < n → full (l.drop (l.length - m))) : wholeL l = l.length := by
  unfold wholeL
  rw [if_neg, if_neg, if_neg]
  · rintro ⟨h1, h2⟩; exact h2 (hb 3 (by omega) (by omega))
  · rintro ⟨h1, h2⟩; exact h2 (hb 2 (by omega) (by omega))
  · rintro ⟨h1, h2⟩; exact h2 (hb 1 (by omega) (by omega))

set_option maxRecDepth 100000 in
set_option maxHeartbeats 1000000 in
theorem whole_calls (s : ByteArray) (w : World) (hs : s.size ≤ 9223372036854775807) (hT : U8 w) :
    Calls Tryd.prog 4 #[.string s] w fun e w' => e = .returned (.int .i64 (wholeL s.data.toList)) ∧ Kp w w' := by
  have hlen : s.data.toList.length = s.size := by simp
  have HL := Lib.hid hlen
  clear hlen
  go_enter Tryd.func4, Tryd.ntmps4
  go_wp2
  go_loopw [3] (fun v wr => ∃ n : Nat, v = .int .i64 n ∧ 1 ≤ n ∧ n ≤ 4 ∧ Kp w wr ∧ Hid (∀ m, 1 ≤ m → m < n → full (s.data.toList.drop (s.data.toList.length - m)))) (fun v _ => 4 - (intOf v).toNat)
  case atStart => exact ⟨1, rfl, by omega, by omega, Kp.refl _, fun m h1 h2 => by omega⟩
  case round =>
    obtain ⟨n, rfl, h1, h4, hk, hb⟩ := hrel
    by_cases hc : n < 4 ∧ n ≤ s.size
    · obtain ⟨c1, c2⟩ := hc
      have e1 : (n : Int) < 4 := by omega
      have e2 : (n : Int) ≤ (s.size : Int) := by omega
      have hU := hT.kp hk
      have hx : (s.extract (s.size - n) s.size).size = n := by simp; omega
      have hx0 : 0 < (s.extract (s.size - n) s.size).size := by omega
      clear hx
      have hcall := fun w' hT => fullRune_calls (s.extract (s.size - n) s.size) w' hx0 hT
      cases hf : fullB (s.extract (s.size - n) s.size).data.toList
      · rw [hf] at hcall
        have hf2 : wholeL s.data.toList = s.size - n := by
          have h := HL.out
          rw [wholeL_1 n h1 (by omega) (by omega) ?_ hb.out, h]
          rw [h, ← extract_list]
          simpa [fullB] using hf
        have e3 : ((s.size - n : Nat) : Int) = (s.size : Int) - n := by omega
        have HF := Lib.hid hf2
        have HE := Lib.hid e3
        clear hf hf2 e3
        go_wp2_with fail
        refine (hcall _ hU).mono ?_
        rintro e w1 ⟨rfl, hk1⟩
        go_wp2
        go_ret
        rw [HF.out, HE.out]
        exact ⟨rfl, hk.trans hk1⟩
      · rw [hf] at hcall
        have hf2 : full (s.data.toList.drop (s.data.toList.length - n)) := by
          have h := HL.out
          rw [h, ← extract_list]
          simpa [fullB] using hf
        have HF := Lib.hid hf2
        clear hf hf2
        go_wp2_with fail
        refine (hcall _ hU).mono ?_
        rintro e w1 ⟨rfl, hk1⟩
        go_wp2
        go_roundw
        case rel => exact ⟨n + 1, by go_num, by omega, by omega, hk.trans hk1, fun m m1 m2 => by
          by_cases hm : m = n
          · rw [hm]; exact HF.out
          · exact hb.out m m1 (by omega)⟩
        case measure => simp [intOf]; omega
    · have hw : wholeL s.data.toList = s.size := by
        have h := HL.out
        rw [wholeL_all n (by rw [h]; exact hc) hb.out, h]
      have HW := Lib.hid hw
      clear hw
      by_cases c1 : n < 4
      · have e1 : (n : Int) < 4 := by omega
        have e2 : ¬ (n : Int) ≤ (s.size : Int) := by omega
        go_wp2
        go_ret
        rw [HW.out]
        exact ⟨rfl, hk⟩
      · have e1 : ¬ (n : Int) < 4 := by omega
        go_wp2
        go_ret
        rw [HW.out]
        exact ⟨rfl, hk⟩
end Go.Proofs.YtlglnepfcihhiaaDoor
