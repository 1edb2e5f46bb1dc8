/- Walks of package char (Count) and place (Start). By an AI agent; no person has read it. -/
import Derived.Test.YtlglnepfcihhiaaDoorProg
import Derived.Test.YtlglnepfcihhiaaDoorUtf
import Derived.WalkKit
import Derived.WalkSpells
import Derived.WalkLawsBesides
import Derived.Lib.Walk
import Derived.Lib.Hide
import Derived.Laws.RangeString
import Derived.Laws.RangeAny
import Derived.LoopTactic
import Derived.Outline
set_option linter.unusedSimpArgs false
set_option linter.unusedVariables false
namespace Go.Proofs.YtlglnepfcihhiaaDoor
open Go Go.RowKit

/-- Of what was there, nothing has turned. -/
abbrev Kp (w w' : World) : Prop := Below w.heap.size w w'
theorem Kp.refl (w : World) : Kp w w := Below.refl _ _
theorem Kp.trans {a b c : World} (h : Kp a b) (k : Kp b c) : Kp a c := Below.trans h ⟨k.os, k.tape, k.output, k.size, fun i hi => k.block i (Nat.lt_of_lt_of_le hi h.size)⟩
theorem Kp.alloc {a b : World} (h : Kp a b) (o : Obj) : Kp a (b.alloc o) := Below.alloc h h.size o
theorem Kp.drew {a b : World} (h : Kp a b) : Kp a b.drew := ⟨h.os, h.tape, h.output, h.size, h.block⟩
theorem Kp.drewN {a b : World} (h : Kp a b) (n : Nat) : Kp a (b.drewN n) := ⟨h.os, h.tape, h.output, h.size, h.block⟩
theorem Kp.iter {a b : World} (h : Kp a b) (s : ByteArray) (pos : Nat) : Kp a (b.iter s pos) := by
  exact h.alloc _

set_option maxHeartbeats 1000000 in
theorem start_calls (w : World) : Calls Tryd.prog 13 #[] w fun e w' => e = .returned (.agg #[.int .i64 0, .int .i64 1, .int .i64 1]) ∧ Kp w w' := by
  go_enter Tryd.func13, Tryd.ntmps13
  go_wp2
  exact bodyPost_ret (v := .agg #[.int .i64 0, .int .i64 1, .int .i64 1]) (by simp [results, Tryd.results13, go_sem]) rfl ⟨rfl, (Kp.refl _).alloc _⟩

theorem decode_pos (s : ByteArray) (pos : Nat) (h : pos < s.size) : 1 ≤ (Utf8.decode s pos).2 ∧ pos + (Utf8.decode s pos).2 ≤ s.size := by
  rw [decode_dec s pos h]
  have := dec_width (s.data.toList.drop pos) (by simp; exact h)
  simp at this
  omega
theorem chs_at (s : ByteArray) (pos : Nat) (h : pos < s.size) : chs (s.data.toList.drop pos) = Utf8.decode s pos :: chs (s.data.toList.drop (pos + (Utf8.decode s pos).2)) := by
  rw [chs_cons _ (by simp; exact h), ← decode_dec s pos h, List.drop_drop]
theorem chs_end (s : ByteArray) (pos : Nat) (h : ¬ pos < s.size) : chs (s.data.toList.drop pos) = [] := by
  rw [List.drop_eq_nil_of_le (by simpa using h)]; rfl

set_option maxHeartbeats 4000000 in
/-- char.Count: how many characters there are. -/
theorem count_calls (s : ByteArray) (w : World) (hs : s.size < 9223372036854775807) :
    Calls Tryd.prog 9 #[.string s] w fun e w' => e = .returned (.int .i64 (chs s.data.toList).length) ∧ Kp w w' := by
  go_enter Tryd.func9, Tryd.ntmps9
  go_wp2
  go_loopw [3] (fun n w' => ∃ (pos acc : Nat), w' = w.iter s pos ∧ n = .int .i64 acc ∧ acc + (chs (s.data.toList.drop pos)).length = (chs s.data.toList).length ∧ acc ≤ pos ∧ pos ≤ s.size) (fun _ w' => s.size - w'.iterPos w.heap.size)
  case atStart => exact ⟨0, 0, rfl, rfl, by simp, by omega, by omega⟩
  case round =>
    obtain ⟨pos, acc, rfl, rfl, hc, ha, hb⟩ := hrel
    by_cases hp : pos < s.size
    · have hnx : ∀ ty, (Instr.next (.pointer (some ⟨w.heap.size, 0, none⟩)) true ty).run Tryd.prog (w.iter s pos) = _ := fun ty => run_next_any w s pos ty hp
      have hwd := decode_pos s pos hp
      have hc2 := chs_at s pos hp
      have H := Lib.hid hc2
      clear hc2
      go_wp2
      go_roundw
      case rel =>
        refine ⟨pos + (Utf8.decode s pos).2, acc + 1, rfl, by go_num, ?_, by omega, by omega⟩
        rw [H.out] at hc
        simp only [List.length_cons] at hc
        omega
      case measure =>
        simp
        omega
    · have hnx : ∀ ty, (Instr.next (.pointer (some ⟨w.heap.size, 0, none⟩)) true ty).run Tryd.prog (w.iter s pos) = _ := fun ty => run_next_end w s pos ty hp
      go_wp2
      go_ret
      rw [chs_end s pos hp, List.length_nil, Nat.add_zero] at hc
      subst hc
      exact ⟨rfl, (Kp.refl _).iter _ _⟩
end Go.Proofs.YtlglnepfcihhiaaDoor
