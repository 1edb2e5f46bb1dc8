/- The contract of place.Of. By an AI agent; no person has read it. -/
import Derived.Test.YtlglnepfcihhiaaDoorAdv
set_option linter.unusedSimpArgs false
set_option linter.unusedVariables false
namespace Go.Proofs.YtlglnepfcihhiaaDoor
open Go Go.RowKit

/-- The begin of a source. -/
abbrev pl1 : Pl := ⟨0, 1, 1⟩
theorem extract_take (s : ByteArray) (k : Nat) : (s.extract 0 k).data.toList = s.data.toList.take k := by
  rw [Lib.extract_data]; simp

set_option maxRecDepth 100000 in
set_option maxHeartbeats 1000000 in
theorem of_calls (s : ByteArray) (k : Nat) (w : World) (hk : k ≤ s.size) (hs : s.size < 4611686018427387904) :
    Calls Tryd.prog 12 #[.string s, .int .i64 k] w fun e w' => e = .returned (.tuple #[plV (adv pl1 (s.data.toList.take k)), .int .i64 0]) ∧ Kp w w' := by
  have c1 := fun w' => advance_calls pl1 (s.extract 0 k) w' (by simp; omega)
  rw [extract_take] at c1
  dsimp only at c1
  have e1 : (0 : Int) ≤ (k : Int) := by omega
  have e2 : (k : Int) ≤ (s.size : Int) := by omega
  generalize adv pl1 (s.data.toList.take k) = q at *
  go_enter Tryd.func12, Tryd.ntmps12
  go_wp2_with fail
  go_region_with (first | (go_at_call 13; refine (start_calls _).mono ?_; rintro e w1 ⟨rfl, hk1⟩; obtain ⟨hc1, hf1⟩ := bcell hk1; have hsz1 := hk1.size; try simp at hsz1; have hlt1 : w.heap.size < w1.heap.size := by omega) | (go_at_call 5; refine (c1 _).mono ?_; rintro e w2 ⟨rfl, hk2⟩; obtain ⟨hc2, hf2⟩ := bcell hk2; have hsz2 := hk2.size; try simp at hsz2; have hlt2 : w.heap.size < w2.heap.size := by omega))
  all_goals go_wp2
  all_goals (refine bodyPost_ret (v := .tuple #[plV q, .int .i64 0]) (by simp [results, Tryd.results12, go_sem, hc1, hc2, hlt1, Act.put]) (by simp [Act.put]) ⟨rfl, ?_⟩)
  all_goals (repeat (first | exact Kp.refl _ | with_reducible apply Kp.drew | with_reducible apply Kp.alloc | (with_reducible refine Kp.setCell ?_ (by first | (simp; done) | (simp; omega)) _) | (with_reducible refine Kp.of ?_ hk2) | (with_reducible refine Kp.of ?_ hk1)))
end Go.Proofs.YtlglnepfcihhiaaDoor
