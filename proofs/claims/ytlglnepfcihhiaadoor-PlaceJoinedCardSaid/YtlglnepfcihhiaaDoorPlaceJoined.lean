/- The walk of colophonlaw03.PlaceJoined. By an AI agent; no person has read it. -/
import Derived.Test.YtlglnepfcihhiaaDoorAwake03
import Derived.Lib.QuietBelow
set_option linter.unusedSimpArgs false
set_option linter.unusedVariables false
namespace Go.Proofs.YtlglnepfcihhiaaDoor
open Go Go.RowKit Go.Sort

set_option maxRecDepth 100000 in
set_option maxHeartbeats 1000000 in
theorem placeJoined_long (p : Pl) (a b : ByteArray) (w : World) (ha : (268435455 : Int) < (a.size : Int)) :
    Calls Tryd.prog 3 #[.agg #[.int .i64 p.at_, .int .i64 p.line, .int .i64 p.col], .string a, .string b] w fun e w' => e = .returned (.bool true) ∧ Kp w w' := by
  go_enter Tryd.func3, Tryd.ntmps3
  go_wp2_with fail
  go_ret
  exact ⟨rfl, (Kp.refl _).alloc _⟩
set_option maxRecDepth 100000 in
set_option maxHeartbeats 1000000 in
theorem placeJoined_long2 (p : Pl) (a b : ByteArray) (w : World) (ha : ¬ (268435455 : Int) < (a.size : Int)) (hb : (268435455 : Int) < (b.size : Int)) :
    Calls Tryd.prog 3 #[.agg #[.int .i64 p.at_, .int .i64 p.line, .int .i64 p.col], .string a, .string b] w fun e w' => e = .returned (.bool true) ∧ Kp w w' := by
  go_enter Tryd.func3, Tryd.ntmps3
  go_wp2_with fail
  go_ret
  exact ⟨rfl, (Kp.refl _).alloc _⟩

set_option maxRecDepth 100000 in
set_option maxHeartbeats 2000000 in
theorem placeJoined_walk (p : Pl) (hp : p.ok) (a b : ByteArray) (w : World) (ha : ¬ (268435455 : Int) < (a.size : Int)) (hb : ¬ (268435455 : Int) < (b.size : Int)) (hT : U8 w) (hm : ML w) :
    Calls Tryd.prog 3 #[.agg #[.int .i64 p.at_, .int .i64 p.line, .int .i64 p.col], .string a, .string b] w fun e w' => e = .returned (.bool true) ∧ Kp w w' := by
  obtain ⟨k, hk⟩ : ∃ k, k = wholeL a.data.toList := ⟨_, rfl⟩
  have hka : k ≤ a.size := by rw [hk]; simpa using wholeL_le a.data.toList
  have cW := whole_calls a (w.alloc (.cells #[.int .i64 p.at_, .int .i64 p.line, .int .i64 p.col] 23)) (by omega) (hT.kp ((Kp.refl _).alloc _))
  rw [← hk] at cW
  obtain ⟨q1, hq1⟩ : ∃ q1, q1 = adv p (a.data.toList.take k) := ⟨_, rfl⟩
  obtain ⟨q, hq⟩ : ∃ q, q = adv p (a.data.toList ++ b.data.toList) := ⟨_, rfl⟩
  have c1 := fun w' => advance_calls p (a.extract 0 k) w' (by simp; omega)
  rw [extract_take, ← hq1] at c1
  have c2 := fun w' => advance_calls q1 (a.extract k a.size ++ b) w' (by simp; omega)
  rw [show (a.extract k a.size ++ b).data.toList = (a.extract k a.size).data.toList ++ b.data.toList by simp, extract_list, hq1, hk, adv_whole, ← hq, ← hk, ← hq1] at c2
  have c3 := fun w' => advance_calls p (a ++ b) w' (by simp; omega)
  rw [show (a ++ b).data.toList = a.data.toList ++ b.data.toList by simp, ← hq] at c3
  have c4 := fun w' => advance_calls p ⟨#[]⟩ w' (by decide)
  rw [show (⟨#[]⟩ : ByteArray).data.toList = [] by rfl, adv_nil p hp] at c4
  clear hq hq1 hk
  have e1 : (0 : Int) ≤ (k : Int) := by omega
  have e2 : (k : Int) ≤ (a.size : Int) := by omega
  have n1 : ¬ 9223372036854775807 < a.size - k + b.size := by omega
  have n2 : ¬ 9223372036854775807 < a.size + b.size := by omega
  go_enter Tryd.func3, Tryd.ntmps3
  go_wp2_with fail
  refine cW.mono ?_
  rintro e w1 ⟨rfl, hk1⟩
  have hB := ((Has.new w #[.int .i64 p.at_, .int .i64 p.line, .int .i64 p.col] 23).kp hk1)
  have hm1 := hm.kp (((Kp.refl w).alloc (.cells #[.int .i64 p.at_, .int .i64 p.line, .int .i64 p.col] 23)).trans hk1)
  have hc : ∀ i v, (#[.int .i64 p.at_, .int .i64 p.line, .int .i64 p.col] : Array Value)[i]? = some v → ∀ d os, (grow (redrawn w1 d) os).cell? ⟨w.heap.size, i, none⟩ = some v := fun i v h d os => cell_regrown (by rw [hB.cell, h]) d os
  have hc0 := hc 0 _ rfl
  have hc1 := hc 1 _ rfl
  have hc2 := hc 2 _ rfl
  clear hc
  go_wp2_with fail
  refine wp_region_quiet_below (by kernel_rfl) (by kernel_rfl) ?_
  repeat (quiet_step (first | (go_at_call 6; exact Calls.regrown_of (awake03_calls _ (hm1.kp (below_regrown _ _ _)))) | (go_at_call_of 5 (a.extract 0 k); exact Calls.regrown_of (c1 _)) | (go_at_call_of 5 (a.extract k a.size ++ b); exact Calls.regrown_of (c2 _)) | (go_at_call_of 5 (a ++ b); exact Calls.regrown_of (c3 _)) | (go_at_call_of 5 (Value.string ⟨#[]⟩); exact Calls.regrown_of (c4 _))))
  refine wpQuiet_nil ?_
  intro _ hw'
  obtain ⟨⟨dq, osq⟩, hw''⟩ := hw'
  subst hw''
  go_wp2
  go_ret
  exact ⟨rfl, (((Kp.refl w).alloc (.cells #[.int .i64 p.at_, .int .i64 p.line, .int .i64 p.col] 23)).trans hk1).trans (below_regrown _ _ _)⟩
end Go.Proofs.YtlglnepfcihhiaaDoor
