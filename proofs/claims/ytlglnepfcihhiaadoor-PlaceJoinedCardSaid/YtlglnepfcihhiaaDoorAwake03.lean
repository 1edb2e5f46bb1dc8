/- The contract of colophonlaw03.awake. By an AI agent; no person has read it. -/
import Derived.Test.YtlglnepfcihhiaaDoorLine
set_option linter.unusedSimpArgs false
set_option linter.unusedVariables false
namespace Go.Proofs.YtlglnepfcihhiaaDoor
open Go Go.RowKit

theorem line_ex (w : World) (hm : ML w) : Calls Tryd.prog 11 #[.string ⟨#[97, 10, 98]⟩, .int .i64 2] w fun e w' => e = .returned (.tuple #[.string ⟨#[98]⟩, .bool true]) ∧ Kp w w' := by
  have h := line_calls ⟨#[97, 10, 98]⟩ 2 w (by decide) hm
  rw [show lineF ((⟨#[97, 10, 98]⟩ : ByteArray).size + 1) ⟨#[97, 10, 98]⟩ 2 = some ⟨#[98]⟩ from by kernel_rfl] at h
  exact h
theorem of_ex (w : World) : Calls Tryd.prog 12 #[.string ⟨#[195, 169, 97]⟩, .int .i64 2] w fun e w' => e = .returned (.tuple #[.agg #[.int .i64 2, .int .i64 1, .int .i64 2], .int .i64 0]) ∧ Kp w w' := by
  have h := of_calls ⟨#[195, 169, 97]⟩ 2 w (by decide) (by decide)
  rw [show adv pl1 ((⟨#[195, 169, 97]⟩ : ByteArray).data.toList.take 2) = ⟨2, 1, 2⟩ from by kernel_rfl] at h
  exact h
theorem advance_ex (w : World) : Calls Tryd.prog 5 #[.agg #[.int .i64 0, .int .i64 1, .int .i64 1], .string ⟨#[97, 10, 195, 169, 98]⟩] w fun e w' => e = .returned (.agg #[.int .i64 5, .int .i64 2, .int .i64 3]) ∧ Kp w w' := by
  have h := advance_calls pl1 ⟨#[97, 10, 195, 169, 98]⟩ w (by decide)
  rw [show adv pl1 (⟨#[97, 10, 195, 169, 98]⟩ : ByteArray).data.toList = ⟨5, 2, 3⟩ from by kernel_rfl] at h
  exact h

set_option maxRecDepth 100000 in
set_option maxHeartbeats 1000000 in
theorem awake03_calls (w : World) (hm : ML w) :
    Calls Tryd.prog 6 #[] w fun e w' => e = .returned (.bool true) ∧ Kp w w' := by
  go_enter Tryd.func6, Tryd.ntmps6
  go_wp2_with fail
  refine (line_ex _ hm).mono ?_
  rintro e w1 ⟨rfl, hk1⟩
  go_wp2_with fail
  refine (of_ex _).mono ?_
  rintro e w2 ⟨rfl, hk2⟩
  go_wp2_with fail
  refine (start_calls _).mono ?_
  rintro e w3 ⟨rfl, hk3⟩
  go_wp2_with fail
  refine (start_calls _).mono ?_
  rintro e w4 ⟨rfl, hk4⟩
  go_wp2_with fail
  refine (advance_ex _).mono ?_
  rintro e w5 ⟨rfl, hk5⟩
  have hb := (((Has.new w2 #[.int .i64 2, .int .i64 1, .int .i64 2] 23).kp hk3).kp hk4).kp hk5
  have b0 := hb.cell 0
  have b1 := hb.cell 1
  have b2 := hb.cell 2
  simp only [List.getElem?_toArray, List.getElem?_cons_zero, List.getElem?_cons_succ] at b0 b1 b2
  go_wp2
  go_ret
  exact ⟨rfl, ((((hk1.trans hk2).alloc _).trans hk3).trans hk4).trans hk5⟩
end Go.Proofs.YtlglnepfcihhiaaDoor
