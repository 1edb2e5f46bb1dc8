-- Printed by the prover's own program (wip/xprint.py) over the kit's print. Not trusted: Lean checks it.
import Derived.Test.YtgfloplakjmncaaDoorPScanx0
import Derived.Test.YtgfloplakjmncaaDoorPScanx3
import Derived.Test.YtgfloplakjmncaaDoorXF
namespace Go.Proofs.YtgfloplakjmncaaDoor.PScan
open Go.RowKit Go.Proofs.YtgfloplakjmncaaDoorW.PrintWords Go.Proofs.YtgfloplakjmncaaDoorW.PrintLast Go.Proofs.YtgfloplakjmncaaDoorW.PrintMore
attribute [local go_sem] max2_int min2_int max_two min_two max_three min_three max_four min_four   -- for this text's walks alone
set_option linter.unusedVariables false
set_option linter.unusedSimpArgs false

/-! ### colophonlaw10_ScanJoins: function 5 -/
mutual
def colophonlaw10_ScanJoins.j0 : Nat → ByteArray → ByteArray → Bool → Bool → Option (Bool)
 | 0, _, _, _, _ => none
 | k + 1, x0, x1, x5, x30 => if x30 = true then (some x5) else ((scan_All.f x0).bind fun bt331 => ((scan_All.f x1).bind fun bt339 => (if x0.size + 1 ≤ 9223372036854775807 then (if (x0 ++ (⟨#[10]⟩ : ByteArray)).size + x1.size ≤ 9223372036854775807 then ((scan_All.f ((x0 ++ (⟨#[10]⟩ : ByteArray)) ++ x1)).bind fun bt347 => (if bt331.2.1 = 0 then (if bt339.2.1 = bt347.2.1 then (if bt339.2.1 = 0 then (colophonlaw10_ScanJoins.j1 k x0 bt331.1 bt339.1 bt347.1 ((bt347.1.length : Int) != (wrap64 ((bt331.1.length : Int) + (bt339.1.length : Int))))) else (if bt347.2.2.1 = (wrap64 ((wrap64 (bt339.2.2.1 + (x0.size : Int))) + 1)) then (colophonlaw10_ScanJoins.j1 k x0 bt331.1 bt339.1 bt347.1 ((bt347.1.length : Int) != (wrap64 ((bt331.1.length : Int) + (bt339.1.length : Int))))) else (none))) else (none)) else (some true))) else (none)) else (none))))
def colophonlaw10_ScanJoins.j1 : Nat → ByteArray → List (S35) → List (S35) → List (S35) → Bool → Option (Bool)
 | 0, _, _, _, _, _ => none
 | k + 1, x0, x6, x9, x12, x82 => if x82 = true then (none) else (if 0 ≤ (x6.length : Int) then (if (x6.length : Int) ≤ (x12.length : Int) then ((colophonlaw10_same.f k (x12.take ((x6.length : Int) : Int).toNat) x6).bind fun t359 => (colophonlaw10_ScanJoins.l0 k x0 x6 x9 x12 t359 0)) else (none)) else (none))
def colophonlaw10_ScanJoins.l0 : Nat → ByteArray → List (S35) → List (S35) → List (S35) → Bool → Int → Option (Bool)
 | 0, _, _, _, _, _, _ => none
 | k + 1, x0, x6, x9, x12, x15, x16 => if x16 < (x9.length : Int) then (if 0 ≤ (wrap64 ((x6.length : Int) + x16)) then (if (wrap64 ((x6.length : Int) + x16)) < (x12.length : Int) then (if 0 ≤ x16 then (if ((rd_T35 x12 (wrap64 ((x6.length : Int) + x16))).f0) = ((rd_T35 x9 x16).f0) then (if ((rd_T35 x12 (wrap64 ((x6.length : Int) + x16))).f1).toList = ((rd_T35 x9 x16).f1).toList then (if ((rd_T35 x12 (wrap64 ((x6.length : Int) + x16))).f2.f0) = (wrap64 ((wrap64 (((rd_T35 x9 x16).f2.f0) + (x0.size : Int))) + 1)) then (if ((rd_T35 x12 (wrap64 ((x6.length : Int) + x16))).f2.f2) = ((rd_T35 x9 x16).f2.f2) then (if x16 > 0 then (colophonlaw10_ScanJoins.j3 k x0 x6 x9 x12 x15 x16 (((rd_T35 x12 (wrap64 ((x6.length : Int) + x16))).f3) != ((rd_T35 x9 x16).f3))) else (colophonlaw10_ScanJoins.j3 k x0 x6 x9 x12 x15 x16 false)) else (none)) else (none)) else (none)) else (none)) else (none)) else (none)) else (none)) else (some x15)
def colophonlaw10_ScanJoins.j3 : Nat → ByteArray → List (S35) → List (S35) → List (S35) → Bool → Int → Bool → Option (Bool)
 | 0, _, _, _, _, _, _, _ => none
 | k + 1, x0, x6, x9, x12, x15, x16, x161 => if x161 = true then (none) else (colophonlaw10_ScanJoins.l0 k x0 x6 x9 x12 x15 (wrap64 (x16 + 1)))
end
def colophonlaw10_ScanJoins.f (k : Nat) (a0 : ByteArray) (a1 : ByteArray) : Option (Bool) := (colophonlaw10_awake.f k).bind fun t330 => (if t330 = true then (if (a0.size : Int) > 67108864 then (colophonlaw10_ScanJoins.j0 k a0 a1 t330 true) else (colophonlaw10_ScanJoins.j0 k a0 a1 t330 (decide ((a1.size : Int) > 67108864)))) else (colophonlaw10_ScanJoins.j0 k a0 a1 t330 true))
theorem colophonlaw10_ScanJoins.mono_l : ∀ k, (∀ y0 y1 y2 y3, LeO (colophonlaw10_ScanJoins.j0 k y0 y1 y2 y3) (colophonlaw10_ScanJoins.j0 (k + 1) y0 y1 y2 y3)) ∧ (∀ y0 y1 y2 y3 y4, LeO (colophonlaw10_ScanJoins.j1 k y0 y1 y2 y3 y4) (colophonlaw10_ScanJoins.j1 (k + 1) y0 y1 y2 y3 y4)) ∧ (∀ y0 y1 y2 y3 y4 y5, LeO (colophonlaw10_ScanJoins.l0 k y0 y1 y2 y3 y4 y5) (colophonlaw10_ScanJoins.l0 (k + 1) y0 y1 y2 y3 y4 y5)) ∧ (∀ y0 y1 y2 y3 y4 y5 y6, LeO (colophonlaw10_ScanJoins.j3 k y0 y1 y2 y3 y4 y5 y6) (colophonlaw10_ScanJoins.j3 (k + 1) y0 y1 y2 y3 y4 y5 y6))
 | 0 => ⟨fun _ _ _ _ r h => by simp [colophonlaw10_ScanJoins.j0] at h, fun _ _ _ _ _ r h => by simp [colophonlaw10_ScanJoins.j1] at h, fun _ _ _ _ _ _ r h => by simp [colophonlaw10_ScanJoins.l0] at h, fun _ _ _ _ _ _ _ r h => by simp [colophonlaw10_ScanJoins.j3] at h⟩
 | k + 1 => by
  obtain ⟨ih0, ih1, ih2, ih3⟩ := colophonlaw10_ScanJoins.mono_l k
  refine ⟨?_, ?_, ?_, ?_⟩
  ·intro y0 y1 y2 y3
   unfold colophonlaw10_ScanJoins.j0
   repeat' first
   | (with_reducible exact ih0 _ _ _ _)
   | (with_reducible exact ih1 _ _ _ _ _)
   | (with_reducible exact ih2 _ _ _ _ _ _)
   | (with_reducible exact ih3 _ _ _ _ _ _ _)
   | (with_reducible exact colophonlaw10_awake.mono _)
   | (with_reducible exact colophonlaw10_same.mono _ _ _)
   | (with_reducible exact LeO.refl _)
   | (with_reducible exact LeO.none _)
   | (with_reducible refine LeO.ite ?_ ?_)
   | (with_reducible refine LeO.bind ?_ (fun _ => ?_))
   | exact ih0 _ _ _ _
   | exact ih1 _ _ _ _ _
   | exact ih2 _ _ _ _ _ _
   | exact ih3 _ _ _ _ _ _ _
   | exact colophonlaw10_awake.mono _
   | exact colophonlaw10_same.mono _ _ _
   | exact LeO.none _
   | refine LeO.ite ?_ ?_
   | refine LeO.bind ?_ (fun _ => ?_)
  ·intro y0 y1 y2 y3 y4
   unfold colophonlaw10_ScanJoins.j1
   repeat' first
   | (with_reducible exact ih0 _ _ _ _)
   | (with_reducible exact ih1 _ _ _ _ _)
   | (with_reducible exact ih2 _ _ _ _ _ _)
   | (with_reducible exact ih3 _ _ _ _ _ _ _)
   | (with_reducible exact colophonlaw10_awake.mono _)
   | (with_reducible exact colophonlaw10_same.mono _ _ _)
   | (with_reducible exact LeO.refl _)
   | (with_reducible exact LeO.none _)
   | (with_reducible refine LeO.ite ?_ ?_)
   | (with_reducible refine LeO.bind ?_ (fun _ => ?_))
   | exact ih0 _ _ _ _
   | exact ih1 _ _ _ _ _
   | exact ih2 _ _ _ _ _ _
   | exact ih3 _ _ _ _ _ _ _
   | exact colophonlaw10_awake.mono _
   | exact colophonlaw10_same.mono _ _ _
   | exact LeO.none _
   | refine LeO.ite ?_ ?_
   | refine LeO.bind ?_ (fun _ => ?_)
  ·intro y0 y1 y2 y3 y4 y5
   unfold colophonlaw10_ScanJoins.l0
   repeat' first
   | (with_reducible exact ih0 _ _ _ _)
   | (with_reducible exact ih1 _ _ _ _ _)
   | (with_reducible exact ih2 _ _ _ _ _ _)
   | (with_reducible exact ih3 _ _ _ _ _ _ _)
   | (with_reducible exact colophonlaw10_awake.mono _)
   | (with_reducible exact colophonlaw10_same.mono _ _ _)
   | (with_reducible exact LeO.refl _)
   | (with_reducible exact LeO.none _)
   | (with_reducible refine LeO.ite ?_ ?_)
   | (with_reducible refine LeO.bind ?_ (fun _ => ?_))
   | exact ih0 _ _ _ _
   | exact ih1 _ _ _ _ _
   | exact ih2 _ _ _ _ _ _
   | exact ih3 _ _ _ _ _ _ _
   | exact colophonlaw10_awake.mono _
   | exact colophonlaw10_same.mono _ _ _
   | exact LeO.none _
   | refine LeO.ite ?_ ?_
   | refine LeO.bind ?_ (fun _ => ?_)
  ·intro y0 y1 y2 y3 y4 y5 y6
   unfold colophonlaw10_ScanJoins.j3
   repeat' first
   | (with_reducible exact ih0 _ _ _ _)
   | (with_reducible exact ih1 _ _ _ _ _)
   | (with_reducible exact ih2 _ _ _ _ _ _)
   | (with_reducible exact ih3 _ _ _ _ _ _ _)
   | (with_reducible exact colophonlaw10_awake.mono _)
   | (with_reducible exact colophonlaw10_same.mono _ _ _)
   | (with_reducible exact LeO.refl _)
   | (with_reducible exact LeO.none _)
   | (with_reducible refine LeO.ite ?_ ?_)
   | (with_reducible refine LeO.bind ?_ (fun _ => ?_))
   | exact ih0 _ _ _ _
   | exact ih1 _ _ _ _ _
   | exact ih2 _ _ _ _ _ _
   | exact ih3 _ _ _ _ _ _ _
   | exact colophonlaw10_awake.mono _
   | exact colophonlaw10_same.mono _ _ _
   | exact LeO.none _
   | refine LeO.ite ?_ ?_
   | refine LeO.bind ?_ (fun _ => ?_)
theorem colophonlaw10_ScanJoins.mono : ∀ a0 a1 k, LeO (colophonlaw10_ScanJoins.f k a0 a1) (colophonlaw10_ScanJoins.f (k + 1) a0 a1) := by
 intro a0 a1 k
 obtain ⟨ih0, ih1, ih2, ih3⟩ := colophonlaw10_ScanJoins.mono_l k
 unfold colophonlaw10_ScanJoins.f
 repeat' first
   | (with_reducible exact ih0 _ _ _ _)
   | (with_reducible exact ih1 _ _ _ _ _)
   | (with_reducible exact ih2 _ _ _ _ _ _)
   | (with_reducible exact ih3 _ _ _ _ _ _ _)
   | (with_reducible exact colophonlaw10_awake.mono _)
   | (with_reducible exact colophonlaw10_same.mono _ _ _)
   | (with_reducible exact LeO.refl _)
   | (with_reducible exact LeO.none _)
   | (with_reducible refine LeO.ite ?_ ?_)
   | (with_reducible refine LeO.bind ?_ (fun _ => ?_))
   | exact ih0 _ _ _ _
   | exact ih1 _ _ _ _ _
   | exact ih2 _ _ _ _ _ _
   | exact ih3 _ _ _ _ _ _ _
   | exact colophonlaw10_awake.mono _
   | exact colophonlaw10_same.mono _ _ _
   | exact LeO.none _
   | refine LeO.ite ?_ ?_
   | refine LeO.bind ?_ (fun _ => ?_)
set_option maxHeartbeats 8000000 in
set_option maxRecDepth 100000 in
theorem colophonlaw10_ScanJoins.calls (k : Nat) (a0 : ByteArray) (a1 : ByteArray) (r : Bool) (w : World) (hLW : LW w) (h : colophonlaw10_ScanJoins.f k a0 a1 = some r) :
  Calls Tryd.prog 5 #[.string a0, .string a1] w fun e w' => e = .returned (.bool r) ∧ Below w.heap.size w w' := by
 have hu26 := Tryd.underlying26
 have hu35 := Tryd.underlying35
 have HB := Aside0.mk (Below.refl w.heap.size w)
 have HLW := Aside0.mk hLW
 clear hLW
 have H : ((colophonlaw10_awake.f k).bind fun t330 => (if t330 = true then (if (a0.size : Int) > 67108864 then (colophonlaw10_ScanJoins.j0 k a0 a1 t330 true) else (colophonlaw10_ScanJoins.j0 k a0 a1 t330 (decide ((a1.size : Int) > 67108864)))) else (colophonlaw10_ScanJoins.j0 k a0 a1 t330 true))) = some r := h
 clear h
 replace H := Option.bind_eq_some_iff.mp H
 obtain ⟨t330, A30, H⟩ := H
 replace H : (if t330 = true then (if (a0.size : Int) > 67108864 then (colophonlaw10_ScanJoins.j0 k a0 a1 t330 true) else (colophonlaw10_ScanJoins.j0 k a0 a1 t330 (decide ((a1.size : Int) > 67108864)))) else (colophonlaw10_ScanJoins.j0 k a0 a1 t330 true)) = some r := H
 have A3 := Aside0.mk A30
 clear A30
 have HC4 := Aside0.mk H
 clear H
 go_enter Tryd.func5, Tryd.ntmps5
 go_upto_region 2 with (first|(go_at_call 7; (with_reducible refine (colophonlaw10_awake.calls k  t330 _ ?side1 A3.out).mono ?_); (case side1 => exact LW.below HLW.out (by repeat (first|(with_reducible first|exact HB.out|apply below_alloc|apply pw_below_drewN|apply below_drew1)|exact HB.out))); rintro e w5 ⟨rfl, hb⟩; have n0_ := Aside0.mk (below_step (by repeat (first|(with_reducible first|exact HB.out|apply below_alloc|apply pw_below_drewN|apply below_drew1)|exact HB.out)) hb); clear HB; have HB := n0_; clear n0_; (try clear hb); (try clear hb2); (try clear hk); (try clear hi)))
 repeat (go_quiet (fail); go_upto_region 2 with (first|(go_at_call 7; (with_reducible refine (colophonlaw10_awake.calls k  t330 _ ?side1 A3.out).mono ?_); (case side1 => exact LW.below HLW.out (by repeat (first|(with_reducible first|exact HB.out|apply below_alloc|apply pw_below_drewN|apply below_drew1)|exact HB.out))); rintro e w5 ⟨rfl, hb⟩; have n0_ := Aside0.mk (below_step (by repeat (first|(with_reducible first|exact HB.out|apply below_alloc|apply pw_below_drewN|apply below_drew1)|exact HB.out)) hb); clear HB; have HB := n0_; clear n0_; (try clear hb); (try clear hb2); (try clear hk); (try clear hi))))
 (try simp only [Act.put, List.setIfInBounds_toArray, List.set_cons_zero, List.set_cons_succ])
 go_cut [30] (fun v30 wc => ∃ (kq : Nat) (x30_3 : Bool), v30 = .bool x30_3 ∧ Aside0 (colophonlaw10_ScanJoins.j0 kq a0 a1 t330 x30_3 = some r) ∧ Aside0 (kq ≤ k) ∧ Aside0 (Below w.heap.size w wc))
 case first =>
  have H := HC4.out
  clear HC4
  by_cases c6 : t330 = true
  ·subst c6
   have H1 : (if (a0.size : Int) > 67108864 then (colophonlaw10_ScanJoins.j0 k a0 a1 true true) else (colophonlaw10_ScanJoins.j0 k a0 a1 true (decide ((a1.size : Int) > 67108864)))) = some r := by rw [if_pos rfl] at H; exact H
   clear H
   have H := H1
   clear H1
   by_cases c7 : (a0.size : Int) > 67108864
   ·rw [if_pos c7] at H
    have c7b0 : decide (67108864 < (a0.size : Int)) = true := decide_eq_true c7
    have c7b1 : decide (67108864 < a0.size) = true := decide_eq_true (by omega)
    clear c7
    (first|rw [c7b0]|(simp only [i64_w, i32_w]; rw [c7b0])|skip)
    have H' := Aside0.mk H
    clear H
    go_wp2
    repeat (go_quiet (fail); try go_wp2)
    go_meet
    case rel => exact ⟨_, (true), (by first|rfl|(simp; done)|(simp [*]; done)), H', ⟨by first|omega|exact Nat.le_refl _⟩, ⟨by repeat (first|(with_reducible first|exact HB.out|apply below_alloc|apply pw_below_drewN|apply below_drew1)|exact HB.out)⟩⟩
   ·rw [if_neg c7] at H
    have c7b0 : decide (67108864 < (a0.size : Int)) = false := decide_eq_false c7
    have c7b1 : decide (67108864 < a0.size) = false := decide_eq_false (by omega)
    clear c7
    (first|rw [c7b0]|(simp only [i64_w, i32_w]; rw [c7b0])|skip)
    have H' := Aside0.mk H
    clear H
    go_wp2
    repeat (go_quiet (fail); try go_wp2)
    go_meet
    case rel => exact ⟨_, (decide ((a1.size : Int) > 67108864)), (by first|rfl|(simp; done)|(simp [*]; done)), H', ⟨by first|omega|exact Nat.le_refl _⟩, ⟨by repeat (first|(with_reducible first|exact HB.out|apply below_alloc|apply pw_below_drewN|apply below_drew1)|exact HB.out)⟩⟩
  ·replace c6 := Bool.eq_false_iff.mpr c6
   subst c6
   have H1 : (colophonlaw10_ScanJoins.j0 k a0 a1 false true) = some r := by rw [if_neg (show ¬ (false = true) by decide)] at H; exact H
   clear H
   have H := H1
   clear H1
   have H' := Aside0.mk H
   clear H
   go_wp2
   repeat (go_quiet (fail); try go_wp2)
   go_meet
   case rel => exact ⟨_, (true), (by first|rfl|(simp; done)|(simp [*]; done)), H', ⟨by first|omega|exact Nat.le_refl _⟩, ⟨by repeat (first|(with_reducible first|exact HB.out|apply below_alloc|apply pw_below_drewN|apply below_drew1)|exact HB.out)⟩⟩
 case rest =>
  clear HC4
  try clear p2
  try clear c5
  try clear c6
  try clear c7
  try clear c7b0
  try clear c7b1
  obtain ⟨kq, x30_3, rfl, HA, HJ3, HB⟩ := hcut
  cases kq with
  | zero => exact absurd HA.out (by simp [colophonlaw10_ScanJoins.j0])
  | succ kj3 =>
   have H := HA.out
   clear HA
   simp only [colophonlaw10_ScanJoins.j0] at H
   by_cases c8 : x30_3 = true
   ·subst c8
    have H1 : (some t330) = some r := by rw [if_pos rfl] at H; exact H
    clear H
    have H := H1
    clear H1
    obtain rfl := Option.some.inj H
    go_wp2
    repeat (go_quiet (fail); try go_wp2)
    go_ret
    exact ⟨by first|rfl|(simp [errW_none, errW_some] <;> rfl)|(simp [*, errW_none, errW_some] <;> rfl), by repeat (first|(with_reducible first|exact HB.out|apply below_alloc|apply pw_below_drewN|apply below_drew1)|exact HB.out)⟩
   ·replace c8 := Bool.eq_false_iff.mpr c8
    subst c8
    have H1 : ((scan_All.f a0).bind fun bt331 => ((scan_All.f a1).bind fun bt339 => (if a0.size + 1 ≤ 9223372036854775807 then (if (a0 ++ (⟨#[10]⟩ : ByteArray)).size + a1.size ≤ 9223372036854775807 then ((scan_All.f ((a0 ++ (⟨#[10]⟩ : ByteArray)) ++ a1)).bind fun bt347 => (if bt331.2.1 = 0 then (if bt339.2.1 = bt347.2.1 then (if bt339.2.1 = 0 then (colophonlaw10_ScanJoins.j1 kj3 a0 bt331.1 bt339.1 bt347.1 ((bt347.1.length : Int) != (wrap64 ((bt331.1.length : Int) + (bt339.1.length : Int))))) else (if bt347.2.2.1 = (wrap64 ((wrap64 (bt339.2.2.1 + (a0.size : Int))) + 1)) then (colophonlaw10_ScanJoins.j1 kj3 a0 bt331.1 bt339.1 bt347.1 ((bt347.1.length : Int) != (wrap64 ((bt331.1.length : Int) + (bt339.1.length : Int))))) else (none))) else (none)) else (some true))) else (none)) else (none)))) = some r := by rw [if_neg (show ¬ (false = true) by decide)] at H; exact H
    clear H
    have H := H1
    clear H1
    replace H := Option.bind_eq_some_iff.mp H
    obtain ⟨⟨t331, t334, t335, t336, t337⟩, A90, H⟩ := H
    replace H : ((scan_All.f a1).bind fun bt339 => (if a0.size + 1 ≤ 9223372036854775807 then (if (a0 ++ (⟨#[10]⟩ : ByteArray)).size + a1.size ≤ 9223372036854775807 then ((scan_All.f ((a0 ++ (⟨#[10]⟩ : ByteArray)) ++ a1)).bind fun bt347 => (if t334 = 0 then (if bt339.2.1 = bt347.2.1 then (if bt339.2.1 = 0 then (colophonlaw10_ScanJoins.j1 kj3 a0 t331 bt339.1 bt347.1 ((bt347.1.length : Int) != (wrap64 ((t331.length : Int) + (bt339.1.length : Int))))) else (if bt347.2.2.1 = (wrap64 ((wrap64 (bt339.2.2.1 + (a0.size : Int))) + 1)) then (colophonlaw10_ScanJoins.j1 kj3 a0 t331 bt339.1 bt347.1 ((bt347.1.length : Int) != (wrap64 ((t331.length : Int) + (bt339.1.length : Int))))) else (none))) else (none)) else (some true))) else (none)) else (none))) = some r := H
    have A9 := Aside0.mk A90
    clear A90
    replace H := Option.bind_eq_some_iff.mp H
    obtain ⟨⟨t339, t342, t343, t344, t345⟩, A100, H⟩ := H
    replace H : (if a0.size + 1 ≤ 9223372036854775807 then (if (a0 ++ (⟨#[10]⟩ : ByteArray)).size + a1.size ≤ 9223372036854775807 then ((scan_All.f ((a0 ++ (⟨#[10]⟩ : ByteArray)) ++ a1)).bind fun bt347 => (if t334 = 0 then (if t342 = bt347.2.1 then (if t342 = 0 then (colophonlaw10_ScanJoins.j1 kj3 a0 t331 t339 bt347.1 ((bt347.1.length : Int) != (wrap64 ((t331.length : Int) + (t339.length : Int))))) else (if bt347.2.2.1 = (wrap64 ((wrap64 (t343 + (a0.size : Int))) + 1)) then (colophonlaw10_ScanJoins.j1 kj3 a0 t331 t339 bt347.1 ((bt347.1.length : Int) != (wrap64 ((t331.length : Int) + (t339.length : Int))))) else (none))) else (none)) else (some true))) else (none)) else (none)) = some r := H
    have A10 := Aside0.mk A100
    clear A100
    by_cases c11 : a0.size + 1 ≤ 9223372036854775807
    ·rw [if_pos c11] at H
     have c11b0 := eq_true c11
     have c11b1 : decide (a0.size + 1 ≤ 9223372036854775807) = true := decide_eq_true c11
     try have c11b2 : (9223372036854775807 < a0.size + 1) = False := eq_false (Nat.not_lt.2 c11)
     by_cases c12 : (a0 ++ (⟨#[10]⟩ : ByteArray)).size + a1.size ≤ 9223372036854775807
     ·rw [if_pos c12] at H
      have c12b0 := eq_true c12
      have c12b1 : decide ((a0 ++ (⟨#[10]⟩ : ByteArray)).size + a1.size ≤ 9223372036854775807) = true := decide_eq_true c12
      try have c12b2 : (9223372036854775807 < (a0 ++ (⟨#[10]⟩ : ByteArray)).size + a1.size) = False := eq_false (Nat.not_lt.2 c12)
      replace H := Option.bind_eq_some_iff.mp H
      obtain ⟨⟨t347, t350, t351, t352, t353⟩, A130, H⟩ := H
      replace H : (if t334 = 0 then (if t342 = t350 then (if t342 = 0 then (colophonlaw10_ScanJoins.j1 kj3 a0 t331 t339 t347 ((t347.length : Int) != (wrap64 ((t331.length : Int) + (t339.length : Int))))) else (if t351 = (wrap64 ((wrap64 (t343 + (a0.size : Int))) + 1)) then (colophonlaw10_ScanJoins.j1 kj3 a0 t331 t339 t347 ((t347.length : Int) != (wrap64 ((t331.length : Int) + (t339.length : Int))))) else (none))) else (none)) else (some true)) = some r := H
      have A13 := Aside0.mk A130
      clear A130
      by_cases c14 : t334 = 0
      ·rw [if_pos c14] at H
       have c14b0 : (t334 == 0) = true := beq_iff_eq.mpr c14
       have c14b1 : (t334 != 0) = false := bne_eq_false_iff_eq.mpr c14
       clear c14
       have HC15 := Aside0.mk H
       clear H
       go_upto_region 9 with (first|(go_at_call 8;(with_reducible refine (scan_All.calls a0 t331 t334 t335 t336 t337 _ ?side1 A9.out).mono ?_);(case side1 => exact LW.below HLW.out (by repeat (first|(with_reducible first|exact HB.out|apply below_alloc|apply pw_below_drewN|apply below_drew1)|exact HB.out)));rintro e w16 ⟨v332,rfl,ho0,hb⟩;have n0_:=Aside0.mk (Kd.R_lower ho0 (below_size (by repeat (first|(with_reducible first|exact HB.out|apply below_alloc|apply pw_below_drewN|apply below_drew1)|exact HB.out))));have n1_:=Aside0.mk (below_step (by repeat (first|(with_reducible first|exact HB.out|apply below_alloc|apply pw_below_drewN|apply below_drew1)|exact HB.out)) hb);clear HB;have HO333:=n0_;have HB:=n1_;clear n0_ n1_;(try clear hb);(try clear hb2);(try clear hk);(try clear hi);(try clear ho0))|((with_reducible refine gate_dst (N:=8) rfl ?_);(try (refine gate_guard (by rfl) ?_;dsimp only));refine box_event ?hg (N:=8) ?hd (cs:=#[.int .i64 0,.int .i64 0,.int .i64 0]) (t:=26) ?hr ?_;(case hd => rfl);(case hg => rfl);(case hr => first|(go_simp;done)|(go_simp;rfl));intro gb338 hg w17 hbox hb;have n0_:=Aside0.mk (Kd.R_below (by (with_reducible repeat (first|apply Kd.R_alloc|apply Kd.R_drewN|apply Kd.R_drew));exact HO333.out) hb);have n1_:=Aside0.mk (below_step (by repeat (first|(with_reducible first|exact HB.out|apply below_alloc|apply pw_below_drewN|apply below_drew1)|exact HB.out)) hb);have n2_:=Aside0.mk (hbox);have n3_:=Aside0.mk ((by rw [hg];exact (below_size (by repeat (first|(with_reducible first|exact HB.out|apply below_alloc|apply pw_below_drewN|apply below_drew1)|exact HB.out))) : w.heap.size ≤ gb338));have n4_:=Aside0.mk ((by rw [hg];exact (below_size (by repeat (first|(with_reducible first|exact HB.out|apply below_alloc|apply pw_below_drewN|apply below_drew1)|exact HB.out))) : w.heap.size ≤ gb338));clear HO333;clear HB;have HO333:=n0_;have HB:=n1_;have BK338:=n2_;have GW338:=n3_;have GE338:=n4_;clear n0_ n1_ n2_ n3_ n4_;clear hb hbox hg;have hcz18_0 : w17.cell? ⟨gb338,0,none⟩ = some (.int .i64 0):=(blk_cell BK338.out 0).trans rfl;have hcz18_1 : w17.cell? ⟨gb338,1,none⟩ = some (.int .i64 0):=(blk_cell BK338.out 1).trans rfl;have hcz18_2 : w17.cell? ⟨gb338,2,none⟩ = some (.int .i64 0):=(blk_cell BK338.out 2).trans rfl;have hfz18_0:=blk_frozen BK338.out 0;have hfz18_1:=blk_frozen BK338.out 1;have hfz18_2:=blk_frozen BK338.out 2)|(go_at_call 8;(with_reducible refine (scan_All.calls a1 t339 t342 t343 t344 t345 _ ?side1 A10.out).mono ?_);(case side1 => exact LW.below HLW.out (by repeat (first|(with_reducible first|exact HB.out|apply below_alloc|apply pw_below_drewN|apply below_drew1|refine below_set ?_ GE338.out)|exact HB.out)));rintro e w19 ⟨v340,rfl,ho0,hb⟩;have n0_:=Aside0.mk (Kd.R_elder' (by (with_reducible repeat (first|apply Kd.R_alloc|apply Kd.R_drewN|apply Kd.R_drew));exact (Kd.R_mono (Kd.R_far (p:=⟨gb338,2,none⟩) (Kd.R_far (p:=⟨gb338,1,none⟩) (Kd.R_far (p:=⟨gb338,0,none⟩) (Kd.R_types HO333.out BK338.out (by decide)) (fun _ hk => hk.2) (.int .i64 t335)) (fun _ hk => hk.2) (.int .i64 t336)) (fun _ hk => hk.2) (.int .i64 t337)) (fun _ h_ => h_.1))) (Kd.R_base ho0) hb);have n1_:=Aside0.mk (Kd.R_lower (Kd.R_new' ho0 (Kd.R_lt (by (with_reducible repeat (first|apply Kd.R_alloc|apply Kd.R_drewN|apply Kd.R_drew));exact (Kd.R_mono (Kd.R_far (p:=⟨gb338,2,none⟩) (Kd.R_far (p:=⟨gb338,1,none⟩) (Kd.R_far (p:=⟨gb338,0,none⟩) (Kd.R_types HO333.out BK338.out (by decide)) (fun _ hk => hk.2) (.int .i64 t335)) (fun _ hk => hk.2) (.int .i64 t336)) (fun _ hk => hk.2) (.int .i64 t337)) (fun _ h_ => h_.1))))) (below_size (by repeat (first|(with_reducible first|exact HB.out|apply below_alloc|apply pw_below_drewN|apply below_drew1|refine below_set ?_ GE338.out)|exact HB.out))));have n2_:=Aside0.mk (blk_below (g:=gb338) (o:=.cells #[.int .i64 t335,.int .i64 t336,.int .i64 t337] 26 (0,0)) (by (with_reducible repeat (first|refine blk_drewN ?_ _|refine blk_drew ?_|refine blk_alloc ?_ _));refine blk_put (cs:=#[.int .i64 t335,.int .i64 t336,.int .i64 0]) ?_ 2 _ rfl;(with_reducible repeat (first|refine blk_drewN ?_ _|refine blk_drew ?_|refine blk_alloc ?_ _));refine blk_put (cs:=#[.int .i64 t335,.int .i64 0,.int .i64 0]) ?_ 1 _ rfl;(with_reducible repeat (first|refine blk_drewN ?_ _|refine blk_drew ?_|refine blk_alloc ?_ _));refine blk_put (cs:=#[.int .i64 0,.int .i64 0,.int .i64 0]) ?_ 0 _ rfl;(with_reducible repeat (first|refine blk_drewN ?_ _|refine blk_drew ?_|refine blk_alloc ?_ _));exact BK338.out) hb);have n3_:=Aside0.mk (below_step (by repeat (first|(with_reducible first|exact HB.out|apply below_alloc|apply pw_below_drewN|apply below_drew1|refine below_set ?_ GE338.out)|exact HB.out)) hb);clear HO333;clear BK338;clear HB;have HO333:=n0_;have HO341:=n1_;have BK338:=n2_;have HB:=n3_;clear n0_ n1_ n2_ n3_;(try clear hb);(try clear hb2);(try clear hk);(try clear hi);(try clear ho0))|((with_reducible refine gate_dst (N:=11) rfl ?_);(try (refine gate_guard (by rfl) ?_;dsimp only));refine box_event ?hg (N:=11) ?hd (cs:=#[.int .i64 0,.int .i64 0,.int .i64 0]) (t:=26) ?hr ?_;(case hd => rfl);(case hg => rfl);(case hr => first|(go_simp;done)|(go_simp;rfl));intro gb346 hg w20 hbox hb;have n0_:=Aside0.mk (Kd.R_below (by (with_reducible repeat (first|apply Kd.R_alloc|apply Kd.R_drewN|apply Kd.R_drew));exact HO333.out) hb);have n1_:=Aside0.mk (Kd.R_below (by (with_reducible repeat (first|apply Kd.R_alloc|apply Kd.R_drewN|apply Kd.R_drew));exact HO341.out) hb);have n2_:=Aside0.mk (blk_below (g:=gb338) (o:=.cells #[.int .i64 t335,.int .i64 t336,.int .i64 t337] 26 (0,0)) (by (with_reducible repeat (first|refine blk_drewN ?_ _|refine blk_drew ?_|refine blk_alloc ?_ _));exact BK338.out) hb);have n3_:=Aside0.mk (below_step (by repeat (first|(with_reducible first|exact HB.out|apply below_alloc|apply pw_below_drewN|apply below_drew1|refine below_set ?_ GE338.out)|exact HB.out)) hb);have n4_:=Aside0.mk (hbox);have n5_:=Aside0.mk ((by rw [hg];exact (below_size (by repeat (first|(with_reducible first|exact HB.out|apply below_alloc|apply pw_below_drewN|apply below_drew1|refine below_set ?_ GE338.out)|exact HB.out))) : w.heap.size ≤ gb346));have n6_:=Aside0.mk ((by rw [hg];exact (below_size (by repeat (first|(with_reducible first|exact HB.out|apply below_alloc|apply pw_below_drewN|apply below_drew1|refine below_set ?_ GE338.out)|exact HB.out))) : w.heap.size ≤ gb346));have n7_:=Aside0.mk ((by rw [hg];exact Nat.ne_of_lt (blk_lt (g:=gb338) (o:=.cells #[.int .i64 t335,.int .i64 t336,.int .i64 t337] 26 (0,0)) (by (with_reducible repeat (first|refine blk_drewN ?_ _|refine blk_drew ?_|refine blk_alloc ?_ _));exact BK338.out)) : gb338 ≠ gb346));have n8_:=Aside0.mk ((by rw [hg];exact Nat.ne_of_gt (blk_lt (g:=gb338) (o:=.cells #[.int .i64 t335,.int .i64 t336,.int .i64 t337] 26 (0,0)) (by (with_reducible repeat (first|refine blk_drewN ?_ _|refine blk_drew ?_|refine blk_alloc ?_ _));exact BK338.out)) : gb346 ≠ gb338));clear HO333;clear HO341;clear BK338;clear HB;have HO333:=n0_;have HO341:=n1_;have BK338:=n2_;have HB:=n3_;have BK346:=n4_;have GW346:=n5_;have GE346:=n6_;have NB338_346:=n7_;have NB346_338:=n8_;clear n0_ n1_ n2_ n3_ n4_ n5_ n6_ n7_ n8_;clear hb hbox hg;have hnb21:=NB346_338.out;have hnc21:=NB338_346.out;have hcz22_0 : w20.cell? ⟨gb346,0,none⟩ = some (.int .i64 0):=(blk_cell BK346.out 0).trans rfl;have hcz22_1 : w20.cell? ⟨gb346,1,none⟩ = some (.int .i64 0):=(blk_cell BK346.out 1).trans rfl;have hcz22_2 : w20.cell? ⟨gb346,2,none⟩ = some (.int .i64 0):=(blk_cell BK346.out 2).trans rfl;have hfz22_0:=blk_frozen BK346.out 0;have hfz22_1:=blk_frozen BK346.out 1;have hfz22_2:=blk_frozen BK346.out 2)|(go_at_call 8;(with_reducible refine (scan_All.calls ((a0 ++ (⟨#[10]⟩ : ByteArray)) ++ a1) t347 t350 t351 t352 t353 _ ?side1 A13.out).mono ?_);(case side1 => exact LW.below HLW.out (by repeat (first|(with_reducible first|exact HB.out|apply below_alloc|apply pw_below_drewN|apply below_drew1|refine below_set ?_ GE338.out|refine below_set ?_ GE346.out)|exact HB.out)));rintro e w23 ⟨v348,rfl,ho0,hb⟩;have n0_:=Aside0.mk (Kd.R_elder' (by (with_reducible repeat (first|apply Kd.R_alloc|apply Kd.R_drewN|apply Kd.R_drew));exact (Kd.R_mono (Kd.R_far (p:=⟨gb346,2,none⟩) (Kd.R_far (p:=⟨gb346,1,none⟩) (Kd.R_far (p:=⟨gb346,0,none⟩) (Kd.R_types HO333.out BK346.out (by decide)) (fun _ hk => hk.2) (.int .i64 t343)) (fun _ hk => hk.2) (.int .i64 t344)) (fun _ hk => hk.2) (.int .i64 t345)) (fun _ h_ => h_.1))) (Kd.R_base ho0) hb);have n1_:=Aside0.mk (Kd.R_elder' (by (with_reducible repeat (first|apply Kd.R_alloc|apply Kd.R_drewN|apply Kd.R_drew));exact (Kd.R_mono (Kd.R_far (p:=⟨gb346,2,none⟩) (Kd.R_far (p:=⟨gb346,1,none⟩) (Kd.R_far (p:=⟨gb346,0,none⟩) (Kd.R_types HO341.out BK346.out (by decide)) (fun _ hk => hk.2) (.int .i64 t343)) (fun _ hk => hk.2) (.int .i64 t344)) (fun _ hk => hk.2) (.int .i64 t345)) (fun _ h_ => h_.1))) (Kd.R_base ho0) hb);have n2_:=Aside0.mk (Kd.R_lower (Kd.R_new' (Kd.R_new' ho0 (Kd.R_lt (by (with_reducible repeat (first|apply Kd.R_alloc|apply Kd.R_drewN|apply Kd.R_drew));exact (Kd.R_mono (Kd.R_far (p:=⟨gb346,2,none⟩) (Kd.R_far (p:=⟨gb346,1,none⟩) (Kd.R_far (p:=⟨gb346,0,none⟩) (Kd.R_types HO333.out BK346.out (by decide)) (fun _ hk => hk.2) (.int .i64 t343)) (fun _ hk => hk.2) (.int .i64 t344)) (fun _ hk => hk.2) (.int .i64 t345)) (fun _ h_ => h_.1))))) (Kd.R_lt (by (with_reducible repeat (first|apply Kd.R_alloc|apply Kd.R_drewN|apply Kd.R_drew));exact (Kd.R_mono (Kd.R_far (p:=⟨gb346,2,none⟩) (Kd.R_far (p:=⟨gb346,1,none⟩) (Kd.R_far (p:=⟨gb346,0,none⟩) (Kd.R_types HO341.out BK346.out (by decide)) (fun _ hk => hk.2) (.int .i64 t343)) (fun _ hk => hk.2) (.int .i64 t344)) (fun _ hk => hk.2) (.int .i64 t345)) (fun _ h_ => h_.1))))) (below_size (by repeat (first|(with_reducible first|exact HB.out|apply below_alloc|apply pw_below_drewN|apply below_drew1|refine below_set ?_ GE338.out|refine below_set ?_ GE346.out)|exact HB.out))));have n3_:=Aside0.mk (blk_below (g:=gb338) (o:=.cells #[.int .i64 t335,.int .i64 t336,.int .i64 t337] 26 (0,0)) (by (with_reducible repeat (first|refine blk_drewN ?_ _|refine blk_drew ?_|refine blk_alloc ?_ _));refine blk_far ?_ NB338_346.out _;(with_reducible repeat (first|refine blk_drewN ?_ _|refine blk_drew ?_|refine blk_alloc ?_ _));refine blk_far ?_ NB338_346.out _;(with_reducible repeat (first|refine blk_drewN ?_ _|refine blk_drew ?_|refine blk_alloc ?_ _));refine blk_far ?_ NB338_346.out _;(with_reducible repeat (first|refine blk_drewN ?_ _|refine blk_drew ?_|refine blk_alloc ?_ _));exact BK338.out) hb);have n4_:=Aside0.mk (blk_below (g:=gb346) (o:=.cells #[.int .i64 t343,.int .i64 t344,.int .i64 t345] 26 (0,0)) (by (with_reducible repeat (first|refine blk_drewN ?_ _|refine blk_drew ?_|refine blk_alloc ?_ _));refine blk_put (cs:=#[.int .i64 t343,.int .i64 t344,.int .i64 0]) ?_ 2 _ rfl;(with_reducible repeat (first|refine blk_drewN ?_ _|refine blk_drew ?_|refine blk_alloc ?_ _));refine blk_put (cs:=#[.int .i64 t343,.int .i64 0,.int .i64 0]) ?_ 1 _ rfl;(with_reducible repeat (first|refine blk_drewN ?_ _|refine blk_drew ?_|refine blk_alloc ?_ _));refine blk_put (cs:=#[.int .i64 0,.int .i64 0,.int .i64 0]) ?_ 0 _ rfl;(with_reducible repeat (first|refine blk_drewN ?_ _|refine blk_drew ?_|refine blk_alloc ?_ _));exact BK346.out) hb);have n5_:=Aside0.mk (below_step (by repeat (first|(with_reducible first|exact HB.out|apply below_alloc|apply pw_below_drewN|apply below_drew1|refine below_set ?_ GE338.out|refine below_set ?_ GE346.out)|exact HB.out)) hb);clear HO333;clear HO341;clear BK338;clear BK346;clear HB;have HO333:=n0_;have HO341:=n1_;have HO349:=n2_;have BK338:=n3_;have BK346:=n4_;have HB:=n5_;clear n0_ n1_ n2_ n3_ n4_ n5_;(try clear hb);(try clear hb2);(try clear hk);(try clear hi);(try clear ho0))|((with_reducible refine gate_dst (N:=14) rfl ?_);(try (refine gate_guard (by rfl) ?_;dsimp only));refine box_event ?hg (N:=14) ?hd (cs:=#[.int .i64 0,.int .i64 0,.int .i64 0]) (t:=26) ?hr ?_;(case hd => rfl);(case hg => rfl);(case hr => first|(go_simp;done)|(go_simp;rfl));intro gb354 hg w24 hbox hb;have n0_:=Aside0.mk (Kd.R_below (by (with_reducible repeat (first|apply Kd.R_alloc|apply Kd.R_drewN|apply Kd.R_drew));exact HO333.out) hb);have n1_:=Aside0.mk (Kd.R_below (by (with_reducible repeat (first|apply Kd.R_alloc|apply Kd.R_drewN|apply Kd.R_drew));exact HO341.out) hb);have n2_:=Aside0.mk (Kd.R_below (by (with_reducible repeat (first|apply Kd.R_alloc|apply Kd.R_drewN|apply Kd.R_drew));exact HO349.out) hb);have n3_:=Aside0.mk (blk_below (g:=gb338) (o:=.cells #[.int .i64 t335,.int .i64 t336,.int .i64 t337] 26 (0,0)) (by (with_reducible repeat (first|refine blk_drewN ?_ _|refine blk_drew ?_|refine blk_alloc ?_ _));exact BK338.out) hb);have n4_:=Aside0.mk (blk_below (g:=gb346) (o:=.cells #[.int .i64 t343,.int .i64 t344,.int .i64 t345] 26 (0,0)) (by (with_reducible repeat (first|refine blk_drewN ?_ _|refine blk_drew ?_|refine blk_alloc ?_ _));exact BK346.out) hb);have n5_:=Aside0.mk (below_step (by repeat (first|(with_reducible first|exact HB.out|apply below_alloc|apply pw_below_drewN|apply below_drew1|refine below_set ?_ GE338.out|refine below_set ?_ GE346.out)|exact HB.out)) hb);have n6_:=Aside0.mk (hbox);have n7_:=Aside0.mk ((by rw [hg];exact (below_size (by repeat (first|(with_reducible first|exact HB.out|apply below_alloc|apply pw_below_drewN|apply below_drew1|refine below_set ?_ GE338.out|refine below_set ?_ GE346.out)|exact HB.out))) : w.heap.size ≤ gb354));have n8_:=Aside0.mk ((by rw [hg];exact (below_size (by repeat (first|(with_reducible first|exact HB.out|apply below_alloc|apply pw_below_drewN|apply below_drew1|refine below_set ?_ GE338.out|refine below_set ?_ GE346.out)|exact HB.out))) : w.heap.size ≤ gb354));have n9_:=Aside0.mk ((by rw [hg];exact Nat.ne_of_lt (blk_lt (g:=gb338) (o:=.cells #[.int .i64 t335,.int .i64 t336,.int .i64 t337] 26 (0,0)) (by (with_reducible repeat (first|refine blk_drewN ?_ _|refine blk_drew ?_|refine blk_alloc ?_ _));exact BK338.out)) : gb338 ≠ gb354));have n10_:=Aside0.mk ((by rw [hg];exact Nat.ne_of_gt (blk_lt (g:=gb338) (o:=.cells #[.int .i64 t335,.int .i64 t336,.int .i64 t337] 26 (0,0)) (by (with_reducible repeat (first|refine blk_drewN ?_ _|refine blk_drew ?_|refine blk_alloc ?_ _));exact BK338.out)) : gb354 ≠ gb338));have n11_:=Aside0.mk ((by rw [hg];exact Nat.ne_of_lt (blk_lt (g:=gb346) (o:=.cells #[.int .i64 t343,.int .i64 t344,.int .i64 t345] 26 (0,0)) (by (with_reducible repeat (first|refine blk_drewN ?_ _|refine blk_drew ?_|refine blk_alloc ?_ _));exact BK346.out)) : gb346 ≠ gb354));have n12_:=Aside0.mk ((by rw [hg];exact Nat.ne_of_gt (blk_lt (g:=gb346) (o:=.cells #[.int .i64 t343,.int .i64 t344,.int .i64 t345] 26 (0,0)) (by (with_reducible repeat (first|refine blk_drewN ?_ _|refine blk_drew ?_|refine blk_alloc ?_ _));exact BK346.out)) : gb354 ≠ gb346));clear HO333;clear HO341;clear HO349;clear BK338;clear BK346;clear HB;have HO333:=n0_;have HO341:=n1_;have HO349:=n2_;have BK338:=n3_;have BK346:=n4_;have HB:=n5_;have BK354:=n6_;have GW354:=n7_;have GE354:=n8_;have NB338_354:=n9_;have NB354_338:=n10_;have NB346_354:=n11_;have NB354_346:=n12_;clear n0_ n1_ n2_ n3_ n4_ n5_ n6_ n7_ n8_ n9_ n10_ n11_ n12_;clear hb hbox hg;have hnb25:=NB354_338.out;have hnc25:=NB338_354.out;have hnb26:=NB354_346.out;have hnc26:=NB346_354.out;have hcz27_0 : w24.cell? ⟨gb354,0,none⟩ = some (.int .i64 0):=(blk_cell BK354.out 0).trans rfl;have hcz27_1 : w24.cell? ⟨gb354,1,none⟩ = some (.int .i64 0):=(blk_cell BK354.out 1).trans rfl;have hcz27_2 : w24.cell? ⟨gb354,2,none⟩ = some (.int .i64 0):=(blk_cell BK354.out 2).trans rfl;have hfz27_0:=blk_frozen BK354.out 0;have hfz27_1:=blk_frozen BK354.out 1;have hfz27_2:=blk_frozen BK354.out 2))
       repeat (go_quiet (fail);go_upto_region 9 with (first|(go_at_call 8;(with_reducible refine (scan_All.calls a0 t331 t334 t335 t336 t337 _ ?side1 A9.out).mono ?_);(case side1 => exact LW.below HLW.out (by repeat (first|(with_reducible first|exact HB.out|apply below_alloc|apply pw_below_drewN|apply below_drew1)|exact HB.out)));rintro e w16 ⟨v332,rfl,ho0,hb⟩;have n0_:=Aside0.mk (Kd.R_lower ho0 (below_size (by repeat (first|(with_reducible first|exact HB.out|apply below_alloc|apply pw_below_drewN|apply below_drew1)|exact HB.out))));have n1_:=Aside0.mk (below_step (by repeat (first|(with_reducible first|exact HB.out|apply below_alloc|apply pw_below_drewN|apply below_drew1)|exact HB.out)) hb);clear HB;have HO333:=n0_;have HB:=n1_;clear n0_ n1_;(try clear hb);(try clear hb2);(try clear hk);(try clear hi);(try clear ho0))|((with_reducible refine gate_dst (N:=8) rfl ?_);(try (refine gate_guard (by rfl) ?_;dsimp only));refine box_event ?hg (N:=8) ?hd (cs:=#[.int .i64 0,.int .i64 0,.int .i64 0]) (t:=26) ?hr ?_;(case hd => rfl);(case hg => rfl);(case hr => first|(go_simp;done)|(go_simp;rfl));intro gb338 hg w17 hbox hb;have n0_:=Aside0.mk (Kd.R_below (by (with_reducible repeat (first|apply Kd.R_alloc|apply Kd.R_drewN|apply Kd.R_drew));exact HO333.out) hb);have n1_:=Aside0.mk (below_step (by repeat (first|(with_reducible first|exact HB.out|apply below_alloc|apply pw_below_drewN|apply below_drew1)|exact HB.out)) hb);have n2_:=Aside0.mk (hbox);have n3_:=Aside0.mk ((by rw [hg];exact (below_size (by repeat (first|(with_reducible first|exact HB.out|apply below_alloc|apply pw_below_drewN|apply below_drew1)|exact HB.out))) : w.heap.size ≤ gb338));have n4_:=Aside0.mk ((by rw [hg];exact (below_size (by repeat (first|(with_reducible first|exact HB.out|apply below_alloc|apply pw_below_drewN|apply below_drew1)|exact HB.out))) : w.heap.size ≤ gb338));clear HO333;clear HB;have HO333:=n0_;have HB:=n1_;have BK338:=n2_;have GW338:=n3_;have GE338:=n4_;clear n0_ n1_ n2_ n3_ n4_;clear hb hbox hg;have hcz18_0 : w17.cell? ⟨gb338,0,none⟩ = some (.int .i64 0):=(blk_cell BK338.out 0).trans rfl;have hcz18_1 : w17.cell? ⟨gb338,1,none⟩ = some (.int .i64 0):=(blk_cell BK338.out 1).trans rfl;have hcz18_2 : w17.cell? ⟨gb338,2,none⟩ = some (.int .i64 0):=(blk_cell BK338.out 2).trans rfl;have hfz18_0:=blk_frozen BK338.out 0;have hfz18_1:=blk_frozen BK338.out 1;have hfz18_2:=blk_frozen BK338.out 2)|(go_at_call 8;(with_reducible refine (scan_All.calls a1 t339 t342 t343 t344 t345 _ ?side1 A10.out).mono ?_);(case side1 => exact LW.below HLW.out (by repeat (first|(with_reducible first|exact HB.out|apply below_alloc|apply pw_below_drewN|apply below_drew1|refine below_set ?_ GE338.out)|exact HB.out)));rintro e w19 ⟨v340,rfl,ho0,hb⟩;have n0_:=Aside0.mk (Kd.R_elder' (by (with_reducible repeat (first|apply Kd.R_alloc|apply Kd.R_drewN|apply Kd.R_drew));exact (Kd.R_mono (Kd.R_far (p:=⟨gb338,2,none⟩) (Kd.R_far (p:=⟨gb338,1,none⟩) (Kd.R_far (p:=⟨gb338,0,none⟩) (Kd.R_types HO333.out BK338.out (by decide)) (fun _ hk => hk.2) (.int .i64 t335)) (fun _ hk => hk.2) (.int .i64 t336)) (fun _ hk => hk.2) (.int .i64 t337)) (fun _ h_ => h_.1))) (Kd.R_base ho0) hb);have n1_:=Aside0.mk (Kd.R_lower (Kd.R_new' ho0 (Kd.R_lt (by (with_reducible repeat (first|apply Kd.R_alloc|apply Kd.R_drewN|apply Kd.R_drew));exact (Kd.R_mono (Kd.R_far (p:=⟨gb338,2,none⟩) (Kd.R_far (p:=⟨gb338,1,none⟩) (Kd.R_far (p:=⟨gb338,0,none⟩) (Kd.R_types HO333.out BK338.out (by decide)) (fun _ hk => hk.2) (.int .i64 t335)) (fun _ hk => hk.2) (.int .i64 t336)) (fun _ hk => hk.2) (.int .i64 t337)) (fun _ h_ => h_.1))))) (below_size (by repeat (first|(with_reducible first|exact HB.out|apply below_alloc|apply pw_below_drewN|apply below_drew1|refine below_set ?_ GE338.out)|exact HB.out))));have n2_:=Aside0.mk (blk_below (g:=gb338) (o:=.cells #[.int .i64 t335,.int .i64 t336,.int .i64 t337] 26 (0,0)) (by (with_reducible repeat (first|refine blk_drewN ?_ _|refine blk_drew ?_|refine blk_alloc ?_ _));refine blk_put (cs:=#[.int .i64 t335,.int .i64 t336,.int .i64 0]) ?_ 2 _ rfl;(with_reducible repeat (first|refine blk_drewN ?_ _|refine blk_drew ?_|refine blk_alloc ?_ _));refine blk_put (cs:=#[.int .i64 t335,.int .i64 0,.int .i64 0]) ?_ 1 _ rfl;(with_reducible repeat (first|refine blk_drewN ?_ _|refine blk_drew ?_|refine blk_alloc ?_ _));refine blk_put (cs:=#[.int .i64 0,.int .i64 0,.int .i64 0]) ?_ 0 _ rfl;(with_reducible repeat (first|refine blk_drewN ?_ _|refine blk_drew ?_|refine blk_alloc ?_ _));exact BK338.out) hb);have n3_:=Aside0.mk (below_step (by repeat (first|(with_reducible first|exact HB.out|apply below_alloc|apply pw_below_drewN|apply below_drew1|refine below_set ?_ GE338.out)|exact HB.out)) hb);clear HO333;clear BK338;clear HB;have HO333:=n0_;have HO341:=n1_;have BK338:=n2_;have HB:=n3_;clear n0_ n1_ n2_ n3_;(try clear hb);(try clear hb2);(try clear hk);(try clear hi);(try clear ho0))|((with_reducible refine gate_dst (N:=11) rfl ?_);(try (refine gate_guard (by rfl) ?_;dsimp only));refine box_event ?hg (N:=11) ?hd (cs:=#[.int .i64 0,.int .i64 0,.int .i64 0]) (t:=26) ?hr ?_;(case hd => rfl);(case hg => rfl);(case hr => first|(go_simp;done)|(go_simp;rfl));intro gb346 hg w20 hbox hb;have n0_:=Aside0.mk (Kd.R_below (by (with_reducible repeat (first|apply Kd.R_alloc|apply Kd.R_drewN|apply Kd.R_drew));exact HO333.out) hb);have n1_:=Aside0.mk (Kd.R_below (by (with_reducible repeat (first|apply Kd.R_alloc|apply Kd.R_drewN|apply Kd.R_drew));exact HO341.out) hb);have n2_:=Aside0.mk (blk_below (g:=gb338) (o:=.cells #[.int .i64 t335,.int .i64 t336,.int .i64 t337] 26 (0,0)) (by (with_reducible repeat (first|refine blk_drewN ?_ _|refine blk_drew ?_|refine blk_alloc ?_ _));exact BK338.out) hb);have n3_:=Aside0.mk (below_step (by repeat (first|(with_reducible first|exact HB.out|apply below_alloc|apply pw_below_drewN|apply below_drew1|refine below_set ?_ GE338.out)|exact HB.out)) hb);have n4_:=Aside0.mk (hbox);have n5_:=Aside0.mk ((by rw [hg];exact (below_size (by repeat (first|(with_reducible first|exact HB.out|apply below_alloc|apply pw_below_drewN|apply below_drew1|refine below_set ?_ GE338.out)|exact HB.out))) : w.heap.size ≤ gb346));have n6_:=Aside0.mk ((by rw [hg];exact (below_size (by repeat (first|(with_reducible first|exact HB.out|apply below_alloc|apply pw_below_drewN|apply below_drew1|refine below_set ?_ GE338.out)|exact HB.out))) : w.heap.size ≤ gb346));have n7_:=Aside0.mk ((by rw [hg];exact Nat.ne_of_lt (blk_lt (g:=gb338) (o:=.cells #[.int .i64 t335,.int .i64 t336,.int .i64 t337] 26 (0,0)) (by (with_reducible repeat (first|refine blk_drewN ?_ _|refine blk_drew ?_|refine blk_alloc ?_ _));exact BK338.out)) : gb338 ≠ gb346));have n8_:=Aside0.mk ((by rw [hg];exact Nat.ne_of_gt (blk_lt (g:=gb338) (o:=.cells #[.int .i64 t335,.int .i64 t336,.int .i64 t337] 26 (0,0)) (by (with_reducible repeat (first|refine blk_drewN ?_ _|refine blk_drew ?_|refine blk_alloc ?_ _));exact BK338.out)) : gb346 ≠ gb338));clear HO333;clear HO341;clear BK338;clear HB;have HO333:=n0_;have HO341:=n1_;have BK338:=n2_;have HB:=n3_;have BK346:=n4_;have GW346:=n5_;have GE346:=n6_;have NB338_346:=n7_;have NB346_338:=n8_;clear n0_ n1_ n2_ n3_ n4_ n5_ n6_ n7_ n8_;clear hb hbox hg;have hnb21:=NB346_338.out;have hnc21:=NB338_346.out;have hcz22_0 : w20.cell? ⟨gb346,0,none⟩ = some (.int .i64 0):=(blk_cell BK346.out 0).trans rfl;have hcz22_1 : w20.cell? ⟨gb346,1,none⟩ = some (.int .i64 0):=(blk_cell BK346.out 1).trans rfl;have hcz22_2 : w20.cell? ⟨gb346,2,none⟩ = some (.int .i64 0):=(blk_cell BK346.out 2).trans rfl;have hfz22_0:=blk_frozen BK346.out 0;have hfz22_1:=blk_frozen BK346.out 1;have hfz22_2:=blk_frozen BK346.out 2)|(go_at_call 8;(with_reducible refine (scan_All.calls ((a0 ++ (⟨#[10]⟩ : ByteArray)) ++ a1) t347 t350 t351 t352 t353 _ ?side1 A13.out).mono ?_);(case side1 => exact LW.below HLW.out (by repeat (first|(with_reducible first|exact HB.out|apply below_alloc|apply pw_below_drewN|apply below_drew1|refine below_set ?_ GE338.out|refine below_set ?_ GE346.out)|exact HB.out)));rintro e w23 ⟨v348,rfl,ho0,hb⟩;have n0_:=Aside0.mk (Kd.R_elder' (by (with_reducible repeat (first|apply Kd.R_alloc|apply Kd.R_drewN|apply Kd.R_drew));exact (Kd.R_mono (Kd.R_far (p:=⟨gb346,2,none⟩) (Kd.R_far (p:=⟨gb346,1,none⟩) (Kd.R_far (p:=⟨gb346,0,none⟩) (Kd.R_types HO333.out BK346.out (by decide)) (fun _ hk => hk.2) (.int .i64 t343)) (fun _ hk => hk.2) (.int .i64 t344)) (fun _ hk => hk.2) (.int .i64 t345)) (fun _ h_ => h_.1))) (Kd.R_base ho0) hb);have n1_:=Aside0.mk (Kd.R_elder' (by (with_reducible repeat (first|apply Kd.R_alloc|apply Kd.R_drewN|apply Kd.R_drew));exact (Kd.R_mono (Kd.R_far (p:=⟨gb346,2,none⟩) (Kd.R_far (p:=⟨gb346,1,none⟩) (Kd.R_far (p:=⟨gb346,0,none⟩) (Kd.R_types HO341.out BK346.out (by decide)) (fun _ hk => hk.2) (.int .i64 t343)) (fun _ hk => hk.2) (.int .i64 t344)) (fun _ hk => hk.2) (.int .i64 t345)) (fun _ h_ => h_.1))) (Kd.R_base ho0) hb);have n2_:=Aside0.mk (Kd.R_lower (Kd.R_new' (Kd.R_new' ho0 (Kd.R_lt (by (with_reducible repeat (first|apply Kd.R_alloc|apply Kd.R_drewN|apply Kd.R_drew));exact (Kd.R_mono (Kd.R_far (p:=⟨gb346,2,none⟩) (Kd.R_far (p:=⟨gb346,1,none⟩) (Kd.R_far (p:=⟨gb346,0,none⟩) (Kd.R_types HO333.out BK346.out (by decide)) (fun _ hk => hk.2) (.int .i64 t343)) (fun _ hk => hk.2) (.int .i64 t344)) (fun _ hk => hk.2) (.int .i64 t345)) (fun _ h_ => h_.1))))) (Kd.R_lt (by (with_reducible repeat (first|apply Kd.R_alloc|apply Kd.R_drewN|apply Kd.R_drew));exact (Kd.R_mono (Kd.R_far (p:=⟨gb346,2,none⟩) (Kd.R_far (p:=⟨gb346,1,none⟩) (Kd.R_far (p:=⟨gb346,0,none⟩) (Kd.R_types HO341.out BK346.out (by decide)) (fun _ hk => hk.2) (.int .i64 t343)) (fun _ hk => hk.2) (.int .i64 t344)) (fun _ hk => hk.2) (.int .i64 t345)) (fun _ h_ => h_.1))))) (below_size (by repeat (first|(with_reducible first|exact HB.out|apply below_alloc|apply pw_below_drewN|apply below_drew1|refine below_set ?_ GE338.out|refine below_set ?_ GE346.out)|exact HB.out))));have n3_:=Aside0.mk (blk_below (g:=gb338) (o:=.cells #[.int .i64 t335,.int .i64 t336,.int .i64 t337] 26 (0,0)) (by (with_reducible repeat (first|refine blk_drewN ?_ _|refine blk_drew ?_|refine blk_alloc ?_ _));refine blk_far ?_ NB338_346.out _;(with_reducible repeat (first|refine blk_drewN ?_ _|refine blk_drew ?_|refine blk_alloc ?_ _));refine blk_far ?_ NB338_346.out _;(with_reducible repeat (first|refine blk_drewN ?_ _|refine blk_drew ?_|refine blk_alloc ?_ _));refine blk_far ?_ NB338_346.out _;(with_reducible repeat (first|refine blk_drewN ?_ _|refine blk_drew ?_|refine blk_alloc ?_ _));exact BK338.out) hb);have n4_:=Aside0.mk (blk_below (g:=gb346) (o:=.cells #[.int .i64 t343,.int .i64 t344,.int .i64 t345] 26 (0,0)) (by (with_reducible repeat (first|refine blk_drewN ?_ _|refine blk_drew ?_|refine blk_alloc ?_ _));refine blk_put (cs:=#[.int .i64 t343,.int .i64 t344,.int .i64 0]) ?_ 2 _ rfl;(with_reducible repeat (first|refine blk_drewN ?_ _|refine blk_drew ?_|refine blk_alloc ?_ _));refine blk_put (cs:=#[.int .i64 t343,.int .i64 0,.int .i64 0]) ?_ 1 _ rfl;(with_reducible repeat (first|refine blk_drewN ?_ _|refine blk_drew ?_|refine blk_alloc ?_ _));refine blk_put (cs:=#[.int .i64 0,.int .i64 0,.int .i64 0]) ?_ 0 _ rfl;(with_reducible repeat (first|refine blk_drewN ?_ _|refine blk_drew ?_|refine blk_alloc ?_ _));exact BK346.out) hb);have n5_:=Aside0.mk (below_step (by repeat (first|(with_reducible first|exact HB.out|apply below_alloc|apply pw_below_drewN|apply below_drew1|refine below_set ?_ GE338.out|refine below_set ?_ GE346.out)|exact HB.out)) hb);clear HO333;clear HO341;clear BK338;clear BK346;clear HB;have HO333:=n0_;have HO341:=n1_;have HO349:=n2_;have BK338:=n3_;have BK346:=n4_;have HB:=n5_;clear n0_ n1_ n2_ n3_ n4_ n5_;(try clear hb);(try clear hb2);(try clear hk);(try clear hi);(try clear ho0))|((with_reducible refine gate_dst (N:=14) rfl ?_);(try (refine gate_guard (by rfl) ?_;dsimp only));refine box_event ?hg (N:=14) ?hd (cs:=#[.int .i64 0,.int .i64 0,.int .i64 0]) (t:=26) ?hr ?_;(case hd => rfl);(case hg => rfl);(case hr => first|(go_simp;done)|(go_simp;rfl));intro gb354 hg w24 hbox hb;have n0_:=Aside0.mk (Kd.R_below (by (with_reducible repeat (first|apply Kd.R_alloc|apply Kd.R_drewN|apply Kd.R_drew));exact HO333.out) hb);have n1_:=Aside0.mk (Kd.R_below (by (with_reducible repeat (first|apply Kd.R_alloc|apply Kd.R_drewN|apply Kd.R_drew));exact HO341.out) hb);have n2_:=Aside0.mk (Kd.R_below (by (with_reducible repeat (first|apply Kd.R_alloc|apply Kd.R_drewN|apply Kd.R_drew));exact HO349.out) hb);have n3_:=Aside0.mk (blk_below (g:=gb338) (o:=.cells #[.int .i64 t335,.int .i64 t336,.int .i64 t337] 26 (0,0)) (by (with_reducible repeat (first|refine blk_drewN ?_ _|refine blk_drew ?_|refine blk_alloc ?_ _));exact BK338.out) hb);have n4_:=Aside0.mk (blk_below (g:=gb346) (o:=.cells #[.int .i64 t343,.int .i64 t344,.int .i64 t345] 26 (0,0)) (by (with_reducible repeat (first|refine blk_drewN ?_ _|refine blk_drew ?_|refine blk_alloc ?_ _));exact BK346.out) hb);have n5_:=Aside0.mk (below_step (by repeat (first|(with_reducible first|exact HB.out|apply below_alloc|apply pw_below_drewN|apply below_drew1|refine below_set ?_ GE338.out|refine below_set ?_ GE346.out)|exact HB.out)) hb);have n6_:=Aside0.mk (hbox);have n7_:=Aside0.mk ((by rw [hg];exact (below_size (by repeat (first|(with_reducible first|exact HB.out|apply below_alloc|apply pw_below_drewN|apply below_drew1|refine below_set ?_ GE338.out|refine below_set ?_ GE346.out)|exact HB.out))) : w.heap.size ≤ gb354));have n8_:=Aside0.mk ((by rw [hg];exact (below_size (by repeat (first|(with_reducible first|exact HB.out|apply below_alloc|apply pw_below_drewN|apply below_drew1|refine below_set ?_ GE338.out|refine below_set ?_ GE346.out)|exact HB.out))) : w.heap.size ≤ gb354));have n9_:=Aside0.mk ((by rw [hg];exact Nat.ne_of_lt (blk_lt (g:=gb338) (o:=.cells #[.int .i64 t335,.int .i64 t336,.int .i64 t337] 26 (0,0)) (by (with_reducible repeat (first|refine blk_drewN ?_ _|refine blk_drew ?_|refine blk_alloc ?_ _));exact BK338.out)) : gb338 ≠ gb354));have n10_:=Aside0.mk ((by rw [hg];exact Nat.ne_of_gt (blk_lt (g:=gb338) (o:=.cells #[.int .i64 t335,.int .i64 t336,.int .i64 t337] 26 (0,0)) (by (with_reducible repeat (first|refine blk_drewN ?_ _|refine blk_drew ?_|refine blk_alloc ?_ _));exact BK338.out)) : gb354 ≠ gb338));have n11_:=Aside0.mk ((by rw [hg];exact Nat.ne_of_lt (blk_lt (g:=gb346) (o:=.cells #[.int .i64 t343,.int .i64 t344,.int .i64 t345] 26 (0,0)) (by (with_reducible repeat (first|refine blk_drewN ?_ _|refine blk_drew ?_|refine blk_alloc ?_ _));exact BK346.out)) : gb346 ≠ gb354));have n12_:=Aside0.mk ((by rw [hg];exact Nat.ne_of_gt (blk_lt (g:=gb346) (o:=.cells #[.int .i64 t343,.int .i64 t344,.int .i64 t345] 26 (0,0)) (by (with_reducible repeat (first|refine blk_drewN ?_ _|refine blk_drew ?_|refine blk_alloc ?_ _));exact BK346.out)) : gb354 ≠ gb346));clear HO333;clear HO341;clear HO349;clear BK338;clear BK346;clear HB;have HO333:=n0_;have HO341:=n1_;have HO349:=n2_;have BK338:=n3_;have BK346:=n4_;have HB:=n5_;have BK354:=n6_;have GW354:=n7_;have GE354:=n8_;have NB338_354:=n9_;have NB354_338:=n10_;have NB346_354:=n11_;have NB354_346:=n12_;clear n0_ n1_ n2_ n3_ n4_ n5_ n6_ n7_ n8_ n9_ n10_ n11_ n12_;clear hb hbox hg;have hnb25:=NB354_338.out;have hnc25:=NB338_354.out;have hnb26:=NB354_346.out;have hnc26:=NB346_354.out;have hcz27_0 : w24.cell? ⟨gb354,0,none⟩ = some (.int .i64 0):=(blk_cell BK354.out 0).trans rfl;have hcz27_1 : w24.cell? ⟨gb354,1,none⟩ = some (.int .i64 0):=(blk_cell BK354.out 1).trans rfl;have hcz27_2 : w24.cell? ⟨gb354,2,none⟩ = some (.int .i64 0):=(blk_cell BK354.out 2).trans rfl;have hfz27_0:=blk_frozen BK354.out 0;have hfz27_1:=blk_frozen BK354.out 1;have hfz27_2:=blk_frozen BK354.out 2)))
       (try simp only [Act.put, List.setIfInBounds_toArray, List.set_cons_zero, List.set_cons_succ])
       go_cut [82] (fun v82 wc => ∃ (kq : Nat) (x82_14 : Bool), v82 = .bool x82_14 ∧ Aside0 (colophonlaw10_ScanJoins.j1 kq a0 t331 t339 t347 x82_14 = some r) ∧ Aside0 (kq ≤ kj3) ∧ Aside0 (Kd.R k35 35 wc w.heap.size (fun k_ => some k_ ≠ (v340 : Value).ownBlock ∧ some k_ ≠ (v348 : Value).ownBlock) v332 t331) ∧ Aside0 (Kd.R k35 35 wc w.heap.size (fun k_ => some k_ ≠ (v332 : Value).ownBlock ∧ some k_ ≠ (v348 : Value).ownBlock) v340 t339) ∧ Aside0 (Kd.R k35 35 wc w.heap.size (fun k_ => some k_ ≠ (v332 : Value).ownBlock ∧ some k_ ≠ (v340 : Value).ownBlock) v348 t347) ∧ Aside0 (wc.heap[gb338]? = some (.cells #[.int .i64 t335, .int .i64 t336, .int .i64 t337] 26 (0, 0))) ∧ Aside0 (wc.heap[gb346]? = some (.cells #[.int .i64 t343, .int .i64 t344, .int .i64 t345] 26 (0, 0))) ∧ Aside0 (wc.heap[gb354]? = some (.cells #[.int .i64 t351, .int .i64 t352, .int .i64 t353] 26 (0, 0))) ∧ Aside0 (Below w.heap.size w wc))
       case first =>
        have H := HC15.out
        clear HC15
        by_cases c28 : t342 = t350
        ·rw [if_pos c28] at H
         have c28b0 : (t342 == t350) = true := beq_iff_eq.mpr c28
         have c28b1 : (t342 != t350) = false := bne_eq_false_iff_eq.mpr c28
         clear c28
         (first|rw [c28b0]|(simp only [i64_w, i32_w]; rw [c28b0])|skip)
         by_cases c29 : t342 = 0
         ·rw [if_pos c29] at H
          have c29b0 : (t342 == 0) = true := beq_iff_eq.mpr c29
          have c29b1 : (t342 != 0) = false := bne_eq_false_iff_eq.mpr c29
          clear c29
          have H' := Aside0.mk H
          clear H
          obtain ⟨Ao30, co30, eo30⟩ := Kd.R_slice HO349.out
          subst eo30
          obtain ⟨Ao31, co31, eo31⟩ := Kd.R_slice HO333.out
          subst eo31
          obtain ⟨Ao32, co32, eo32⟩ := Kd.R_slice HO341.out
          subst eo32
          go_wp2
          repeat (go_quiet (fail); try go_wp2)
          go_meet
          case rel => exact ⟨_,(((t347.length : Int) != (wrap64 ((t331.length : Int) + (t339.length : Int))))),(by first|rfl|(simp;done)|(simp [*];done)),H',⟨by have:=HJ3.out;first|omega|exact Nat.le_refl _⟩,⟨by (with_reducible repeat (first|apply Kd.R_alloc|apply Kd.R_drewN|apply Kd.R_drew));exact Kd.R_mono (Kd.R_far (p:=⟨gb354,2,none⟩) (Kd.R_far (p:=⟨gb354,1,none⟩) (Kd.R_far (p:=⟨gb354,0,none⟩) (Kd.R_types HO333.out BK354.out (by decide)) (fun _ hk => hk.2) (.int .i64 t351)) (fun _ hk => hk.2) (.int .i64 t352)) (fun _ hk => hk.2) (.int .i64 t353)) (fun _ hk => ⟨hk.1.1.2,hk.1.2⟩)⟩,⟨by (with_reducible repeat (first|apply Kd.R_alloc|apply Kd.R_drewN|apply Kd.R_drew));exact Kd.R_mono (Kd.R_far (p:=⟨gb354,2,none⟩) (Kd.R_far (p:=⟨gb354,1,none⟩) (Kd.R_far (p:=⟨gb354,0,none⟩) (Kd.R_types HO341.out BK354.out (by decide)) (fun _ hk => hk.2) (.int .i64 t351)) (fun _ hk => hk.2) (.int .i64 t352)) (fun _ hk => hk.2) (.int .i64 t353)) (fun _ hk => ⟨hk.1.1.2,hk.1.2⟩)⟩,⟨by (with_reducible repeat (first|apply Kd.R_alloc|apply Kd.R_drewN|apply Kd.R_drew));exact Kd.R_mono (Kd.R_far (p:=⟨gb354,2,none⟩) (Kd.R_far (p:=⟨gb354,1,none⟩) (Kd.R_far (p:=⟨gb354,0,none⟩) (Kd.R_types HO349.out BK354.out (by decide)) (fun _ hk => hk.2) (.int .i64 t351)) (fun _ hk => hk.2) (.int .i64 t352)) (fun _ hk => hk.2) (.int .i64 t353)) (fun _ hk => ⟨hk.1.1.2,hk.1.2⟩)⟩,⟨by (with_reducible repeat (first|refine blk_drewN ?_ _|refine blk_drew ?_|refine blk_alloc ?_ _));refine blk_far ?_ NB338_354.out _;(with_reducible repeat (first|refine blk_drewN ?_ _|refine blk_drew ?_|refine blk_alloc ?_ _));refine blk_far ?_ NB338_354.out _;(with_reducible repeat (first|refine blk_drewN ?_ _|refine blk_drew ?_|refine blk_alloc ?_ _));refine blk_far ?_ NB338_354.out _;(with_reducible repeat (first|refine blk_drewN ?_ _|refine blk_drew ?_|refine blk_alloc ?_ _));exact BK338.out⟩,⟨by (with_reducible repeat (first|refine blk_drewN ?_ _|refine blk_drew ?_|refine blk_alloc ?_ _));refine blk_far ?_ NB346_354.out _;(with_reducible repeat (first|refine blk_drewN ?_ _|refine blk_drew ?_|refine blk_alloc ?_ _));refine blk_far ?_ NB346_354.out _;(with_reducible repeat (first|refine blk_drewN ?_ _|refine blk_drew ?_|refine blk_alloc ?_ _));refine blk_far ?_ NB346_354.out _;(with_reducible repeat (first|refine blk_drewN ?_ _|refine blk_drew ?_|refine blk_alloc ?_ _));exact BK346.out⟩,⟨by (with_reducible repeat (first|refine blk_drewN ?_ _|refine blk_drew ?_|refine blk_alloc ?_ _));refine blk_put (cs:=#[.int .i64 t351,.int .i64 t352,.int .i64 0]) ?_ 2 _ rfl;(with_reducible repeat (first|refine blk_drewN ?_ _|refine blk_drew ?_|refine blk_alloc ?_ _));refine blk_put (cs:=#[.int .i64 t351,.int .i64 0,.int .i64 0]) ?_ 1 _ rfl;(with_reducible repeat (first|refine blk_drewN ?_ _|refine blk_drew ?_|refine blk_alloc ?_ _));refine blk_put (cs:=#[.int .i64 0,.int .i64 0,.int .i64 0]) ?_ 0 _ rfl;(with_reducible repeat (first|refine blk_drewN ?_ _|refine blk_drew ?_|refine blk_alloc ?_ _));exact BK354.out⟩,⟨by repeat (first|(with_reducible first|exact HB.out|apply below_alloc|apply pw_below_drewN|apply below_drew1|refine below_set ?_ GE338.out|refine below_set ?_ GE346.out|refine below_set ?_ GE354.out)|exact HB.out)⟩⟩
         ·rw [if_neg c29] at H
          have c29b0 : (t342 == 0) = false := beq_eq_false_iff_ne.mpr c29
          have c29b1 : (t342 != 0) = true := bne_iff_ne.mpr c29
          by_cases c33 : t351 = (wrap64 ((wrap64 (t343 + (a0.size : Int))) + 1))
          ·rw [if_pos c33] at H
           have c33b0 : (t351 == (wrap64 ((wrap64 (t343 + (a0.size : Int))) + 1))) = true := beq_iff_eq.mpr c33
           have c33b1 : (t351 != (wrap64 ((wrap64 (t343 + (a0.size : Int))) + 1))) = false := bne_eq_false_iff_eq.mpr c33
           clear c33
           have H' := Aside0.mk H
           clear H
           have hnb34 := NB354_338.out
           have hnc34 := NB338_354.out
           have hnb35 := NB354_346.out
           have hnc35 := NB346_354.out
           have hcz36_0 : w24.cell? ⟨gb354, 0, none⟩ = some (.int .i64 0) := (blk_cell BK354.out 0).trans rfl
           have hcz36_1 : w24.cell? ⟨gb354, 1, none⟩ = some (.int .i64 0) := (blk_cell BK354.out 1).trans rfl
           have hcz36_2 : w24.cell? ⟨gb354, 2, none⟩ = some (.int .i64 0) := (blk_cell BK354.out 2).trans rfl
           have hfz36_0 := blk_frozen BK354.out 0
           have hfz36_1 := blk_frozen BK354.out 1
           have hfz36_2 := blk_frozen BK354.out 2
           have hnb37 := NB346_338.out
           have hnc37 := NB338_346.out
           have hcz38_0 : w24.cell? ⟨gb346, 0, none⟩ = some (.int .i64 t343) := (blk_cell BK346.out 0).trans rfl
           have hcz38_1 : w24.cell? ⟨gb346, 1, none⟩ = some (.int .i64 t344) := (blk_cell BK346.out 1).trans rfl
           have hcz38_2 : w24.cell? ⟨gb346, 2, none⟩ = some (.int .i64 t345) := (blk_cell BK346.out 2).trans rfl
           have hfz38_0 := blk_frozen BK346.out 0
           have hfz38_1 := blk_frozen BK346.out 1
           have hfz38_2 := blk_frozen BK346.out 2
           obtain ⟨Ao39, co39, eo39⟩ := Kd.R_slice HO349.out
           subst eo39
           obtain ⟨Ao40, co40, eo40⟩ := Kd.R_slice HO333.out
           subst eo40
           obtain ⟨Ao41, co41, eo41⟩ := Kd.R_slice HO341.out
           subst eo41
           go_wp2
           repeat (go_quiet (fail); try go_wp2)
           go_meet
           case rel => exact ⟨_,(((t347.length : Int) != (wrap64 ((t331.length : Int) + (t339.length : Int))))),(by first|rfl|(simp;done)|(simp [*];done)),H',⟨by have:=HJ3.out;first|omega|exact Nat.le_refl _⟩,⟨by (with_reducible repeat (first|apply Kd.R_alloc|apply Kd.R_drewN|apply Kd.R_drew));exact Kd.R_mono (Kd.R_far (p:=⟨gb354,2,none⟩) (Kd.R_far (p:=⟨gb354,1,none⟩) (Kd.R_far (p:=⟨gb354,0,none⟩) (Kd.R_types HO333.out BK354.out (by decide)) (fun _ hk => hk.2) (.int .i64 t351)) (fun _ hk => hk.2) (.int .i64 t352)) (fun _ hk => hk.2) (.int .i64 t353)) (fun _ hk => ⟨hk.1.1.2,hk.1.2⟩)⟩,⟨by (with_reducible repeat (first|apply Kd.R_alloc|apply Kd.R_drewN|apply Kd.R_drew));exact Kd.R_mono (Kd.R_far (p:=⟨gb354,2,none⟩) (Kd.R_far (p:=⟨gb354,1,none⟩) (Kd.R_far (p:=⟨gb354,0,none⟩) (Kd.R_types HO341.out BK354.out (by decide)) (fun _ hk => hk.2) (.int .i64 t351)) (fun _ hk => hk.2) (.int .i64 t352)) (fun _ hk => hk.2) (.int .i64 t353)) (fun _ hk => ⟨hk.1.1.2,hk.1.2⟩)⟩,⟨by (with_reducible repeat (first|apply Kd.R_alloc|apply Kd.R_drewN|apply Kd.R_drew));exact Kd.R_mono (Kd.R_far (p:=⟨gb354,2,none⟩) (Kd.R_far (p:=⟨gb354,1,none⟩) (Kd.R_far (p:=⟨gb354,0,none⟩) (Kd.R_types HO349.out BK354.out (by decide)) (fun _ hk => hk.2) (.int .i64 t351)) (fun _ hk => hk.2) (.int .i64 t352)) (fun _ hk => hk.2) (.int .i64 t353)) (fun _ hk => ⟨hk.1.1.2,hk.1.2⟩)⟩,⟨by (with_reducible repeat (first|refine blk_drewN ?_ _|refine blk_drew ?_|refine blk_alloc ?_ _));refine blk_far ?_ NB338_354.out _;(with_reducible repeat (first|refine blk_drewN ?_ _|refine blk_drew ?_|refine blk_alloc ?_ _));refine blk_far ?_ NB338_354.out _;(with_reducible repeat (first|refine blk_drewN ?_ _|refine blk_drew ?_|refine blk_alloc ?_ _));refine blk_far ?_ NB338_354.out _;(with_reducible repeat (first|refine blk_drewN ?_ _|refine blk_drew ?_|refine blk_alloc ?_ _));exact BK338.out⟩,⟨by (with_reducible repeat (first|refine blk_drewN ?_ _|refine blk_drew ?_|refine blk_alloc ?_ _));refine blk_far ?_ NB346_354.out _;(with_reducible repeat (first|refine blk_drewN ?_ _|refine blk_drew ?_|refine blk_alloc ?_ _));refine blk_far ?_ NB346_354.out _;(with_reducible repeat (first|refine blk_drewN ?_ _|refine blk_drew ?_|refine blk_alloc ?_ _));refine blk_far ?_ NB346_354.out _;(with_reducible repeat (first|refine blk_drewN ?_ _|refine blk_drew ?_|refine blk_alloc ?_ _));exact BK346.out⟩,⟨by (with_reducible repeat (first|refine blk_drewN ?_ _|refine blk_drew ?_|refine blk_alloc ?_ _));refine blk_put (cs:=#[.int .i64 t351,.int .i64 t352,.int .i64 0]) ?_ 2 _ rfl;(with_reducible repeat (first|refine blk_drewN ?_ _|refine blk_drew ?_|refine blk_alloc ?_ _));refine blk_put (cs:=#[.int .i64 t351,.int .i64 0,.int .i64 0]) ?_ 1 _ rfl;(with_reducible repeat (first|refine blk_drewN ?_ _|refine blk_drew ?_|refine blk_alloc ?_ _));refine blk_put (cs:=#[.int .i64 0,.int .i64 0,.int .i64 0]) ?_ 0 _ rfl;(with_reducible repeat (first|refine blk_drewN ?_ _|refine blk_drew ?_|refine blk_alloc ?_ _));exact BK354.out⟩,⟨by repeat (first|(with_reducible first|exact HB.out|apply below_alloc|apply pw_below_drewN|apply below_drew1|refine below_set ?_ GE338.out|refine below_set ?_ GE346.out|refine below_set ?_ GE354.out)|exact HB.out)⟩⟩
          ·rw [if_neg c33] at H
           exact absurd H (by simp)
        ·rw [if_neg c28] at H
         exact absurd H (by simp)
       case rest =>
        clear HC15
        try clear c1
        try clear c2
        try clear p2
        try clear c3
        try clear c5
        try clear c6
        try clear p6
        try clear c7
        try clear c7b0
        try clear c7b1
        try clear c8
        try clear c11
        try clear c11b0
        try clear c11b1
        try clear c11b2
        try clear c12
        try clear c12b0
        try clear c12b1
        try clear c12b2
        try clear c14
        try clear c14b0
        try clear c14b1
        try clear c21
        try clear c25
        try clear c26
        try clear c28
        try clear c28b0
        try clear c28b1
        try clear c29
        try clear c29b0
        try clear c29b1
        try clear c33
        try clear c33b0
        try clear c33b1
        try clear c34
        try clear c35
        try clear c37
        try clear hcz18_0
        try clear hcz18_1
        try clear hcz18_2
        try clear hcz22_0
        try clear hcz22_1
        try clear hcz22_2
        try clear hcz27_0
        try clear hcz27_1
        try clear hcz27_2
        try clear hcz36_0
        try clear hcz36_1
        try clear hcz36_2
        try clear hcz38_0
        try clear hcz38_1
        try clear hcz38_2
        try clear hfz18_0
        try clear hfz18_1
        try clear hfz18_2
        try clear hfz22_0
        try clear hfz22_1
        try clear hfz22_2
        try clear hfz27_0
        try clear hfz27_1
        try clear hfz27_2
        try clear hfz36_0
        try clear hfz36_1
        try clear hfz36_2
        try clear hfz38_0
        try clear hfz38_1
        try clear hfz38_2
        try clear p2
        obtain ⟨kq, x82_14, rfl, HA, HJ14, HO_6, HO_9, HO_12, BK338, BK346, BK354, HB⟩ := hcut
        cases kq with
        | zero => exact absurd HA.out (by simp [colophonlaw10_ScanJoins.j1])
        | succ kj14 =>
         have H := HA.out
         clear HA
         simp only [colophonlaw10_ScanJoins.j1] at H
         by_cases c42 : x82_14 = true
         ·subst c42
          have H1 : (none) = some r := by rw [if_pos rfl] at H; exact H
          clear H
          have H := H1
          clear H1
          exact absurd H (by simp)
         ·replace c42 := Bool.eq_false_iff.mpr c42
          subst c42
          have H1 : (if 0 ≤ (t331.length : Int) then (if (t331.length : Int) ≤ (t347.length : Int) then ((colophonlaw10_same.f kj14 (t347.take ((t331.length : Int) : Int).toNat) t331).bind fun t359 => (colophonlaw10_ScanJoins.l0 kj14 a0 t331 t339 t347 t359 0)) else (none)) else (none)) = some r := by rw [if_neg (show ¬ (false = true) by decide)] at H; exact H
          clear H
          have H := H1
          clear H1
          by_cases c43 : 0 ≤ (t331.length : Int)
          ·rw [if_pos c43] at H
           have c43b0 := eq_true c43
           have c43b1 : decide (0 ≤ (t331.length : Int)) = true := decide_eq_true c43
           clear c43
           by_cases c44 : (t331.length : Int) ≤ (t347.length : Int)
           ·rw [if_pos c44] at H
            have c44b0 := eq_true c44
            have c44b1 : decide ((t331.length : Int) ≤ (t347.length : Int)) = true := decide_eq_true c44
            clear c44
            obtain ⟨y355, hy355⟩ : ∃ y_ : List (S35), y_ = (t347.take ((t331.length : Int) : Int).toNat) := ⟨_, rfl⟩
            replace H : ((colophonlaw10_same.f kj14 y355 t331).bind fun t359 => (colophonlaw10_ScanJoins.l0 kj14 a0 t331 t339 t347 t359 0)) = some r := by first|(rw [hy355]; with_reducible exact H)|(have H2_ := (Option.bind_some _ _).symm.trans H; rw [hy355]; with_reducible exact H2_)|(have H2_ := (Option.bind_some _ _).symm.trans H; with_reducible exact H2_)|with_reducible exact H|(rw [hy355]; exact H)|exact H
            have Ny355 := Aside0.mk hy355
            clear hy355
            replace H := Option.bind_eq_some_iff.mp H
            obtain ⟨t359, A450, H⟩ := H
            replace H : (colophonlaw10_ScanJoins.l0 kj14 a0 t331 t339 t347 t359 0) = some r := H
            have A45 := Aside0.mk A450
            clear A450
            have H' := Aside0.mk H
            clear H
            obtain ⟨Ao46, co46, eo46⟩ := Kd.R_slice HO_6.out
            subst eo46
            obtain ⟨Ao48, co48, eo48⟩ := Kd.R_slice HO_12.out
            subst eo48
            have q47 : ((t331.length : Int) : Int) ≤ ((t347.length : Int) : Int) := of_decide_eq_true (by first|(with_reducible assumption)|assumption)
            obtain ⟨i047, hi047, _, hsz47, _⟩ := info_parts info35
            have hroom47 : t347.length ≤ co48 := (Kd.R_reads' HO_12.out).2.1
            have hC47 : Kd.C k35 _ Ao48 t347.length t347 := (Kd.R_reads' HO_12.out).2.2
            have hcut47 := cut_to (P := Tryd.prog) 23 35 .i64 Tryd.underlying23 hi047 Ao48 t347.length co48 (t331.length : Int) (of_decide_eq_true (by first|(with_reducible assumption)|assumption)) q47 hroom47
            have hr47 := Kd.C_take (m := ((t331.length : Int) : Int).toNat) hC47 (by omega)
            have hy47 : y355.length = ((t331.length : Int) : Int).toNat := (by rw [Ny355.out, List.length_take]; omega)
            rw [← Ny355.out] at hr47
            rw [← hy47] at hcut47
            have HR358 := Aside0.mk hr47
            have HC358 := Aside0.mk (show y355.length ≤ co48 from by omega)
            clear hr47 hC47 hroom47 hi047 hsz47
            have KY47 := Aside0.mk hy47
            clear hy47
            have KL47 := Aside0.mk (show ((t331.length : Int) : Int).toNat ≤ t347.length from by omega)
            replace q47 := eq_true q47
            go_wp2_with (first|(go_at_call 10; (with_reducible refine (colophonlaw10_same.calls kj14 _ _ y355 _ _ t331 t359 _ ?side1 ?side2 ?side3 ?side4 A45.out).mono ?_); (case side1 => repeat (first|exact (by repeat (first|(with_reducible exact HR358.out)|(with_reducible refine Kd.C_alloc ?_ _)|(with_reducible refine Kd.C_drewN ?_ _)|(with_reducible refine Kd.C_drew ?_)|exact HR358.out))|(with_reducible refine Kd.C_alloc ?_ _)|(with_reducible refine Kd.C_drewN ?_ _)|(with_reducible refine Kd.C_drew ?_))); (case side2 => exact HC358.out); (case side3 => repeat (first|exact (Kd.R_reads' HO_6.out).2.2|(with_reducible refine Kd.C_alloc ?_ _)|(with_reducible refine Kd.C_drewN ?_ _)|(with_reducible refine Kd.C_drew ?_))); (case side4 => exact (Kd.R_reads' HO_6.out).2.1); rintro e w' ⟨rfl, ⟨nd, rfl⟩⟩; (try first|exact ⟨rfl, _, World.drewN_drewN _ _ _⟩|exact ⟨rfl, _, Eq.trans (World.drewN_drewN _ _ _) (congrArg (World.drewN _) (Nat.add_assoc _ _ _))⟩)))
            repeat (go_quiet (first|(go_at_call 10;(with_reducible refine (colophonlaw10_same.calls kj14 _ _ y355 _ _ t331 t359 _ ?side1 ?side2 ?side3 ?side4 A45.out).mono ?_);(case side1 => repeat (first|exact (by repeat (first|(with_reducible exact HR358.out)|(with_reducible refine Kd.C_alloc ?_ _)|(with_reducible refine Kd.C_drewN ?_ _)|(with_reducible refine Kd.C_drew ?_)|exact HR358.out))|(with_reducible refine Kd.C_alloc ?_ _)|(with_reducible refine Kd.C_drewN ?_ _)|(with_reducible refine Kd.C_drew ?_)));(case side2 => exact HC358.out);(case side3 => repeat (first|exact (Kd.R_reads' HO_6.out).2.2|(with_reducible refine Kd.C_alloc ?_ _)|(with_reducible refine Kd.C_drewN ?_ _)|(with_reducible refine Kd.C_drew ?_)));(case side4 => exact (Kd.R_reads' HO_6.out).2.1);rintro e w' ⟨rfl,⟨nd,rfl⟩⟩;(try first|exact ⟨rfl,_,World.drewN_drewN _ _ _⟩|exact ⟨rfl,_,Eq.trans (World.drewN_drewN _ _ _) (congrArg (World.drewN _) (Nat.add_assoc _ _ _))⟩)));try go_wp2_with (first|(go_at_call 10;(with_reducible refine (colophonlaw10_same.calls kj14 _ _ y355 _ _ t331 t359 _ ?side1 ?side2 ?side3 ?side4 A45.out).mono ?_);(case side1 => repeat (first|exact (by repeat (first|(with_reducible exact HR358.out)|(with_reducible refine Kd.C_alloc ?_ _)|(with_reducible refine Kd.C_drewN ?_ _)|(with_reducible refine Kd.C_drew ?_)|exact HR358.out))|(with_reducible refine Kd.C_alloc ?_ _)|(with_reducible refine Kd.C_drewN ?_ _)|(with_reducible refine Kd.C_drew ?_)));(case side2 => exact HC358.out);(case side3 => repeat (first|exact (Kd.R_reads' HO_6.out).2.2|(with_reducible refine Kd.C_alloc ?_ _)|(with_reducible refine Kd.C_drewN ?_ _)|(with_reducible refine Kd.C_drew ?_)));(case side4 => exact (Kd.R_reads' HO_6.out).2.1);rintro e w' ⟨rfl,⟨nd,rfl⟩⟩;(try first|exact ⟨rfl,_,World.drewN_drewN _ _ _⟩|exact ⟨rfl,_,Eq.trans (World.drewN_drewN _ _ _) (congrArg (World.drewN _) (Nat.add_assoc _ _ _))⟩))))
            go_loopg [16] kj14 (fun kq v16 w' => ∃ (x16_3 : Int), v16 = .int .i64 x16_3 ∧ Aside0 (colophonlaw10_ScanJoins.l0 kq a0 t331 t339 t347 t359 x16_3 = some r) ∧ Aside0 (kq ≤ kj14) ∧ Aside0 (Kd.R k35 35 w' w.heap.size (fun k_ => some k_ ≠ (v340 : Value).ownBlock ∧ some k_ ≠ ((.slice Ao48 t347.length co48) : Value).ownBlock) (.slice Ao46 t331.length co46) t331) ∧ Aside0 (Kd.R k35 35 w' w.heap.size (fun k_ => some k_ ≠ ((.slice Ao46 t331.length co46) : Value).ownBlock ∧ some k_ ≠ ((.slice Ao48 t347.length co48) : Value).ownBlock) v340 t339) ∧ Aside0 (Kd.R k35 35 w' w.heap.size (fun k_ => some k_ ≠ ((.slice Ao46 t331.length co46) : Value).ownBlock ∧ some k_ ≠ (v340 : Value).ownBlock) (.slice Ao48 t347.length co48) t347) ∧ Aside0 (w'.heap[gb338]? = some (.cells #[.int .i64 t335, .int .i64 t336, .int .i64 t337] 26 (0, 0))) ∧ Aside0 (w'.heap[gb346]? = some (.cells #[.int .i64 t343, .int .i64 t344, .int .i64 t345] 26 (0, 0))) ∧ Aside0 (w'.heap[gb354]? = some (.cells #[.int .i64 t351, .int .i64 t352, .int .i64 t353] 26 (0, 0))) ∧ Aside0 (Below w.heap.size w w'))
            case atStart => exact ⟨(0), (by first|rfl|(simp; done)|(simp [*]; done)), H', ⟨Nat.le_refl _⟩, ⟨by (with_reducible repeat (first|apply Kd.R_alloc|apply Kd.R_drewN|apply Kd.R_drew)); exact HO_6.out⟩, ⟨by (with_reducible repeat (first|apply Kd.R_alloc|apply Kd.R_drewN|apply Kd.R_drew)); exact HO_9.out⟩, ⟨by (with_reducible repeat (first|apply Kd.R_alloc|apply Kd.R_drewN|apply Kd.R_drew)); exact HO_12.out⟩, ⟨by (with_reducible repeat (first|refine blk_drewN ?_ _|refine blk_drew ?_|refine blk_alloc ?_ _)); exact BK338.out⟩, ⟨by (with_reducible repeat (first|refine blk_drewN ?_ _|refine blk_drew ?_|refine blk_alloc ?_ _)); exact BK346.out⟩, ⟨by (with_reducible repeat (first|refine blk_drewN ?_ _|refine blk_drew ?_|refine blk_alloc ?_ _)); exact BK354.out⟩, ⟨by repeat (first|(with_reducible first|exact HB.out|apply below_alloc|apply pw_below_drewN|apply below_drew1|refine below_set ?_ GE338.out|refine below_set ?_ GE346.out|refine below_set ?_ GE354.out)|exact HB.out)⟩⟩
            case round =>
             clear H'
             try clear c1
             try clear c2
             try clear p2
             try clear c3
             try clear c4
             try clear q4
             try clear c5
             try clear c6
             try clear p6
             try clear c7
             try clear c7b0
             try clear c7b1
             try clear c8
             try clear c11
             try clear c11b0
             try clear c11b1
             try clear c11b2
             try clear c12
             try clear c12b0
             try clear c12b1
             try clear c12b2
             try clear c14
             try clear c14b0
             try clear c14b1
             try clear c21
             try clear c25
             try clear c26
             try clear c28
             try clear c28b0
             try clear c28b1
             try clear c29
             try clear c29b0
             try clear c29b1
             try clear c33
             try clear c33b0
             try clear c33b1
             try clear c34
             try clear c35
             try clear c37
             try clear c42
             try clear c43
             try clear c43b0
             try clear c43b1
             try clear c44
             try clear c44b0
             try clear c44b1
             try clear q47
             try clear hcz18_0
             try clear hcz18_1
             try clear hcz18_2
             try clear hcz22_0
             try clear hcz22_1
             try clear hcz22_2
             try clear hcz27_0
             try clear hcz27_1
             try clear hcz27_2
             try clear hcz36_0
             try clear hcz36_1
             try clear hcz36_2
             try clear hcz38_0
             try clear hcz38_1
             try clear hcz38_2
             try clear hfz18_0
             try clear hfz18_1
             try clear hfz18_2
             try clear hfz22_0
             try clear hfz22_1
             try clear hfz22_2
             try clear hfz27_0
             try clear hfz27_1
             try clear hfz27_2
             try clear hfz36_0
             try clear hfz36_1
             try clear hfz36_2
             try clear hfz38_0
             try clear hfz38_1
             try clear hfz38_2
             try clear p2
             try clear p6
             try clear q47
             obtain ⟨x16_3, rfl, HA, HK3, HO_6, HO_9, HO_12, BK338, BK346, BK354, HB⟩ := hrel
             cases gk with
             | zero => exact absurd HA.out (by simp [colophonlaw10_ScanJoins.l0])
             | succ k3 =>
              have H := HA.out
              clear HA
              simp only [colophonlaw10_ScanJoins.l0] at H
              by_cases c49 : x16_3 < (t339.length : Int)
              ·rw [if_pos c49] at H
               have c49b0 : decide (x16_3 < (t339.length : Int)) = true := decide_eq_true c49
               clear c49
               obtain ⟨ji50, hji50⟩ : ∃ j_ : Int, (wrap64 ((t331.length : Int) + x16_3)) = j_ := ⟨_, rfl⟩
               replace H : (if 0 ≤ (ji50) then (if (ji50) < (t347.length : Int) then (if 0 ≤ x16_3 then (if ((rd_T35 t347 (ji50)).f0) = ((rd_T35 t339 x16_3).f0) then (if ((rd_T35 t347 (ji50)).f1).toList = ((rd_T35 t339 x16_3).f1).toList then (if ((rd_T35 t347 (ji50)).f2.f0) = (wrap64 ((wrap64 (((rd_T35 t339 x16_3).f2.f0) + (a0.size : Int))) + 1)) then (if ((rd_T35 t347 (ji50)).f2.f2) = ((rd_T35 t339 x16_3).f2.f2) then (if x16_3 > 0 then (colophonlaw10_ScanJoins.j3 k3 a0 t331 t339 t347 t359 x16_3 (((rd_T35 t347 (ji50)).f3) != ((rd_T35 t339 x16_3).f3))) else (colophonlaw10_ScanJoins.j3 k3 a0 t331 t339 t347 t359 x16_3 false)) else (none)) else (none)) else (none)) else (none)) else (none)) else (none)) else (none)) = some r := by first|(rw [hji50] at H; exact H)|(simp only [hji50] at H ⊢; exact H)
               have hji50w : (IntKind.i64.wrap ((t331.length : Int) + x16_3)) = ji50 := (i64_w _).trans hji50
               by_cases c51 : 0 ≤ (ji50)
               ·rw [if_pos c51] at H
                have c51b0 : decide (0 ≤ (ji50)) = true := decide_eq_true c51
                clear c51
                by_cases c52 : (ji50) < (t347.length : Int)
                ·rw [if_pos c52] at H
                 have c52b0 : decide ((ji50) < (t347.length : Int)) = true := decide_eq_true c52
                 clear c52
                 have HC53 := Aside0.mk H
                 clear H
                 obtain ⟨Ao54, co54, eo54⟩ := Kd.R_slice HO_9.out
                 subst eo54
                 have p360 : 0 ≤ ((ji50) : Int) := of_decide_eq_true (by first|(with_reducible assumption)|assumption)
                 have q360 : (ji50) < (t347.length : Int) := of_decide_eq_true (by first|(with_reducible assumption)|assumption)
                 obtain ⟨ad360, e360, hx360_0, hx360_1, hx360_2, hx360_3, hx360_4, hx360_5⟩ := at_T35 (Kd.R_reads' HO_12.out).2.2 (ji50) p360 q360
                 cases e360
                 replace p360 := eq_true p360
                 replace q360 := eq_true q360
                 go_upto_region 16 with (first|((with_reducible refine gate_dst (N:=17) rfl ?_);(try (refine gate_guard (by rfl) ?_;dsimp only));refine box_event ?hg (N:=17) ?hd (cs:=#[.int .u8 0,.string (⟨#[]⟩ : ByteArray),.int .i64 0,.int .i64 0,.int .i64 0,.int .i64 0]) (t:=35) ?hr ?_;(case hd => rfl);(case hg => rfl);(case hr => first|(go_simp;done)|(go_simp;rfl));intro gb361 hg w55 hbox hb;have n0_:=Aside0.mk (Kd.R_below (Kd.R_elderB (by (with_reducible repeat (first|apply Kd.R_alloc|apply Kd.R_drewN|apply Kd.R_drew));exact HO_6.out) gb361 (Nat.le_of_eq hg.symm)) hb);have n1_:=Aside0.mk (Kd.R_below (Kd.R_elderB (by (with_reducible repeat (first|apply Kd.R_alloc|apply Kd.R_drewN|apply Kd.R_drew));exact HO_9.out) gb361 (Nat.le_of_eq hg.symm)) hb);have n2_:=Aside0.mk (Kd.R_below (Kd.R_elderB (by (with_reducible repeat (first|apply Kd.R_alloc|apply Kd.R_drewN|apply Kd.R_drew));exact HO_12.out) gb361 (Nat.le_of_eq hg.symm)) hb);have n3_:=Aside0.mk (blk_below (g:=gb338) (o:=.cells #[.int .i64 t335,.int .i64 t336,.int .i64 t337] 26 (0,0)) (by (with_reducible repeat (first|refine blk_drewN ?_ _|refine blk_drew ?_|refine blk_alloc ?_ _));exact BK338.out) hb);have n4_:=Aside0.mk (blk_below (g:=gb346) (o:=.cells #[.int .i64 t343,.int .i64 t344,.int .i64 t345] 26 (0,0)) (by (with_reducible repeat (first|refine blk_drewN ?_ _|refine blk_drew ?_|refine blk_alloc ?_ _));exact BK346.out) hb);have n5_:=Aside0.mk (blk_below (g:=gb354) (o:=.cells #[.int .i64 t351,.int .i64 t352,.int .i64 t353] 26 (0,0)) (by (with_reducible repeat (first|refine blk_drewN ?_ _|refine blk_drew ?_|refine blk_alloc ?_ _));exact BK354.out) hb);have n6_:=Aside0.mk (below_step (by repeat (first|(with_reducible first|exact HB.out|apply below_alloc|apply pw_below_drewN|apply below_drew1|refine below_set ?_ GE338.out|refine below_set ?_ GE346.out|refine below_set ?_ GE354.out)|exact HB.out)) hb);have n7_:=Aside0.mk (hbox);have n8_:=Aside0.mk ((by rw [hg];exact (below_size (by repeat (first|(with_reducible first|exact HB.out|apply below_alloc|apply pw_below_drewN|apply below_drew1|refine below_set ?_ GE338.out|refine below_set ?_ GE346.out|refine below_set ?_ GE354.out)|exact HB.out))) : w.heap.size ≤ gb361));have n9_:=Aside0.mk ((by rw [hg];exact (below_size (by repeat (first|(with_reducible first|exact HB.out|apply below_alloc|apply pw_below_drewN|apply below_drew1|refine below_set ?_ GE338.out|refine below_set ?_ GE346.out|refine below_set ?_ GE354.out)|exact HB.out))) : w.heap.size ≤ gb361));have n10_:=Aside0.mk ((by rw [hg];exact Nat.ne_of_lt (blk_lt (g:=gb338) (o:=.cells #[.int .i64 t335,.int .i64 t336,.int .i64 t337] 26 (0,0)) (by (with_reducible repeat (first|refine blk_drewN ?_ _|refine blk_drew ?_|refine blk_alloc ?_ _));exact BK338.out)) : gb338 ≠ gb361));have n11_:=Aside0.mk ((by rw [hg];exact Nat.ne_of_gt (blk_lt (g:=gb338) (o:=.cells #[.int .i64 t335,.int .i64 t336,.int .i64 t337] 26 (0,0)) (by (with_reducible repeat (first|refine blk_drewN ?_ _|refine blk_drew ?_|refine blk_alloc ?_ _));exact BK338.out)) : gb361 ≠ gb338));have n12_:=Aside0.mk ((by rw [hg];exact Nat.ne_of_lt (blk_lt (g:=gb346) (o:=.cells #[.int .i64 t343,.int .i64 t344,.int .i64 t345] 26 (0,0)) (by (with_reducible repeat (first|refine blk_drewN ?_ _|refine blk_drew ?_|refine blk_alloc ?_ _));exact BK346.out)) : gb346 ≠ gb361));have n13_:=Aside0.mk ((by rw [hg];exact Nat.ne_of_gt (blk_lt (g:=gb346) (o:=.cells #[.int .i64 t343,.int .i64 t344,.int .i64 t345] 26 (0,0)) (by (with_reducible repeat (first|refine blk_drewN ?_ _|refine blk_drew ?_|refine blk_alloc ?_ _));exact BK346.out)) : gb361 ≠ gb346));have n14_:=Aside0.mk ((by rw [hg];exact Nat.ne_of_lt (blk_lt (g:=gb354) (o:=.cells #[.int .i64 t351,.int .i64 t352,.int .i64 t353] 26 (0,0)) (by (with_reducible repeat (first|refine blk_drewN ?_ _|refine blk_drew ?_|refine blk_alloc ?_ _));exact BK354.out)) : gb354 ≠ gb361));have n15_:=Aside0.mk ((by rw [hg];exact Nat.ne_of_gt (blk_lt (g:=gb354) (o:=.cells #[.int .i64 t351,.int .i64 t352,.int .i64 t353] 26 (0,0)) (by (with_reducible repeat (first|refine blk_drewN ?_ _|refine blk_drew ?_|refine blk_alloc ?_ _));exact BK354.out)) : gb361 ≠ gb354));clear HO_6;clear HO_9;clear HO_12;clear BK338;clear BK346;clear BK354;clear HB;have HO_6:=n0_;have HO_9:=n1_;have HO_12:=n2_;have BK338:=n3_;have BK346:=n4_;have BK354:=n5_;have HB:=n6_;have BK361:=n7_;have GW361:=n8_;have GE361:=n9_;have NB338_361:=n10_;have NB361_338:=n11_;have NB346_361:=n12_;have NB361_346:=n13_;have NB354_361:=n14_;have NB361_354:=n15_;clear n0_ n1_ n2_ n3_ n4_ n5_ n6_ n7_ n8_ n9_ n10_ n11_ n12_ n13_ n14_ n15_;clear hb hbox hg;have hnb56:=NB361_338.out;have hnc56:=NB338_361.out;have hnb57:=NB361_346.out;have hnc57:=NB346_361.out;have hnb58:=NB361_354.out;have hnc58:=NB354_361.out;have hcz59_0 : w55.cell? ⟨gb361,0,none⟩ = some (.int .u8 0):=(blk_cell BK361.out 0).trans rfl;have hcz59_1 : w55.cell? ⟨gb361,1,none⟩ = some (.string (⟨#[]⟩ : ByteArray)):=(blk_cell BK361.out 1).trans rfl;have hcz59_2 : w55.cell? ⟨gb361,2,none⟩ = some (.int .i64 0):=(blk_cell BK361.out 2).trans rfl;have hcz59_3 : w55.cell? ⟨gb361,3,none⟩ = some (.int .i64 0):=(blk_cell BK361.out 3).trans rfl;have hcz59_4 : w55.cell? ⟨gb361,4,none⟩ = some (.int .i64 0):=(blk_cell BK361.out 4).trans rfl;have hcz59_5 : w55.cell? ⟨gb361,5,none⟩ = some (.int .i64 0):=(blk_cell BK361.out 5).trans rfl;have hfz59_0:=blk_frozen BK361.out 0;have hfz59_1:=blk_frozen BK361.out 1;have hfz59_2:=blk_frozen BK361.out 2;have hfz59_3:=blk_frozen BK361.out 3;have hfz59_4:=blk_frozen BK361.out 4;have hfz59_5:=blk_frozen BK361.out 5))
                 repeat (go_quiet (fail);go_upto_region 16 with (first|((with_reducible refine gate_dst (N:=17) rfl ?_);(try (refine gate_guard (by rfl) ?_;dsimp only));refine box_event ?hg (N:=17) ?hd (cs:=#[.int .u8 0,.string (⟨#[]⟩ : ByteArray),.int .i64 0,.int .i64 0,.int .i64 0,.int .i64 0]) (t:=35) ?hr ?_;(case hd => rfl);(case hg => rfl);(case hr => first|(go_simp;done)|(go_simp;rfl));intro gb361 hg w55 hbox hb;have n0_:=Aside0.mk (Kd.R_below (Kd.R_elderB (by (with_reducible repeat (first|apply Kd.R_alloc|apply Kd.R_drewN|apply Kd.R_drew));exact HO_6.out) gb361 (Nat.le_of_eq hg.symm)) hb);have n1_:=Aside0.mk (Kd.R_below (Kd.R_elderB (by (with_reducible repeat (first|apply Kd.R_alloc|apply Kd.R_drewN|apply Kd.R_drew));exact HO_9.out) gb361 (Nat.le_of_eq hg.symm)) hb);have n2_:=Aside0.mk (Kd.R_below (Kd.R_elderB (by (with_reducible repeat (first|apply Kd.R_alloc|apply Kd.R_drewN|apply Kd.R_drew));exact HO_12.out) gb361 (Nat.le_of_eq hg.symm)) hb);have n3_:=Aside0.mk (blk_below (g:=gb338) (o:=.cells #[.int .i64 t335,.int .i64 t336,.int .i64 t337] 26 (0,0)) (by (with_reducible repeat (first|refine blk_drewN ?_ _|refine blk_drew ?_|refine blk_alloc ?_ _));exact BK338.out) hb);have n4_:=Aside0.mk (blk_below (g:=gb346) (o:=.cells #[.int .i64 t343,.int .i64 t344,.int .i64 t345] 26 (0,0)) (by (with_reducible repeat (first|refine blk_drewN ?_ _|refine blk_drew ?_|refine blk_alloc ?_ _));exact BK346.out) hb);have n5_:=Aside0.mk (blk_below (g:=gb354) (o:=.cells #[.int .i64 t351,.int .i64 t352,.int .i64 t353] 26 (0,0)) (by (with_reducible repeat (first|refine blk_drewN ?_ _|refine blk_drew ?_|refine blk_alloc ?_ _));exact BK354.out) hb);have n6_:=Aside0.mk (below_step (by repeat (first|(with_reducible first|exact HB.out|apply below_alloc|apply pw_below_drewN|apply below_drew1|refine below_set ?_ GE338.out|refine below_set ?_ GE346.out|refine below_set ?_ GE354.out)|exact HB.out)) hb);have n7_:=Aside0.mk (hbox);have n8_:=Aside0.mk ((by rw [hg];exact (below_size (by repeat (first|(with_reducible first|exact HB.out|apply below_alloc|apply pw_below_drewN|apply below_drew1|refine below_set ?_ GE338.out|refine below_set ?_ GE346.out|refine below_set ?_ GE354.out)|exact HB.out))) : w.heap.size ≤ gb361));have n9_:=Aside0.mk ((by rw [hg];exact (below_size (by repeat (first|(with_reducible first|exact HB.out|apply below_alloc|apply pw_below_drewN|apply below_drew1|refine below_set ?_ GE338.out|refine below_set ?_ GE346.out|refine below_set ?_ GE354.out)|exact HB.out))) : w.heap.size ≤ gb361));have n10_:=Aside0.mk ((by rw [hg];exact Nat.ne_of_lt (blk_lt (g:=gb338) (o:=.cells #[.int .i64 t335,.int .i64 t336,.int .i64 t337] 26 (0,0)) (by (with_reducible repeat (first|refine blk_drewN ?_ _|refine blk_drew ?_|refine blk_alloc ?_ _));exact BK338.out)) : gb338 ≠ gb361));have n11_:=Aside0.mk ((by rw [hg];exact Nat.ne_of_gt (blk_lt (g:=gb338) (o:=.cells #[.int .i64 t335,.int .i64 t336,.int .i64 t337] 26 (0,0)) (by (with_reducible repeat (first|refine blk_drewN ?_ _|refine blk_drew ?_|refine blk_alloc ?_ _));exact BK338.out)) : gb361 ≠ gb338));have n12_:=Aside0.mk ((by rw [hg];exact Nat.ne_of_lt (blk_lt (g:=gb346) (o:=.cells #[.int .i64 t343,.int .i64 t344,.int .i64 t345] 26 (0,0)) (by (with_reducible repeat (first|refine blk_drewN ?_ _|refine blk_drew ?_|refine blk_alloc ?_ _));exact BK346.out)) : gb346 ≠ gb361));have n13_:=Aside0.mk ((by rw [hg];exact Nat.ne_of_gt (blk_lt (g:=gb346) (o:=.cells #[.int .i64 t343,.int .i64 t344,.int .i64 t345] 26 (0,0)) (by (with_reducible repeat (first|refine blk_drewN ?_ _|refine blk_drew ?_|refine blk_alloc ?_ _));exact BK346.out)) : gb361 ≠ gb346));have n14_:=Aside0.mk ((by rw [hg];exact Nat.ne_of_lt (blk_lt (g:=gb354) (o:=.cells #[.int .i64 t351,.int .i64 t352,.int .i64 t353] 26 (0,0)) (by (with_reducible repeat (first|refine blk_drewN ?_ _|refine blk_drew ?_|refine blk_alloc ?_ _));exact BK354.out)) : gb354 ≠ gb361));have n15_:=Aside0.mk ((by rw [hg];exact Nat.ne_of_gt (blk_lt (g:=gb354) (o:=.cells #[.int .i64 t351,.int .i64 t352,.int .i64 t353] 26 (0,0)) (by (with_reducible repeat (first|refine blk_drewN ?_ _|refine blk_drew ?_|refine blk_alloc ?_ _));exact BK354.out)) : gb361 ≠ gb354));clear HO_6;clear HO_9;clear HO_12;clear BK338;clear BK346;clear BK354;clear HB;have HO_6:=n0_;have HO_9:=n1_;have HO_12:=n2_;have BK338:=n3_;have BK346:=n4_;have BK354:=n5_;have HB:=n6_;have BK361:=n7_;have GW361:=n8_;have GE361:=n9_;have NB338_361:=n10_;have NB361_338:=n11_;have NB346_361:=n12_;have NB361_346:=n13_;have NB354_361:=n14_;have NB361_354:=n15_;clear n0_ n1_ n2_ n3_ n4_ n5_ n6_ n7_ n8_ n9_ n10_ n11_ n12_ n13_ n14_ n15_;clear hb hbox hg;have hnb56:=NB361_338.out;have hnc56:=NB338_361.out;have hnb57:=NB361_346.out;have hnc57:=NB346_361.out;have hnb58:=NB361_354.out;have hnc58:=NB354_361.out;have hcz59_0 : w55.cell? ⟨gb361,0,none⟩ = some (.int .u8 0):=(blk_cell BK361.out 0).trans rfl;have hcz59_1 : w55.cell? ⟨gb361,1,none⟩ = some (.string (⟨#[]⟩ : ByteArray)):=(blk_cell BK361.out 1).trans rfl;have hcz59_2 : w55.cell? ⟨gb361,2,none⟩ = some (.int .i64 0):=(blk_cell BK361.out 2).trans rfl;have hcz59_3 : w55.cell? ⟨gb361,3,none⟩ = some (.int .i64 0):=(blk_cell BK361.out 3).trans rfl;have hcz59_4 : w55.cell? ⟨gb361,4,none⟩ = some (.int .i64 0):=(blk_cell BK361.out 4).trans rfl;have hcz59_5 : w55.cell? ⟨gb361,5,none⟩ = some (.int .i64 0):=(blk_cell BK361.out 5).trans rfl;have hfz59_0:=blk_frozen BK361.out 0;have hfz59_1:=blk_frozen BK361.out 1;have hfz59_2:=blk_frozen BK361.out 2;have hfz59_3:=blk_frozen BK361.out 3;have hfz59_4:=blk_frozen BK361.out 4;have hfz59_5:=blk_frozen BK361.out 5)))
                 (try simp only [Act.put, List.setIfInBounds_toArray, List.set_cons_zero, List.set_cons_succ])
                 go_cut [161] (fun v161 wc => ∃ (kq : Nat) (x161_52 : Bool),v161 = .bool x161_52 ∧ Aside0 (colophonlaw10_ScanJoins.j3 kq a0 t331 t339 t347 t359 x16_3 x161_52 = some r) ∧ Aside0 (kq ≤ k3) ∧ Aside0 (Kd.R k35 35 wc w.heap.size (fun k_ => some k_ ≠ ((.slice Ao54 t339.length co54) : Value).ownBlock ∧ some k_ ≠ ((.slice (some ad360) t347.length co48) : Value).ownBlock ∧ k_ ≠ gb361) (.slice Ao46 t331.length co46) t331) ∧ Aside0 (Kd.R k35 35 wc w.heap.size (fun k_ => some k_ ≠ ((.slice Ao46 t331.length co46) : Value).ownBlock ∧ some k_ ≠ ((.slice (some ad360) t347.length co48) : Value).ownBlock ∧ k_ ≠ gb361) (.slice Ao54 t339.length co54) t339) ∧ Aside0 (Kd.R k35 35 wc w.heap.size (fun k_ => some k_ ≠ ((.slice Ao46 t331.length co46) : Value).ownBlock ∧ some k_ ≠ ((.slice Ao54 t339.length co54) : Value).ownBlock ∧ k_ ≠ gb361) (.slice (some ad360) t347.length co48) t347) ∧ Aside0 (wc.heap[gb338]? = some (.cells #[.int .i64 t335,.int .i64 t336,.int .i64 t337] 26 (0,0))) ∧ Aside0 (wc.heap[gb346]? = some (.cells #[.int .i64 t343,.int .i64 t344,.int .i64 t345] 26 (0,0))) ∧ Aside0 (wc.heap[gb354]? = some (.cells #[.int .i64 t351,.int .i64 t352,.int .i64 t353] 26 (0,0))) ∧ Aside0 (wc.heap[gb361]? = some (.cells #[.int .u8 ((rd_T35 t347 (ji50)).f0),.string ((rd_T35 t347 (ji50)).f1),.int .i64 ((rd_T35 t347 (ji50)).f2.f0),.int .i64 ((rd_T35 t347 (ji50)).f2.f1),.int .i64 ((rd_T35 t347 (ji50)).f2.f2),.int .i64 ((rd_T35 t347 (ji50)).f3)] 35 (0,0))) ∧ Aside0 (Below w.heap.size w wc))
                 case first =>
                  have H := HC53.out
                  clear HC53
                  by_cases c60 : 0 ≤ x16_3
                  ·rw [if_pos c60] at H
                   have c60b0 : decide (0 ≤ x16_3) = true := decide_eq_true c60
                   clear c60
                   (first|rw [c60b0]|(simp only [i64_w, i32_w]; rw [c60b0])|skip)
                   by_cases c61 : ((rd_T35 t347 (ji50)).f0) = ((rd_T35 t339 x16_3).f0)
                   ·rw [if_pos c61] at H
                    have c61b0 : (((rd_T35 t347 (ji50)).f0) == ((rd_T35 t339 x16_3).f0)) = true := beq_iff_eq.mpr c61
                    have c61b1 : (((rd_T35 t347 (ji50)).f0) != ((rd_T35 t339 x16_3).f0)) = false := bne_eq_false_iff_eq.mpr c61
                    clear c61
                    by_cases c62 : ((rd_T35 t347 (ji50)).f1).toList = ((rd_T35 t339 x16_3).f1).toList
                    ·rw [if_pos c62] at H
                     have c62b0 : (((rd_T35 t347 (ji50)).f1).toList == ((rd_T35 t339 x16_3).f1).toList) = true := beq_iff_eq.mpr c62
                     have c62b1 : (((rd_T35 t347 (ji50)).f1).toList != ((rd_T35 t339 x16_3).f1).toList) = false := bne_eq_false_iff_eq.mpr c62
                     clear c62
                     by_cases c63 : ((rd_T35 t347 (ji50)).f2.f0) = (wrap64 ((wrap64 (((rd_T35 t339 x16_3).f2.f0) + (a0.size : Int))) + 1))
                     ·rw [if_pos c63] at H
                      have c63b0 : (((rd_T35 t347 (ji50)).f2.f0) == (wrap64 ((wrap64 (((rd_T35 t339 x16_3).f2.f0) + (a0.size : Int))) + 1))) = true := beq_iff_eq.mpr c63
                      have c63b1 : (((rd_T35 t347 (ji50)).f2.f0) != (wrap64 ((wrap64 (((rd_T35 t339 x16_3).f2.f0) + (a0.size : Int))) + 1))) = false := bne_eq_false_iff_eq.mpr c63
                      clear c63
                      by_cases c64 : ((rd_T35 t347 (ji50)).f2.f2) = ((rd_T35 t339 x16_3).f2.f2)
                      ·rw [if_pos c64] at H
                       have c64b0 : (((rd_T35 t347 (ji50)).f2.f2) == ((rd_T35 t339 x16_3).f2.f2)) = true := beq_iff_eq.mpr c64
                       have c64b1 : (((rd_T35 t347 (ji50)).f2.f2) != ((rd_T35 t339 x16_3).f2.f2)) = false := bne_eq_false_iff_eq.mpr c64
                       clear c64
                       by_cases c65 : x16_3 > 0
                       ·rw [if_pos c65] at H
                        have c65b0 : decide (0 < x16_3) = true := decide_eq_true c65
                        clear c65
                        have H' := Aside0.mk H
                        clear H
                        have hnb66 := NB361_338.out
                        have hnc66 := NB338_361.out
                        have hnb67 := NB361_346.out
                        have hnc67 := NB346_361.out
                        have hnb68 := NB361_354.out
                        have hnc68 := NB354_361.out
                        have hcz69_0 : w55.cell? ⟨gb361, 0, none⟩ = some (.int .u8 0) := (blk_cell BK361.out 0).trans rfl
                        have hcz69_1 : w55.cell? ⟨gb361, 1, none⟩ = some (.string (⟨#[]⟩ : ByteArray)) := (blk_cell BK361.out 1).trans rfl
                        have hcz69_2 : w55.cell? ⟨gb361, 2, none⟩ = some (.int .i64 0) := (blk_cell BK361.out 2).trans rfl
                        have hcz69_3 : w55.cell? ⟨gb361, 3, none⟩ = some (.int .i64 0) := (blk_cell BK361.out 3).trans rfl
                        have hcz69_4 : w55.cell? ⟨gb361, 4, none⟩ = some (.int .i64 0) := (blk_cell BK361.out 4).trans rfl
                        have hcz69_5 : w55.cell? ⟨gb361, 5, none⟩ = some (.int .i64 0) := (blk_cell BK361.out 5).trans rfl
                        have hfz69_0 := blk_frozen BK361.out 0
                        have hfz69_1 := blk_frozen BK361.out 1
                        have hfz69_2 := blk_frozen BK361.out 2
                        have hfz69_3 := blk_frozen BK361.out 3
                        have hfz69_4 := blk_frozen BK361.out 4
                        have hfz69_5 := blk_frozen BK361.out 5
                        have p362 : 0 ≤ (x16_3 : Int) := of_decide_eq_true (by first|(with_reducible assumption)|assumption)
                        have q362 : x16_3 < (t339.length : Int) := of_decide_eq_true (by first|(with_reducible assumption)|assumption)
                        obtain ⟨ad362, e362, hx362_0, hx362_1, hx362_2, hx362_3, hx362_4, hx362_5⟩ := at_T35 (Kd.R_reads' HO_9.out).2.2 x16_3 p362 q362
                        cases e362
                        have hn362_0 : ad362.block ≠ gb361 := Kd.own_blk (Kd.R_away HO_9.out (fun _ hk => hk.2))
                        have hn362_1 : ad362.block ≠ gb361 := Kd.own_blk (Kd.R_away HO_9.out (fun _ hk => hk.2))
                        have hn362_2 : ad362.block ≠ gb361 := Kd.own_blk (Kd.R_away HO_9.out (fun _ hk => hk.2))
                        have hn362_3 : ad362.block ≠ gb361 := Kd.own_blk (Kd.R_away HO_9.out (fun _ hk => hk.2))
                        have hn362_4 : ad362.block ≠ gb361 := Kd.own_blk (Kd.R_away HO_9.out (fun _ hk => hk.2))
                        have hn362_5 : ad362.block ≠ gb361 := Kd.own_blk (Kd.R_away HO_9.out (fun _ hk => hk.2))
                        replace hx362_0 := (cell_far (p := ⟨gb361, 0, none⟩) (by first|(rw [add_block]; exact hn362_0)|(show (Addr.add _ _).block ≠ _; rw [add_block]; exact hn362_0)|exact hn362_0) (.int .u8 ((rd_T35 t347 (ji50)).f0))).trans hx362_0
                        replace hx362_1 := (cell_far (p := ⟨gb361, 0, none⟩) (by first|(rw [add_block]; exact hn362_0)|(show (Addr.add _ _).block ≠ _; rw [add_block]; exact hn362_0)|exact hn362_0) (.int .u8 ((rd_T35 t347 (ji50)).f0))).trans hx362_1
                        replace hx362_2 := (cell_far (p := ⟨gb361, 0, none⟩) (by first|(rw [add_block]; exact hn362_0)|(show (Addr.add _ _).block ≠ _; rw [add_block]; exact hn362_0)|exact hn362_0) (.int .u8 ((rd_T35 t347 (ji50)).f0))).trans hx362_2
                        replace hx362_3 := (cell_far (p := ⟨gb361, 0, none⟩) (by first|(rw [add_block]; exact hn362_0)|(show (Addr.add _ _).block ≠ _; rw [add_block]; exact hn362_0)|exact hn362_0) (.int .u8 ((rd_T35 t347 (ji50)).f0))).trans hx362_3
                        replace hx362_4 := (cell_far (p := ⟨gb361, 0, none⟩) (by first|(rw [add_block]; exact hn362_0)|(show (Addr.add _ _).block ≠ _; rw [add_block]; exact hn362_0)|exact hn362_0) (.int .u8 ((rd_T35 t347 (ji50)).f0))).trans hx362_4
                        replace hx362_5 := (cell_far (p := ⟨gb361, 0, none⟩) (by first|(rw [add_block]; exact hn362_0)|(show (Addr.add _ _).block ≠ _; rw [add_block]; exact hn362_0)|exact hn362_0) (.int .u8 ((rd_T35 t347 (ji50)).f0))).trans hx362_5
                        replace hx362_0 := (cell_far (p := ⟨gb361, 1, none⟩) (by first|(rw [add_block]; exact hn362_1)|(show (Addr.add _ _).block ≠ _; rw [add_block]; exact hn362_1)|exact hn362_1) (.string ((rd_T35 t347 (ji50)).f1))).trans hx362_0
                        replace hx362_1 := (cell_far (p := ⟨gb361, 1, none⟩) (by first|(rw [add_block]; exact hn362_1)|(show (Addr.add _ _).block ≠ _; rw [add_block]; exact hn362_1)|exact hn362_1) (.string ((rd_T35 t347 (ji50)).f1))).trans hx362_1
                        replace hx362_2 := (cell_far (p := ⟨gb361, 1, none⟩) (by first|(rw [add_block]; exact hn362_1)|(show (Addr.add _ _).block ≠ _; rw [add_block]; exact hn362_1)|exact hn362_1) (.string ((rd_T35 t347 (ji50)).f1))).trans hx362_2
                        replace hx362_3 := (cell_far (p := ⟨gb361, 1, none⟩) (by first|(rw [add_block]; exact hn362_1)|(show (Addr.add _ _).block ≠ _; rw [add_block]; exact hn362_1)|exact hn362_1) (.string ((rd_T35 t347 (ji50)).f1))).trans hx362_3
                        replace hx362_4 := (cell_far (p := ⟨gb361, 1, none⟩) (by first|(rw [add_block]; exact hn362_1)|(show (Addr.add _ _).block ≠ _; rw [add_block]; exact hn362_1)|exact hn362_1) (.string ((rd_T35 t347 (ji50)).f1))).trans hx362_4
                        replace hx362_5 := (cell_far (p := ⟨gb361, 1, none⟩) (by first|(rw [add_block]; exact hn362_1)|(show (Addr.add _ _).block ≠ _; rw [add_block]; exact hn362_1)|exact hn362_1) (.string ((rd_T35 t347 (ji50)).f1))).trans hx362_5
                        replace hx362_0 := (cell_far (p := ⟨gb361, 2, none⟩) (by first|(rw [add_block]; exact hn362_2)|(show (Addr.add _ _).block ≠ _; rw [add_block]; exact hn362_2)|exact hn362_2) (.int .i64 ((rd_T35 t347 (ji50)).f2.f0))).trans hx362_0
                        replace hx362_1 := (cell_far (p := ⟨gb361, 2, none⟩) (by first|(rw [add_block]; exact hn362_2)|(show (Addr.add _ _).block ≠ _; rw [add_block]; exact hn362_2)|exact hn362_2) (.int .i64 ((rd_T35 t347 (ji50)).f2.f0))).trans hx362_1
                        replace hx362_2 := (cell_far (p := ⟨gb361, 2, none⟩) (by first|(rw [add_block]; exact hn362_2)|(show (Addr.add _ _).block ≠ _; rw [add_block]; exact hn362_2)|exact hn362_2) (.int .i64 ((rd_T35 t347 (ji50)).f2.f0))).trans hx362_2
                        replace hx362_3 := (cell_far (p := ⟨gb361, 2, none⟩) (by first|(rw [add_block]; exact hn362_2)|(show (Addr.add _ _).block ≠ _; rw [add_block]; exact hn362_2)|exact hn362_2) (.int .i64 ((rd_T35 t347 (ji50)).f2.f0))).trans hx362_3
                        replace hx362_4 := (cell_far (p := ⟨gb361, 2, none⟩) (by first|(rw [add_block]; exact hn362_2)|(show (Addr.add _ _).block ≠ _; rw [add_block]; exact hn362_2)|exact hn362_2) (.int .i64 ((rd_T35 t347 (ji50)).f2.f0))).trans hx362_4
                        replace hx362_5 := (cell_far (p := ⟨gb361, 2, none⟩) (by first|(rw [add_block]; exact hn362_2)|(show (Addr.add _ _).block ≠ _; rw [add_block]; exact hn362_2)|exact hn362_2) (.int .i64 ((rd_T35 t347 (ji50)).f2.f0))).trans hx362_5
                        replace hx362_0 := (cell_far (p := ⟨gb361, 3, none⟩) (by first|(rw [add_block]; exact hn362_3)|(show (Addr.add _ _).block ≠ _; rw [add_block]; exact hn362_3)|exact hn362_3) (.int .i64 ((rd_T35 t347 (ji50)).f2.f1))).trans hx362_0
                        replace hx362_1 := (cell_far (p := ⟨gb361, 3, none⟩) (by first|(rw [add_block]; exact hn362_3)|(show (Addr.add _ _).block ≠ _; rw [add_block]; exact hn362_3)|exact hn362_3) (.int .i64 ((rd_T35 t347 (ji50)).f2.f1))).trans hx362_1
                        replace hx362_2 := (cell_far (p := ⟨gb361, 3, none⟩) (by first|(rw [add_block]; exact hn362_3)|(show (Addr.add _ _).block ≠ _; rw [add_block]; exact hn362_3)|exact hn362_3) (.int .i64 ((rd_T35 t347 (ji50)).f2.f1))).trans hx362_2
                        replace hx362_3 := (cell_far (p := ⟨gb361, 3, none⟩) (by first|(rw [add_block]; exact hn362_3)|(show (Addr.add _ _).block ≠ _; rw [add_block]; exact hn362_3)|exact hn362_3) (.int .i64 ((rd_T35 t347 (ji50)).f2.f1))).trans hx362_3
                        replace hx362_4 := (cell_far (p := ⟨gb361, 3, none⟩) (by first|(rw [add_block]; exact hn362_3)|(show (Addr.add _ _).block ≠ _; rw [add_block]; exact hn362_3)|exact hn362_3) (.int .i64 ((rd_T35 t347 (ji50)).f2.f1))).trans hx362_4
                        replace hx362_5 := (cell_far (p := ⟨gb361, 3, none⟩) (by first|(rw [add_block]; exact hn362_3)|(show (Addr.add _ _).block ≠ _; rw [add_block]; exact hn362_3)|exact hn362_3) (.int .i64 ((rd_T35 t347 (ji50)).f2.f1))).trans hx362_5
                        replace hx362_0 := (cell_far (p := ⟨gb361, 4, none⟩) (by first|(rw [add_block]; exact hn362_4)|(show (Addr.add _ _).block ≠ _; rw [add_block]; exact hn362_4)|exact hn362_4) (.int .i64 ((rd_T35 t347 (ji50)).f2.f2))).trans hx362_0
                        replace hx362_1 := (cell_far (p := ⟨gb361, 4, none⟩) (by first|(rw [add_block]; exact hn362_4)|(show (Addr.add _ _).block ≠ _; rw [add_block]; exact hn362_4)|exact hn362_4) (.int .i64 ((rd_T35 t347 (ji50)).f2.f2))).trans hx362_1
                        replace hx362_2 := (cell_far (p := ⟨gb361, 4, none⟩) (by first|(rw [add_block]; exact hn362_4)|(show (Addr.add _ _).block ≠ _; rw [add_block]; exact hn362_4)|exact hn362_4) (.int .i64 ((rd_T35 t347 (ji50)).f2.f2))).trans hx362_2
                        replace hx362_3 := (cell_far (p := ⟨gb361, 4, none⟩) (by first|(rw [add_block]; exact hn362_4)|(show (Addr.add _ _).block ≠ _; rw [add_block]; exact hn362_4)|exact hn362_4) (.int .i64 ((rd_T35 t347 (ji50)).f2.f2))).trans hx362_3
                        replace hx362_4 := (cell_far (p := ⟨gb361, 4, none⟩) (by first|(rw [add_block]; exact hn362_4)|(show (Addr.add _ _).block ≠ _; rw [add_block]; exact hn362_4)|exact hn362_4) (.int .i64 ((rd_T35 t347 (ji50)).f2.f2))).trans hx362_4
                        replace hx362_5 := (cell_far (p := ⟨gb361, 4, none⟩) (by first|(rw [add_block]; exact hn362_4)|(show (Addr.add _ _).block ≠ _; rw [add_block]; exact hn362_4)|exact hn362_4) (.int .i64 ((rd_T35 t347 (ji50)).f2.f2))).trans hx362_5
                        replace hx362_0 := (cell_far (p := ⟨gb361, 5, none⟩) (by first|(rw [add_block]; exact hn362_5)|(show (Addr.add _ _).block ≠ _; rw [add_block]; exact hn362_5)|exact hn362_5) (.int .i64 ((rd_T35 t347 (ji50)).f3))).trans hx362_0
                        replace hx362_1 := (cell_far (p := ⟨gb361, 5, none⟩) (by first|(rw [add_block]; exact hn362_5)|(show (Addr.add _ _).block ≠ _; rw [add_block]; exact hn362_5)|exact hn362_5) (.int .i64 ((rd_T35 t347 (ji50)).f3))).trans hx362_1
                        replace hx362_2 := (cell_far (p := ⟨gb361, 5, none⟩) (by first|(rw [add_block]; exact hn362_5)|(show (Addr.add _ _).block ≠ _; rw [add_block]; exact hn362_5)|exact hn362_5) (.int .i64 ((rd_T35 t347 (ji50)).f3))).trans hx362_2
                        replace hx362_3 := (cell_far (p := ⟨gb361, 5, none⟩) (by first|(rw [add_block]; exact hn362_5)|(show (Addr.add _ _).block ≠ _; rw [add_block]; exact hn362_5)|exact hn362_5) (.int .i64 ((rd_T35 t347 (ji50)).f3))).trans hx362_3
                        replace hx362_4 := (cell_far (p := ⟨gb361, 5, none⟩) (by first|(rw [add_block]; exact hn362_5)|(show (Addr.add _ _).block ≠ _; rw [add_block]; exact hn362_5)|exact hn362_5) (.int .i64 ((rd_T35 t347 (ji50)).f3))).trans hx362_4
                        replace hx362_5 := (cell_far (p := ⟨gb361, 5, none⟩) (by first|(rw [add_block]; exact hn362_5)|(show (Addr.add _ _).block ≠ _; rw [add_block]; exact hn362_5)|exact hn362_5) (.int .i64 ((rd_T35 t347 (ji50)).f3))).trans hx362_5
                        clear hn362_0
                        clear hn362_1
                        clear hn362_2
                        clear hn362_3
                        clear hn362_4
                        clear hn362_5
                        replace p362 := eq_true p362
                        replace q362 := eq_true q362
                        have p363 : 0 ≤ (x16_3 : Int) := of_decide_eq_true (by first|(with_reducible assumption)|assumption)
                        have q363 : x16_3 < (t339.length : Int) := of_decide_eq_true (by first|(with_reducible assumption)|assumption)
                        obtain ⟨ad363, e363, hx363_0, hx363_1, hx363_2, hx363_3, hx363_4, hx363_5⟩ := at_T35 (Kd.R_reads' HO_9.out).2.2 x16_3 p363 q363
                        obtain rfl : ad362 = ad363 := (by injection e363)
                        have hn363_0 : ad362.block ≠ gb361 := Kd.own_blk (Kd.R_away HO_9.out (fun _ hk => hk.2))
                        have hn363_1 : ad362.block ≠ gb361 := Kd.own_blk (Kd.R_away HO_9.out (fun _ hk => hk.2))
                        have hn363_2 : ad362.block ≠ gb361 := Kd.own_blk (Kd.R_away HO_9.out (fun _ hk => hk.2))
                        have hn363_3 : ad362.block ≠ gb361 := Kd.own_blk (Kd.R_away HO_9.out (fun _ hk => hk.2))
                        have hn363_4 : ad362.block ≠ gb361 := Kd.own_blk (Kd.R_away HO_9.out (fun _ hk => hk.2))
                        have hn363_5 : ad362.block ≠ gb361 := Kd.own_blk (Kd.R_away HO_9.out (fun _ hk => hk.2))
                        replace hx363_0 := (cell_far (p := ⟨gb361, 0, none⟩) (by first|(rw [add_block]; exact hn363_0)|(show (Addr.add _ _).block ≠ _; rw [add_block]; exact hn363_0)|exact hn363_0) (.int .u8 ((rd_T35 t347 (ji50)).f0))).trans hx363_0
                        replace hx363_1 := (cell_far (p := ⟨gb361, 0, none⟩) (by first|(rw [add_block]; exact hn363_0)|(show (Addr.add _ _).block ≠ _; rw [add_block]; exact hn363_0)|exact hn363_0) (.int .u8 ((rd_T35 t347 (ji50)).f0))).trans hx363_1
                        replace hx363_2 := (cell_far (p := ⟨gb361, 0, none⟩) (by first|(rw [add_block]; exact hn363_0)|(show (Addr.add _ _).block ≠ _; rw [add_block]; exact hn363_0)|exact hn363_0) (.int .u8 ((rd_T35 t347 (ji50)).f0))).trans hx363_2
                        replace hx363_3 := (cell_far (p := ⟨gb361, 0, none⟩) (by first|(rw [add_block]; exact hn363_0)|(show (Addr.add _ _).block ≠ _; rw [add_block]; exact hn363_0)|exact hn363_0) (.int .u8 ((rd_T35 t347 (ji50)).f0))).trans hx363_3
                        replace hx363_4 := (cell_far (p := ⟨gb361, 0, none⟩) (by first|(rw [add_block]; exact hn363_0)|(show (Addr.add _ _).block ≠ _; rw [add_block]; exact hn363_0)|exact hn363_0) (.int .u8 ((rd_T35 t347 (ji50)).f0))).trans hx363_4
                        replace hx363_5 := (cell_far (p := ⟨gb361, 0, none⟩) (by first|(rw [add_block]; exact hn363_0)|(show (Addr.add _ _).block ≠ _; rw [add_block]; exact hn363_0)|exact hn363_0) (.int .u8 ((rd_T35 t347 (ji50)).f0))).trans hx363_5
                        replace hx363_0 := (cell_far (p := ⟨gb361, 1, none⟩) (by first|(rw [add_block]; exact hn363_1)|(show (Addr.add _ _).block ≠ _; rw [add_block]; exact hn363_1)|exact hn363_1) (.string ((rd_T35 t347 (ji50)).f1))).trans hx363_0
                        replace hx363_1 := (cell_far (p := ⟨gb361, 1, none⟩) (by first|(rw [add_block]; exact hn363_1)|(show (Addr.add _ _).block ≠ _; rw [add_block]; exact hn363_1)|exact hn363_1) (.string ((rd_T35 t347 (ji50)).f1))).trans hx363_1
                        replace hx363_2 := (cell_far (p := ⟨gb361, 1, none⟩) (by first|(rw [add_block]; exact hn363_1)|(show (Addr.add _ _).block ≠ _; rw [add_block]; exact hn363_1)|exact hn363_1) (.string ((rd_T35 t347 (ji50)).f1))).trans hx363_2
                        replace hx363_3 := (cell_far (p := ⟨gb361, 1, none⟩) (by first|(rw [add_block]; exact hn363_1)|(show (Addr.add _ _).block ≠ _; rw [add_block]; exact hn363_1)|exact hn363_1) (.string ((rd_T35 t347 (ji50)).f1))).trans hx363_3
                        replace hx363_4 := (cell_far (p := ⟨gb361, 1, none⟩) (by first|(rw [add_block]; exact hn363_1)|(show (Addr.add _ _).block ≠ _; rw [add_block]; exact hn363_1)|exact hn363_1) (.string ((rd_T35 t347 (ji50)).f1))).trans hx363_4
                        replace hx363_5 := (cell_far (p := ⟨gb361, 1, none⟩) (by first|(rw [add_block]; exact hn363_1)|(show (Addr.add _ _).block ≠ _; rw [add_block]; exact hn363_1)|exact hn363_1) (.string ((rd_T35 t347 (ji50)).f1))).trans hx363_5
                        replace hx363_0 := (cell_far (p := ⟨gb361, 2, none⟩) (by first|(rw [add_block]; exact hn363_2)|(show (Addr.add _ _).block ≠ _; rw [add_block]; exact hn363_2)|exact hn363_2) (.int .i64 ((rd_T35 t347 (ji50)).f2.f0))).trans hx363_0
                        replace hx363_1 := (cell_far (p := ⟨gb361, 2, none⟩) (by first|(rw [add_block]; exact hn363_2)|(show (Addr.add _ _).block ≠ _; rw [add_block]; exact hn363_2)|exact hn363_2) (.int .i64 ((rd_T35 t347 (ji50)).f2.f0))).trans hx363_1
                        replace hx363_2 := (cell_far (p := ⟨gb361, 2, none⟩) (by first|(rw [add_block]; exact hn363_2)|(show (Addr.add _ _).block ≠ _; rw [add_block]; exact hn363_2)|exact hn363_2) (.int .i64 ((rd_T35 t347 (ji50)).f2.f0))).trans hx363_2
                        replace hx363_3 := (cell_far (p := ⟨gb361, 2, none⟩) (by first|(rw [add_block]; exact hn363_2)|(show (Addr.add _ _).block ≠ _; rw [add_block]; exact hn363_2)|exact hn363_2) (.int .i64 ((rd_T35 t347 (ji50)).f2.f0))).trans hx363_3
                        replace hx363_4 := (cell_far (p := ⟨gb361, 2, none⟩) (by first|(rw [add_block]; exact hn363_2)|(show (Addr.add _ _).block ≠ _; rw [add_block]; exact hn363_2)|exact hn363_2) (.int .i64 ((rd_T35 t347 (ji50)).f2.f0))).trans hx363_4
                        replace hx363_5 := (cell_far (p := ⟨gb361, 2, none⟩) (by first|(rw [add_block]; exact hn363_2)|(show (Addr.add _ _).block ≠ _; rw [add_block]; exact hn363_2)|exact hn363_2) (.int .i64 ((rd_T35 t347 (ji50)).f2.f0))).trans hx363_5
                        replace hx363_0 := (cell_far (p := ⟨gb361, 3, none⟩) (by first|(rw [add_block]; exact hn363_3)|(show (Addr.add _ _).block ≠ _; rw [add_block]; exact hn363_3)|exact hn363_3) (.int .i64 ((rd_T35 t347 (ji50)).f2.f1))).trans hx363_0
                        replace hx363_1 := (cell_far (p := ⟨gb361, 3, none⟩) (by first|(rw [add_block]; exact hn363_3)|(show (Addr.add _ _).block ≠ _; rw [add_block]; exact hn363_3)|exact hn363_3) (.int .i64 ((rd_T35 t347 (ji50)).f2.f1))).trans hx363_1
                        replace hx363_2 := (cell_far (p := ⟨gb361, 3, none⟩) (by first|(rw [add_block]; exact hn363_3)|(show (Addr.add _ _).block ≠ _; rw [add_block]; exact hn363_3)|exact hn363_3) (.int .i64 ((rd_T35 t347 (ji50)).f2.f1))).trans hx363_2
                        replace hx363_3 := (cell_far (p := ⟨gb361, 3, none⟩) (by first|(rw [add_block]; exact hn363_3)|(show (Addr.add _ _).block ≠ _; rw [add_block]; exact hn363_3)|exact hn363_3) (.int .i64 ((rd_T35 t347 (ji50)).f2.f1))).trans hx363_3
                        replace hx363_4 := (cell_far (p := ⟨gb361, 3, none⟩) (by first|(rw [add_block]; exact hn363_3)|(show (Addr.add _ _).block ≠ _; rw [add_block]; exact hn363_3)|exact hn363_3) (.int .i64 ((rd_T35 t347 (ji50)).f2.f1))).trans hx363_4
                        replace hx363_5 := (cell_far (p := ⟨gb361, 3, none⟩) (by first|(rw [add_block]; exact hn363_3)|(show (Addr.add _ _).block ≠ _; rw [add_block]; exact hn363_3)|exact hn363_3) (.int .i64 ((rd_T35 t347 (ji50)).f2.f1))).trans hx363_5
                        replace hx363_0 := (cell_far (p := ⟨gb361, 4, none⟩) (by first|(rw [add_block]; exact hn363_4)|(show (Addr.add _ _).block ≠ _; rw [add_block]; exact hn363_4)|exact hn363_4) (.int .i64 ((rd_T35 t347 (ji50)).f2.f2))).trans hx363_0
                        replace hx363_1 := (cell_far (p := ⟨gb361, 4, none⟩) (by first|(rw [add_block]; exact hn363_4)|(show (Addr.add _ _).block ≠ _; rw [add_block]; exact hn363_4)|exact hn363_4) (.int .i64 ((rd_T35 t347 (ji50)).f2.f2))).trans hx363_1
                        replace hx363_2 := (cell_far (p := ⟨gb361, 4, none⟩) (by first|(rw [add_block]; exact hn363_4)|(show (Addr.add _ _).block ≠ _; rw [add_block]; exact hn363_4)|exact hn363_4) (.int .i64 ((rd_T35 t347 (ji50)).f2.f2))).trans hx363_2
                        replace hx363_3 := (cell_far (p := ⟨gb361, 4, none⟩) (by first|(rw [add_block]; exact hn363_4)|(show (Addr.add _ _).block ≠ _; rw [add_block]; exact hn363_4)|exact hn363_4) (.int .i64 ((rd_T35 t347 (ji50)).f2.f2))).trans hx363_3
                        replace hx363_4 := (cell_far (p := ⟨gb361, 4, none⟩) (by first|(rw [add_block]; exact hn363_4)|(show (Addr.add _ _).block ≠ _; rw [add_block]; exact hn363_4)|exact hn363_4) (.int .i64 ((rd_T35 t347 (ji50)).f2.f2))).trans hx363_4
                        replace hx363_5 := (cell_far (p := ⟨gb361, 4, none⟩) (by first|(rw [add_block]; exact hn363_4)|(show (Addr.add _ _).block ≠ _; rw [add_block]; exact hn363_4)|exact hn363_4) (.int .i64 ((rd_T35 t347 (ji50)).f2.f2))).trans hx363_5
                        replace hx363_0 := (cell_far (p := ⟨gb361, 5, none⟩) (by first|(rw [add_block]; exact hn363_5)|(show (Addr.add _ _).block ≠ _; rw [add_block]; exact hn363_5)|exact hn363_5) (.int .i64 ((rd_T35 t347 (ji50)).f3))).trans hx363_0
                        replace hx363_1 := (cell_far (p := ⟨gb361, 5, none⟩) (by first|(rw [add_block]; exact hn363_5)|(show (Addr.add _ _).block ≠ _; rw [add_block]; exact hn363_5)|exact hn363_5) (.int .i64 ((rd_T35 t347 (ji50)).f3))).trans hx363_1
                        replace hx363_2 := (cell_far (p := ⟨gb361, 5, none⟩) (by first|(rw [add_block]; exact hn363_5)|(show (Addr.add _ _).block ≠ _; rw [add_block]; exact hn363_5)|exact hn363_5) (.int .i64 ((rd_T35 t347 (ji50)).f3))).trans hx363_2
                        replace hx363_3 := (cell_far (p := ⟨gb361, 5, none⟩) (by first|(rw [add_block]; exact hn363_5)|(show (Addr.add _ _).block ≠ _; rw [add_block]; exact hn363_5)|exact hn363_5) (.int .i64 ((rd_T35 t347 (ji50)).f3))).trans hx363_3
                        replace hx363_4 := (cell_far (p := ⟨gb361, 5, none⟩) (by first|(rw [add_block]; exact hn363_5)|(show (Addr.add _ _).block ≠ _; rw [add_block]; exact hn363_5)|exact hn363_5) (.int .i64 ((rd_T35 t347 (ji50)).f3))).trans hx363_4
                        replace hx363_5 := (cell_far (p := ⟨gb361, 5, none⟩) (by first|(rw [add_block]; exact hn363_5)|(show (Addr.add _ _).block ≠ _; rw [add_block]; exact hn363_5)|exact hn363_5) (.int .i64 ((rd_T35 t347 (ji50)).f3))).trans hx363_5
                        clear hn363_0
                        clear hn363_1
                        clear hn363_2
                        clear hn363_3
                        clear hn363_4
                        clear hn363_5
                        replace p363 := eq_true p363
                        replace q363 := eq_true q363
                        have p364 : 0 ≤ (x16_3 : Int) := of_decide_eq_true (by first|(with_reducible assumption)|assumption)
                        have q364 : x16_3 < (t339.length : Int) := of_decide_eq_true (by first|(with_reducible assumption)|assumption)
                        obtain ⟨ad364, e364, hx364_0, hx364_1, hx364_2, hx364_3, hx364_4, hx364_5⟩ := at_T35 (Kd.R_reads' HO_9.out).2.2 x16_3 p364 q364
                        obtain rfl : ad362 = ad364 := (by injection e364)
                        have hn364_0 : ad362.block ≠ gb361 := Kd.own_blk (Kd.R_away HO_9.out (fun _ hk => hk.2))
                        have hn364_1 : ad362.block ≠ gb361 := Kd.own_blk (Kd.R_away HO_9.out (fun _ hk => hk.2))
                        have hn364_2 : ad362.block ≠ gb361 := Kd.own_blk (Kd.R_away HO_9.out (fun _ hk => hk.2))
                        have hn364_3 : ad362.block ≠ gb361 := Kd.own_blk (Kd.R_away HO_9.out (fun _ hk => hk.2))
                        have hn364_4 : ad362.block ≠ gb361 := Kd.own_blk (Kd.R_away HO_9.out (fun _ hk => hk.2))
                        have hn364_5 : ad362.block ≠ gb361 := Kd.own_blk (Kd.R_away HO_9.out (fun _ hk => hk.2))
                        replace hx364_0 := (cell_far (p := ⟨gb361, 0, none⟩) (by first|(rw [add_block]; exact hn364_0)|(show (Addr.add _ _).block ≠ _; rw [add_block]; exact hn364_0)|exact hn364_0) (.int .u8 ((rd_T35 t347 (ji50)).f0))).trans hx364_0
                        replace hx364_1 := (cell_far (p := ⟨gb361, 0, none⟩) (by first|(rw [add_block]; exact hn364_0)|(show (Addr.add _ _).block ≠ _; rw [add_block]; exact hn364_0)|exact hn364_0) (.int .u8 ((rd_T35 t347 (ji50)).f0))).trans hx364_1
                        replace hx364_2 := (cell_far (p := ⟨gb361, 0, none⟩) (by first|(rw [add_block]; exact hn364_0)|(show (Addr.add _ _).block ≠ _; rw [add_block]; exact hn364_0)|exact hn364_0) (.int .u8 ((rd_T35 t347 (ji50)).f0))).trans hx364_2
                        replace hx364_3 := (cell_far (p := ⟨gb361, 0, none⟩) (by first|(rw [add_block]; exact hn364_0)|(show (Addr.add _ _).block ≠ _; rw [add_block]; exact hn364_0)|exact hn364_0) (.int .u8 ((rd_T35 t347 (ji50)).f0))).trans hx364_3
                        replace hx364_4 := (cell_far (p := ⟨gb361, 0, none⟩) (by first|(rw [add_block]; exact hn364_0)|(show (Addr.add _ _).block ≠ _; rw [add_block]; exact hn364_0)|exact hn364_0) (.int .u8 ((rd_T35 t347 (ji50)).f0))).trans hx364_4
                        replace hx364_5 := (cell_far (p := ⟨gb361, 0, none⟩) (by first|(rw [add_block]; exact hn364_0)|(show (Addr.add _ _).block ≠ _; rw [add_block]; exact hn364_0)|exact hn364_0) (.int .u8 ((rd_T35 t347 (ji50)).f0))).trans hx364_5
                        replace hx364_0 := (cell_far (p := ⟨gb361, 1, none⟩) (by first|(rw [add_block]; exact hn364_1)|(show (Addr.add _ _).block ≠ _; rw [add_block]; exact hn364_1)|exact hn364_1) (.string ((rd_T35 t347 (ji50)).f1))).trans hx364_0
                        replace hx364_1 := (cell_far (p := ⟨gb361, 1, none⟩) (by first|(rw [add_block]; exact hn364_1)|(show (Addr.add _ _).block ≠ _; rw [add_block]; exact hn364_1)|exact hn364_1) (.string ((rd_T35 t347 (ji50)).f1))).trans hx364_1
                        replace hx364_2 := (cell_far (p := ⟨gb361, 1, none⟩) (by first|(rw [add_block]; exact hn364_1)|(show (Addr.add _ _).block ≠ _; rw [add_block]; exact hn364_1)|exact hn364_1) (.string ((rd_T35 t347 (ji50)).f1))).trans hx364_2
                        replace hx364_3 := (cell_far (p := ⟨gb361, 1, none⟩) (by first|(rw [add_block]; exact hn364_1)|(show (Addr.add _ _).block ≠ _; rw [add_block]; exact hn364_1)|exact hn364_1) (.string ((rd_T35 t347 (ji50)).f1))).trans hx364_3
                        replace hx364_4 := (cell_far (p := ⟨gb361, 1, none⟩) (by first|(rw [add_block]; exact hn364_1)|(show (Addr.add _ _).block ≠ _; rw [add_block]; exact hn364_1)|exact hn364_1) (.string ((rd_T35 t347 (ji50)).f1))).trans hx364_4
                        replace hx364_5 := (cell_far (p := ⟨gb361, 1, none⟩) (by first|(rw [add_block]; exact hn364_1)|(show (Addr.add _ _).block ≠ _; rw [add_block]; exact hn364_1)|exact hn364_1) (.string ((rd_T35 t347 (ji50)).f1))).trans hx364_5
                        replace hx364_0 := (cell_far (p := ⟨gb361, 2, none⟩) (by first|(rw [add_block]; exact hn364_2)|(show (Addr.add _ _).block ≠ _; rw [add_block]; exact hn364_2)|exact hn364_2) (.int .i64 ((rd_T35 t347 (ji50)).f2.f0))).trans hx364_0
                        replace hx364_1 := (cell_far (p := ⟨gb361, 2, none⟩) (by first|(rw [add_block]; exact hn364_2)|(show (Addr.add _ _).block ≠ _; rw [add_block]; exact hn364_2)|exact hn364_2) (.int .i64 ((rd_T35 t347 (ji50)).f2.f0))).trans hx364_1
                        replace hx364_2 := (cell_far (p := ⟨gb361, 2, none⟩) (by first|(rw [add_block]; exact hn364_2)|(show (Addr.add _ _).block ≠ _; rw [add_block]; exact hn364_2)|exact hn364_2) (.int .i64 ((rd_T35 t347 (ji50)).f2.f0))).trans hx364_2
                        replace hx364_3 := (cell_far (p := ⟨gb361, 2, none⟩) (by first|(rw [add_block]; exact hn364_2)|(show (Addr.add _ _).block ≠ _; rw [add_block]; exact hn364_2)|exact hn364_2) (.int .i64 ((rd_T35 t347 (ji50)).f2.f0))).trans hx364_3
                        replace hx364_4 := (cell_far (p := ⟨gb361, 2, none⟩) (by first|(rw [add_block]; exact hn364_2)|(show (Addr.add _ _).block ≠ _; rw [add_block]; exact hn364_2)|exact hn364_2) (.int .i64 ((rd_T35 t347 (ji50)).f2.f0))).trans hx364_4
                        replace hx364_5 := (cell_far (p := ⟨gb361, 2, none⟩) (by first|(rw [add_block]; exact hn364_2)|(show (Addr.add _ _).block ≠ _; rw [add_block]; exact hn364_2)|exact hn364_2) (.int .i64 ((rd_T35 t347 (ji50)).f2.f0))).trans hx364_5
                        replace hx364_0 := (cell_far (p := ⟨gb361, 3, none⟩) (by first|(rw [add_block]; exact hn364_3)|(show (Addr.add _ _).block ≠ _; rw [add_block]; exact hn364_3)|exact hn364_3) (.int .i64 ((rd_T35 t347 (ji50)).f2.f1))).trans hx364_0
                        replace hx364_1 := (cell_far (p := ⟨gb361, 3, none⟩) (by first|(rw [add_block]; exact hn364_3)|(show (Addr.add _ _).block ≠ _; rw [add_block]; exact hn364_3)|exact hn364_3) (.int .i64 ((rd_T35 t347 (ji50)).f2.f1))).trans hx364_1
                        replace hx364_2 := (cell_far (p := ⟨gb361, 3, none⟩) (by first|(rw [add_block]; exact hn364_3)|(show (Addr.add _ _).block ≠ _; rw [add_block]; exact hn364_3)|exact hn364_3) (.int .i64 ((rd_T35 t347 (ji50)).f2.f1))).trans hx364_2
                        replace hx364_3 := (cell_far (p := ⟨gb361, 3, none⟩) (by first|(rw [add_block]; exact hn364_3)|(show (Addr.add _ _).block ≠ _; rw [add_block]; exact hn364_3)|exact hn364_3) (.int .i64 ((rd_T35 t347 (ji50)).f2.f1))).trans hx364_3
                        replace hx364_4 := (cell_far (p := ⟨gb361, 3, none⟩) (by first|(rw [add_block]; exact hn364_3)|(show (Addr.add _ _).block ≠ _; rw [add_block]; exact hn364_3)|exact hn364_3) (.int .i64 ((rd_T35 t347 (ji50)).f2.f1))).trans hx364_4
                        replace hx364_5 := (cell_far (p := ⟨gb361, 3, none⟩) (by first|(rw [add_block]; exact hn364_3)|(show (Addr.add _ _).block ≠ _; rw [add_block]; exact hn364_3)|exact hn364_3) (.int .i64 ((rd_T35 t347 (ji50)).f2.f1))).trans hx364_5
                        replace hx364_0 := (cell_far (p := ⟨gb361, 4, none⟩) (by first|(rw [add_block]; exact hn364_4)|(show (Addr.add _ _).block ≠ _; rw [add_block]; exact hn364_4)|exact hn364_4) (.int .i64 ((rd_T35 t347 (ji50)).f2.f2))).trans hx364_0
                        replace hx364_1 := (cell_far (p := ⟨gb361, 4, none⟩) (by first|(rw [add_block]; exact hn364_4)|(show (Addr.add _ _).block ≠ _; rw [add_block]; exact hn364_4)|exact hn364_4) (.int .i64 ((rd_T35 t347 (ji50)).f2.f2))).trans hx364_1
                        replace hx364_2 := (cell_far (p := ⟨gb361, 4, none⟩) (by first|(rw [add_block]; exact hn364_4)|(show (Addr.add _ _).block ≠ _; rw [add_block]; exact hn364_4)|exact hn364_4) (.int .i64 ((rd_T35 t347 (ji50)).f2.f2))).trans hx364_2
                        replace hx364_3 := (cell_far (p := ⟨gb361, 4, none⟩) (by first|(rw [add_block]; exact hn364_4)|(show (Addr.add _ _).block ≠ _; rw [add_block]; exact hn364_4)|exact hn364_4) (.int .i64 ((rd_T35 t347 (ji50)).f2.f2))).trans hx364_3
                        replace hx364_4 := (cell_far (p := ⟨gb361, 4, none⟩) (by first|(rw [add_block]; exact hn364_4)|(show (Addr.add _ _).block ≠ _; rw [add_block]; exact hn364_4)|exact hn364_4) (.int .i64 ((rd_T35 t347 (ji50)).f2.f2))).trans hx364_4
                        replace hx364_5 := (cell_far (p := ⟨gb361, 4, none⟩) (by first|(rw [add_block]; exact hn364_4)|(show (Addr.add _ _).block ≠ _; rw [add_block]; exact hn364_4)|exact hn364_4) (.int .i64 ((rd_T35 t347 (ji50)).f2.f2))).trans hx364_5
                        replace hx364_0 := (cell_far (p := ⟨gb361, 5, none⟩) (by first|(rw [add_block]; exact hn364_5)|(show (Addr.add _ _).block ≠ _; rw [add_block]; exact hn364_5)|exact hn364_5) (.int .i64 ((rd_T35 t347 (ji50)).f3))).trans hx364_0
                        replace hx364_1 := (cell_far (p := ⟨gb361, 5, none⟩) (by first|(rw [add_block]; exact hn364_5)|(show (Addr.add _ _).block ≠ _; rw [add_block]; exact hn364_5)|exact hn364_5) (.int .i64 ((rd_T35 t347 (ji50)).f3))).trans hx364_1
                        replace hx364_2 := (cell_far (p := ⟨gb361, 5, none⟩) (by first|(rw [add_block]; exact hn364_5)|(show (Addr.add _ _).block ≠ _; rw [add_block]; exact hn364_5)|exact hn364_5) (.int .i64 ((rd_T35 t347 (ji50)).f3))).trans hx364_2
                        replace hx364_3 := (cell_far (p := ⟨gb361, 5, none⟩) (by first|(rw [add_block]; exact hn364_5)|(show (Addr.add _ _).block ≠ _; rw [add_block]; exact hn364_5)|exact hn364_5) (.int .i64 ((rd_T35 t347 (ji50)).f3))).trans hx364_3
                        replace hx364_4 := (cell_far (p := ⟨gb361, 5, none⟩) (by first|(rw [add_block]; exact hn364_5)|(show (Addr.add _ _).block ≠ _; rw [add_block]; exact hn364_5)|exact hn364_5) (.int .i64 ((rd_T35 t347 (ji50)).f3))).trans hx364_4
                        replace hx364_5 := (cell_far (p := ⟨gb361, 5, none⟩) (by first|(rw [add_block]; exact hn364_5)|(show (Addr.add _ _).block ≠ _; rw [add_block]; exact hn364_5)|exact hn364_5) (.int .i64 ((rd_T35 t347 (ji50)).f3))).trans hx364_5
                        clear hn364_0
                        clear hn364_1
                        clear hn364_2
                        clear hn364_3
                        clear hn364_4
                        clear hn364_5
                        replace p364 := eq_true p364
                        replace q364 := eq_true q364
                        have p365 : 0 ≤ (x16_3 : Int) := of_decide_eq_true (by first|(with_reducible assumption)|assumption)
                        have q365 : x16_3 < (t339.length : Int) := of_decide_eq_true (by first|(with_reducible assumption)|assumption)
                        obtain ⟨ad365, e365, hx365_0, hx365_1, hx365_2, hx365_3, hx365_4, hx365_5⟩ := at_T35 (Kd.R_reads' HO_9.out).2.2 x16_3 p365 q365
                        obtain rfl : ad362 = ad365 := (by injection e365)
                        have hn365_0 : ad362.block ≠ gb361 := Kd.own_blk (Kd.R_away HO_9.out (fun _ hk => hk.2))
                        have hn365_1 : ad362.block ≠ gb361 := Kd.own_blk (Kd.R_away HO_9.out (fun _ hk => hk.2))
                        have hn365_2 : ad362.block ≠ gb361 := Kd.own_blk (Kd.R_away HO_9.out (fun _ hk => hk.2))
                        have hn365_3 : ad362.block ≠ gb361 := Kd.own_blk (Kd.R_away HO_9.out (fun _ hk => hk.2))
                        have hn365_4 : ad362.block ≠ gb361 := Kd.own_blk (Kd.R_away HO_9.out (fun _ hk => hk.2))
                        have hn365_5 : ad362.block ≠ gb361 := Kd.own_blk (Kd.R_away HO_9.out (fun _ hk => hk.2))
                        replace hx365_0 := (cell_far (p := ⟨gb361, 0, none⟩) (by first|(rw [add_block]; exact hn365_0)|(show (Addr.add _ _).block ≠ _; rw [add_block]; exact hn365_0)|exact hn365_0) (.int .u8 ((rd_T35 t347 (ji50)).f0))).trans hx365_0
                        replace hx365_1 := (cell_far (p := ⟨gb361, 0, none⟩) (by first|(rw [add_block]; exact hn365_0)|(show (Addr.add _ _).block ≠ _; rw [add_block]; exact hn365_0)|exact hn365_0) (.int .u8 ((rd_T35 t347 (ji50)).f0))).trans hx365_1
                        replace hx365_2 := (cell_far (p := ⟨gb361, 0, none⟩) (by first|(rw [add_block]; exact hn365_0)|(show (Addr.add _ _).block ≠ _; rw [add_block]; exact hn365_0)|exact hn365_0) (.int .u8 ((rd_T35 t347 (ji50)).f0))).trans hx365_2
                        replace hx365_3 := (cell_far (p := ⟨gb361, 0, none⟩) (by first|(rw [add_block]; exact hn365_0)|(show (Addr.add _ _).block ≠ _; rw [add_block]; exact hn365_0)|exact hn365_0) (.int .u8 ((rd_T35 t347 (ji50)).f0))).trans hx365_3
                        replace hx365_4 := (cell_far (p := ⟨gb361, 0, none⟩) (by first|(rw [add_block]; exact hn365_0)|(show (Addr.add _ _).block ≠ _; rw [add_block]; exact hn365_0)|exact hn365_0) (.int .u8 ((rd_T35 t347 (ji50)).f0))).trans hx365_4
                        replace hx365_5 := (cell_far (p := ⟨gb361, 0, none⟩) (by first|(rw [add_block]; exact hn365_0)|(show (Addr.add _ _).block ≠ _; rw [add_block]; exact hn365_0)|exact hn365_0) (.int .u8 ((rd_T35 t347 (ji50)).f0))).trans hx365_5
                        replace hx365_0 := (cell_far (p := ⟨gb361, 1, none⟩) (by first|(rw [add_block]; exact hn365_1)|(show (Addr.add _ _).block ≠ _; rw [add_block]; exact hn365_1)|exact hn365_1) (.string ((rd_T35 t347 (ji50)).f1))).trans hx365_0
                        replace hx365_1 := (cell_far (p := ⟨gb361, 1, none⟩) (by first|(rw [add_block]; exact hn365_1)|(show (Addr.add _ _).block ≠ _; rw [add_block]; exact hn365_1)|exact hn365_1) (.string ((rd_T35 t347 (ji50)).f1))).trans hx365_1
                        replace hx365_2 := (cell_far (p := ⟨gb361, 1, none⟩) (by first|(rw [add_block]; exact hn365_1)|(show (Addr.add _ _).block ≠ _; rw [add_block]; exact hn365_1)|exact hn365_1) (.string ((rd_T35 t347 (ji50)).f1))).trans hx365_2
                        replace hx365_3 := (cell_far (p := ⟨gb361, 1, none⟩) (by first|(rw [add_block]; exact hn365_1)|(show (Addr.add _ _).block ≠ _; rw [add_block]; exact hn365_1)|exact hn365_1) (.string ((rd_T35 t347 (ji50)).f1))).trans hx365_3
                        replace hx365_4 := (cell_far (p := ⟨gb361, 1, none⟩) (by first|(rw [add_block]; exact hn365_1)|(show (Addr.add _ _).block ≠ _; rw [add_block]; exact hn365_1)|exact hn365_1) (.string ((rd_T35 t347 (ji50)).f1))).trans hx365_4
                        replace hx365_5 := (cell_far (p := ⟨gb361, 1, none⟩) (by first|(rw [add_block]; exact hn365_1)|(show (Addr.add _ _).block ≠ _; rw [add_block]; exact hn365_1)|exact hn365_1) (.string ((rd_T35 t347 (ji50)).f1))).trans hx365_5
                        replace hx365_0 := (cell_far (p := ⟨gb361, 2, none⟩) (by first|(rw [add_block]; exact hn365_2)|(show (Addr.add _ _).block ≠ _; rw [add_block]; exact hn365_2)|exact hn365_2) (.int .i64 ((rd_T35 t347 (ji50)).f2.f0))).trans hx365_0
                        replace hx365_1 := (cell_far (p := ⟨gb361, 2, none⟩) (by first|(rw [add_block]; exact hn365_2)|(show (Addr.add _ _).block ≠ _; rw [add_block]; exact hn365_2)|exact hn365_2) (.int .i64 ((rd_T35 t347 (ji50)).f2.f0))).trans hx365_1
                        replace hx365_2 := (cell_far (p := ⟨gb361, 2, none⟩) (by first|(rw [add_block]; exact hn365_2)|(show (Addr.add _ _).block ≠ _; rw [add_block]; exact hn365_2)|exact hn365_2) (.int .i64 ((rd_T35 t347 (ji50)).f2.f0))).trans hx365_2
                        replace hx365_3 := (cell_far (p := ⟨gb361, 2, none⟩) (by first|(rw [add_block]; exact hn365_2)|(show (Addr.add _ _).block ≠ _; rw [add_block]; exact hn365_2)|exact hn365_2) (.int .i64 ((rd_T35 t347 (ji50)).f2.f0))).trans hx365_3
                        replace hx365_4 := (cell_far (p := ⟨gb361, 2, none⟩) (by first|(rw [add_block]; exact hn365_2)|(show (Addr.add _ _).block ≠ _; rw [add_block]; exact hn365_2)|exact hn365_2) (.int .i64 ((rd_T35 t347 (ji50)).f2.f0))).trans hx365_4
                        replace hx365_5 := (cell_far (p := ⟨gb361, 2, none⟩) (by first|(rw [add_block]; exact hn365_2)|(show (Addr.add _ _).block ≠ _; rw [add_block]; exact hn365_2)|exact hn365_2) (.int .i64 ((rd_T35 t347 (ji50)).f2.f0))).trans hx365_5
                        replace hx365_0 := (cell_far (p := ⟨gb361, 3, none⟩) (by first|(rw [add_block]; exact hn365_3)|(show (Addr.add _ _).block ≠ _; rw [add_block]; exact hn365_3)|exact hn365_3) (.int .i64 ((rd_T35 t347 (ji50)).f2.f1))).trans hx365_0
                        replace hx365_1 := (cell_far (p := ⟨gb361, 3, none⟩) (by first|(rw [add_block]; exact hn365_3)|(show (Addr.add _ _).block ≠ _; rw [add_block]; exact hn365_3)|exact hn365_3) (.int .i64 ((rd_T35 t347 (ji50)).f2.f1))).trans hx365_1
                        replace hx365_2 := (cell_far (p := ⟨gb361, 3, none⟩) (by first|(rw [add_block]; exact hn365_3)|(show (Addr.add _ _).block ≠ _; rw [add_block]; exact hn365_3)|exact hn365_3) (.int .i64 ((rd_T35 t347 (ji50)).f2.f1))).trans hx365_2
                        replace hx365_3 := (cell_far (p := ⟨gb361, 3, none⟩) (by first|(rw [add_block]; exact hn365_3)|(show (Addr.add _ _).block ≠ _; rw [add_block]; exact hn365_3)|exact hn365_3) (.int .i64 ((rd_T35 t347 (ji50)).f2.f1))).trans hx365_3
                        replace hx365_4 := (cell_far (p := ⟨gb361, 3, none⟩) (by first|(rw [add_block]; exact hn365_3)|(show (Addr.add _ _).block ≠ _; rw [add_block]; exact hn365_3)|exact hn365_3) (.int .i64 ((rd_T35 t347 (ji50)).f2.f1))).trans hx365_4
                        replace hx365_5 := (cell_far (p := ⟨gb361, 3, none⟩) (by first|(rw [add_block]; exact hn365_3)|(show (Addr.add _ _).block ≠ _; rw [add_block]; exact hn365_3)|exact hn365_3) (.int .i64 ((rd_T35 t347 (ji50)).f2.f1))).trans hx365_5
                        replace hx365_0 := (cell_far (p := ⟨gb361, 4, none⟩) (by first|(rw [add_block]; exact hn365_4)|(show (Addr.add _ _).block ≠ _; rw [add_block]; exact hn365_4)|exact hn365_4) (.int .i64 ((rd_T35 t347 (ji50)).f2.f2))).trans hx365_0
                        replace hx365_1 := (cell_far (p := ⟨gb361, 4, none⟩) (by first|(rw [add_block]; exact hn365_4)|(show (Addr.add _ _).block ≠ _; rw [add_block]; exact hn365_4)|exact hn365_4) (.int .i64 ((rd_T35 t347 (ji50)).f2.f2))).trans hx365_1
                        replace hx365_2 := (cell_far (p := ⟨gb361, 4, none⟩) (by first|(rw [add_block]; exact hn365_4)|(show (Addr.add _ _).block ≠ _; rw [add_block]; exact hn365_4)|exact hn365_4) (.int .i64 ((rd_T35 t347 (ji50)).f2.f2))).trans hx365_2
                        replace hx365_3 := (cell_far (p := ⟨gb361, 4, none⟩) (by first|(rw [add_block]; exact hn365_4)|(show (Addr.add _ _).block ≠ _; rw [add_block]; exact hn365_4)|exact hn365_4) (.int .i64 ((rd_T35 t347 (ji50)).f2.f2))).trans hx365_3
                        replace hx365_4 := (cell_far (p := ⟨gb361, 4, none⟩) (by first|(rw [add_block]; exact hn365_4)|(show (Addr.add _ _).block ≠ _; rw [add_block]; exact hn365_4)|exact hn365_4) (.int .i64 ((rd_T35 t347 (ji50)).f2.f2))).trans hx365_4
                        replace hx365_5 := (cell_far (p := ⟨gb361, 4, none⟩) (by first|(rw [add_block]; exact hn365_4)|(show (Addr.add _ _).block ≠ _; rw [add_block]; exact hn365_4)|exact hn365_4) (.int .i64 ((rd_T35 t347 (ji50)).f2.f2))).trans hx365_5
                        replace hx365_0 := (cell_far (p := ⟨gb361, 5, none⟩) (by first|(rw [add_block]; exact hn365_5)|(show (Addr.add _ _).block ≠ _; rw [add_block]; exact hn365_5)|exact hn365_5) (.int .i64 ((rd_T35 t347 (ji50)).f3))).trans hx365_0
                        replace hx365_1 := (cell_far (p := ⟨gb361, 5, none⟩) (by first|(rw [add_block]; exact hn365_5)|(show (Addr.add _ _).block ≠ _; rw [add_block]; exact hn365_5)|exact hn365_5) (.int .i64 ((rd_T35 t347 (ji50)).f3))).trans hx365_1
                        replace hx365_2 := (cell_far (p := ⟨gb361, 5, none⟩) (by first|(rw [add_block]; exact hn365_5)|(show (Addr.add _ _).block ≠ _; rw [add_block]; exact hn365_5)|exact hn365_5) (.int .i64 ((rd_T35 t347 (ji50)).f3))).trans hx365_2
                        replace hx365_3 := (cell_far (p := ⟨gb361, 5, none⟩) (by first|(rw [add_block]; exact hn365_5)|(show (Addr.add _ _).block ≠ _; rw [add_block]; exact hn365_5)|exact hn365_5) (.int .i64 ((rd_T35 t347 (ji50)).f3))).trans hx365_3
                        replace hx365_4 := (cell_far (p := ⟨gb361, 5, none⟩) (by first|(rw [add_block]; exact hn365_5)|(show (Addr.add _ _).block ≠ _; rw [add_block]; exact hn365_5)|exact hn365_5) (.int .i64 ((rd_T35 t347 (ji50)).f3))).trans hx365_4
                        replace hx365_5 := (cell_far (p := ⟨gb361, 5, none⟩) (by first|(rw [add_block]; exact hn365_5)|(show (Addr.add _ _).block ≠ _; rw [add_block]; exact hn365_5)|exact hn365_5) (.int .i64 ((rd_T35 t347 (ji50)).f3))).trans hx365_5
                        clear hn365_0
                        clear hn365_1
                        clear hn365_2
                        clear hn365_3
                        clear hn365_4
                        clear hn365_5
                        replace p365 := eq_true p365
                        replace q365 := eq_true q365
                        have p366 : 0 ≤ (x16_3 : Int) := of_decide_eq_true (by first|(with_reducible assumption)|assumption)
                        have q366 : x16_3 < (t339.length : Int) := of_decide_eq_true (by first|(with_reducible assumption)|assumption)
                        obtain ⟨ad366, e366, hx366_0, hx366_1, hx366_2, hx366_3, hx366_4, hx366_5⟩ := at_T35 (Kd.R_reads' HO_9.out).2.2 x16_3 p366 q366
                        obtain rfl : ad362 = ad366 := (by injection e366)
                        have hn366_0 : ad362.block ≠ gb361 := Kd.own_blk (Kd.R_away HO_9.out (fun _ hk => hk.2))
                        have hn366_1 : ad362.block ≠ gb361 := Kd.own_blk (Kd.R_away HO_9.out (fun _ hk => hk.2))
                        have hn366_2 : ad362.block ≠ gb361 := Kd.own_blk (Kd.R_away HO_9.out (fun _ hk => hk.2))
                        have hn366_3 : ad362.block ≠ gb361 := Kd.own_blk (Kd.R_away HO_9.out (fun _ hk => hk.2))
                        have hn366_4 : ad362.block ≠ gb361 := Kd.own_blk (Kd.R_away HO_9.out (fun _ hk => hk.2))
                        have hn366_5 : ad362.block ≠ gb361 := Kd.own_blk (Kd.R_away HO_9.out (fun _ hk => hk.2))
                        replace hx366_0 := (cell_far (p := ⟨gb361, 0, none⟩) (by first|(rw [add_block]; exact hn366_0)|(show (Addr.add _ _).block ≠ _; rw [add_block]; exact hn366_0)|exact hn366_0) (.int .u8 ((rd_T35 t347 (ji50)).f0))).trans hx366_0
                        replace hx366_1 := (cell_far (p := ⟨gb361, 0, none⟩) (by first|(rw [add_block]; exact hn366_0)|(show (Addr.add _ _).block ≠ _; rw [add_block]; exact hn366_0)|exact hn366_0) (.int .u8 ((rd_T35 t347 (ji50)).f0))).trans hx366_1
                        replace hx366_2 := (cell_far (p := ⟨gb361, 0, none⟩) (by first|(rw [add_block]; exact hn366_0)|(show (Addr.add _ _).block ≠ _; rw [add_block]; exact hn366_0)|exact hn366_0) (.int .u8 ((rd_T35 t347 (ji50)).f0))).trans hx366_2
                        replace hx366_3 := (cell_far (p := ⟨gb361, 0, none⟩) (by first|(rw [add_block]; exact hn366_0)|(show (Addr.add _ _).block ≠ _; rw [add_block]; exact hn366_0)|exact hn366_0) (.int .u8 ((rd_T35 t347 (ji50)).f0))).trans hx366_3
                        replace hx366_4 := (cell_far (p := ⟨gb361, 0, none⟩) (by first|(rw [add_block]; exact hn366_0)|(show (Addr.add _ _).block ≠ _; rw [add_block]; exact hn366_0)|exact hn366_0) (.int .u8 ((rd_T35 t347 (ji50)).f0))).trans hx366_4
                        replace hx366_5 := (cell_far (p := ⟨gb361, 0, none⟩) (by first|(rw [add_block]; exact hn366_0)|(show (Addr.add _ _).block ≠ _; rw [add_block]; exact hn366_0)|exact hn366_0) (.int .u8 ((rd_T35 t347 (ji50)).f0))).trans hx366_5
                        replace hx366_0 := (cell_far (p := ⟨gb361, 1, none⟩) (by first|(rw [add_block]; exact hn366_1)|(show (Addr.add _ _).block ≠ _; rw [add_block]; exact hn366_1)|exact hn366_1) (.string ((rd_T35 t347 (ji50)).f1))).trans hx366_0
                        replace hx366_1 := (cell_far (p := ⟨gb361, 1, none⟩) (by first|(rw [add_block]; exact hn366_1)|(show (Addr.add _ _).block ≠ _; rw [add_block]; exact hn366_1)|exact hn366_1) (.string ((rd_T35 t347 (ji50)).f1))).trans hx366_1
                        replace hx366_2 := (cell_far (p := ⟨gb361, 1, none⟩) (by first|(rw [add_block]; exact hn366_1)|(show (Addr.add _ _).block ≠ _; rw [add_block]; exact hn366_1)|exact hn366_1) (.string ((rd_T35 t347 (ji50)).f1))).trans hx366_2
                        replace hx366_3 := (cell_far (p := ⟨gb361, 1, none⟩) (by first|(rw [add_block]; exact hn366_1)|(show (Addr.add _ _).block ≠ _; rw [add_block]; exact hn366_1)|exact hn366_1) (.string ((rd_T35 t347 (ji50)).f1))).trans hx366_3
                        replace hx366_4 := (cell_far (p := ⟨gb361, 1, none⟩) (by first|(rw [add_block]; exact hn366_1)|(show (Addr.add _ _).block ≠ _; rw [add_block]; exact hn366_1)|exact hn366_1) (.string ((rd_T35 t347 (ji50)).f1))).trans hx366_4
                        replace hx366_5 := (cell_far (p := ⟨gb361, 1, none⟩) (by first|(rw [add_block]; exact hn366_1)|(show (Addr.add _ _).block ≠ _; rw [add_block]; exact hn366_1)|exact hn366_1) (.string ((rd_T35 t347 (ji50)).f1))).trans hx366_5
                        replace hx366_0 := (cell_far (p := ⟨gb361, 2, none⟩) (by first|(rw [add_block]; exact hn366_2)|(show (Addr.add _ _).block ≠ _; rw [add_block]; exact hn366_2)|exact hn366_2) (.int .i64 ((rd_T35 t347 (ji50)).f2.f0))).trans hx366_0
                        replace hx366_1 := (cell_far (p := ⟨gb361, 2, none⟩) (by first|(rw [add_block]; exact hn366_2)|(show (Addr.add _ _).block ≠ _; rw [add_block]; exact hn366_2)|exact hn366_2) (.int .i64 ((rd_T35 t347 (ji50)).f2.f0))).trans hx366_1
                        replace hx366_2 := (cell_far (p := ⟨gb361, 2, none⟩) (by first|(rw [add_block]; exact hn366_2)|(show (Addr.add _ _).block ≠ _; rw [add_block]; exact hn366_2)|exact hn366_2) (.int .i64 ((rd_T35 t347 (ji50)).f2.f0))).trans hx366_2
                        replace hx366_3 := (cell_far (p := ⟨gb361, 2, none⟩) (by first|(rw [add_block]; exact hn366_2)|(show (Addr.add _ _).block ≠ _; rw [add_block]; exact hn366_2)|exact hn366_2) (.int .i64 ((rd_T35 t347 (ji50)).f2.f0))).trans hx366_3
                        replace hx366_4 := (cell_far (p := ⟨gb361, 2, none⟩) (by first|(rw [add_block]; exact hn366_2)|(show (Addr.add _ _).block ≠ _; rw [add_block]; exact hn366_2)|exact hn366_2) (.int .i64 ((rd_T35 t347 (ji50)).f2.f0))).trans hx366_4
                        replace hx366_5 := (cell_far (p := ⟨gb361, 2, none⟩) (by first|(rw [add_block]; exact hn366_2)|(show (Addr.add _ _).block ≠ _; rw [add_block]; exact hn366_2)|exact hn366_2) (.int .i64 ((rd_T35 t347 (ji50)).f2.f0))).trans hx366_5
                        replace hx366_0 := (cell_far (p := ⟨gb361, 3, none⟩) (by first|(rw [add_block]; exact hn366_3)|(show (Addr.add _ _).block ≠ _; rw [add_block]; exact hn366_3)|exact hn366_3) (.int .i64 ((rd_T35 t347 (ji50)).f2.f1))).trans hx366_0
                        replace hx366_1 := (cell_far (p := ⟨gb361, 3, none⟩) (by first|(rw [add_block]; exact hn366_3)|(show (Addr.add _ _).block ≠ _; rw [add_block]; exact hn366_3)|exact hn366_3) (.int .i64 ((rd_T35 t347 (ji50)).f2.f1))).trans hx366_1
                        replace hx366_2 := (cell_far (p := ⟨gb361, 3, none⟩) (by first|(rw [add_block]; exact hn366_3)|(show (Addr.add _ _).block ≠ _; rw [add_block]; exact hn366_3)|exact hn366_3) (.int .i64 ((rd_T35 t347 (ji50)).f2.f1))).trans hx366_2
                        replace hx366_3 := (cell_far (p := ⟨gb361, 3, none⟩) (by first|(rw [add_block]; exact hn366_3)|(show (Addr.add _ _).block ≠ _; rw [add_block]; exact hn366_3)|exact hn366_3) (.int .i64 ((rd_T35 t347 (ji50)).f2.f1))).trans hx366_3
                        replace hx366_4 := (cell_far (p := ⟨gb361, 3, none⟩) (by first|(rw [add_block]; exact hn366_3)|(show (Addr.add _ _).block ≠ _; rw [add_block]; exact hn366_3)|exact hn366_3) (.int .i64 ((rd_T35 t347 (ji50)).f2.f1))).trans hx366_4
                        replace hx366_5 := (cell_far (p := ⟨gb361, 3, none⟩) (by first|(rw [add_block]; exact hn366_3)|(show (Addr.add _ _).block ≠ _; rw [add_block]; exact hn366_3)|exact hn366_3) (.int .i64 ((rd_T35 t347 (ji50)).f2.f1))).trans hx366_5
                        replace hx366_0 := (cell_far (p := ⟨gb361, 4, none⟩) (by first|(rw [add_block]; exact hn366_4)|(show (Addr.add _ _).block ≠ _; rw [add_block]; exact hn366_4)|exact hn366_4) (.int .i64 ((rd_T35 t347 (ji50)).f2.f2))).trans hx366_0
                        replace hx366_1 := (cell_far (p := ⟨gb361, 4, none⟩) (by first|(rw [add_block]; exact hn366_4)|(show (Addr.add _ _).block ≠ _; rw [add_block]; exact hn366_4)|exact hn366_4) (.int .i64 ((rd_T35 t347 (ji50)).f2.f2))).trans hx366_1
                        replace hx366_2 := (cell_far (p := ⟨gb361, 4, none⟩) (by first|(rw [add_block]; exact hn366_4)|(show (Addr.add _ _).block ≠ _; rw [add_block]; exact hn366_4)|exact hn366_4) (.int .i64 ((rd_T35 t347 (ji50)).f2.f2))).trans hx366_2
                        replace hx366_3 := (cell_far (p := ⟨gb361, 4, none⟩) (by first|(rw [add_block]; exact hn366_4)|(show (Addr.add _ _).block ≠ _; rw [add_block]; exact hn366_4)|exact hn366_4) (.int .i64 ((rd_T35 t347 (ji50)).f2.f2))).trans hx366_3
                        replace hx366_4 := (cell_far (p := ⟨gb361, 4, none⟩) (by first|(rw [add_block]; exact hn366_4)|(show (Addr.add _ _).block ≠ _; rw [add_block]; exact hn366_4)|exact hn366_4) (.int .i64 ((rd_T35 t347 (ji50)).f2.f2))).trans hx366_4
                        replace hx366_5 := (cell_far (p := ⟨gb361, 4, none⟩) (by first|(rw [add_block]; exact hn366_4)|(show (Addr.add _ _).block ≠ _; rw [add_block]; exact hn366_4)|exact hn366_4) (.int .i64 ((rd_T35 t347 (ji50)).f2.f2))).trans hx366_5
                        replace hx366_0 := (cell_far (p := ⟨gb361, 5, none⟩) (by first|(rw [add_block]; exact hn366_5)|(show (Addr.add _ _).block ≠ _; rw [add_block]; exact hn366_5)|exact hn366_5) (.int .i64 ((rd_T35 t347 (ji50)).f3))).trans hx366_0
                        replace hx366_1 := (cell_far (p := ⟨gb361, 5, none⟩) (by first|(rw [add_block]; exact hn366_5)|(show (Addr.add _ _).block ≠ _; rw [add_block]; exact hn366_5)|exact hn366_5) (.int .i64 ((rd_T35 t347 (ji50)).f3))).trans hx366_1
                        replace hx366_2 := (cell_far (p := ⟨gb361, 5, none⟩) (by first|(rw [add_block]; exact hn366_5)|(show (Addr.add _ _).block ≠ _; rw [add_block]; exact hn366_5)|exact hn366_5) (.int .i64 ((rd_T35 t347 (ji50)).f3))).trans hx366_2
                        replace hx366_3 := (cell_far (p := ⟨gb361, 5, none⟩) (by first|(rw [add_block]; exact hn366_5)|(show (Addr.add _ _).block ≠ _; rw [add_block]; exact hn366_5)|exact hn366_5) (.int .i64 ((rd_T35 t347 (ji50)).f3))).trans hx366_3
                        replace hx366_4 := (cell_far (p := ⟨gb361, 5, none⟩) (by first|(rw [add_block]; exact hn366_5)|(show (Addr.add _ _).block ≠ _; rw [add_block]; exact hn366_5)|exact hn366_5) (.int .i64 ((rd_T35 t347 (ji50)).f3))).trans hx366_4
                        replace hx366_5 := (cell_far (p := ⟨gb361, 5, none⟩) (by first|(rw [add_block]; exact hn366_5)|(show (Addr.add _ _).block ≠ _; rw [add_block]; exact hn366_5)|exact hn366_5) (.int .i64 ((rd_T35 t347 (ji50)).f3))).trans hx366_5
                        clear hn366_0
                        clear hn366_1
                        clear hn366_2
                        clear hn366_3
                        clear hn366_4
                        clear hn366_5
                        replace p366 := eq_true p366
                        replace q366 := eq_true q366
                        go_wp2
                        repeat (go_quiet (fail); try go_wp2)
                        go_meet
                        case rel => exact ⟨_,((((rd_T35 t347 (ji50)).f3) != ((rd_T35 t339 x16_3).f3))),(by first|rfl|(simp;done)|(simp only [← hji50] <;> (first|rfl|simp))|(simp [*];done)),H',⟨by have:=HJ3.out;have:=HJ14.out;have:=HK3.out;first|omega|exact Nat.le_refl _⟩,⟨by (with_reducible repeat (first|apply Kd.R_alloc|apply Kd.R_drewN|apply Kd.R_drew));exact Kd.R_mono (Kd.R_far (p:=⟨gb361,5,none⟩) (Kd.R_far (p:=⟨gb361,4,none⟩) (Kd.R_far (p:=⟨gb361,3,none⟩) (Kd.R_far (p:=⟨gb361,2,none⟩) (Kd.R_far (p:=⟨gb361,1,none⟩) (Kd.R_far (p:=⟨gb361,0,none⟩) (Kd.R_mono HO_6.out (fun k_ hk => (⟨hk,hk.2⟩ : _ ∧ k_ ≠ gb361))) (fun _ hk => hk.2) (.int .u8 ((rd_T35 t347 (ji50)).f0))) (fun _ hk => hk.2) (.string ((rd_T35 t347 (ji50)).f1))) (fun _ hk => hk.2) (.int .i64 ((rd_T35 t347 (ji50)).f2.f0))) (fun _ hk => hk.2) (.int .i64 ((rd_T35 t347 (ji50)).f2.f1))) (fun _ hk => hk.2) (.int .i64 ((rd_T35 t347 (ji50)).f2.f2))) (fun _ hk => hk.2) (.int .i64 ((rd_T35 t347 (ji50)).f3))) (fun _ hk => ⟨hk.1.1.1,⟨hk.1.1.2,hk.1.2⟩⟩)⟩,⟨by (with_reducible repeat (first|apply Kd.R_alloc|apply Kd.R_drewN|apply Kd.R_drew));exact Kd.R_mono (Kd.R_far (p:=⟨gb361,5,none⟩) (Kd.R_far (p:=⟨gb361,4,none⟩) (Kd.R_far (p:=⟨gb361,3,none⟩) (Kd.R_far (p:=⟨gb361,2,none⟩) (Kd.R_far (p:=⟨gb361,1,none⟩) (Kd.R_far (p:=⟨gb361,0,none⟩) (Kd.R_mono HO_9.out (fun k_ hk => (⟨hk,hk.2⟩ : _ ∧ k_ ≠ gb361))) (fun _ hk => hk.2) (.int .u8 ((rd_T35 t347 (ji50)).f0))) (fun _ hk => hk.2) (.string ((rd_T35 t347 (ji50)).f1))) (fun _ hk => hk.2) (.int .i64 ((rd_T35 t347 (ji50)).f2.f0))) (fun _ hk => hk.2) (.int .i64 ((rd_T35 t347 (ji50)).f2.f1))) (fun _ hk => hk.2) (.int .i64 ((rd_T35 t347 (ji50)).f2.f2))) (fun _ hk => hk.2) (.int .i64 ((rd_T35 t347 (ji50)).f3))) (fun _ hk => ⟨hk.1.1.1,⟨hk.1.1.2,hk.1.2⟩⟩)⟩,⟨by (with_reducible repeat (first|apply Kd.R_alloc|apply Kd.R_drewN|apply Kd.R_drew));exact Kd.R_mono (Kd.R_far (p:=⟨gb361,5,none⟩) (Kd.R_far (p:=⟨gb361,4,none⟩) (Kd.R_far (p:=⟨gb361,3,none⟩) (Kd.R_far (p:=⟨gb361,2,none⟩) (Kd.R_far (p:=⟨gb361,1,none⟩) (Kd.R_far (p:=⟨gb361,0,none⟩) (Kd.R_mono HO_12.out (fun k_ hk => (⟨hk,hk.2⟩ : _ ∧ k_ ≠ gb361))) (fun _ hk => hk.2) (.int .u8 ((rd_T35 t347 (ji50)).f0))) (fun _ hk => hk.2) (.string ((rd_T35 t347 (ji50)).f1))) (fun _ hk => hk.2) (.int .i64 ((rd_T35 t347 (ji50)).f2.f0))) (fun _ hk => hk.2) (.int .i64 ((rd_T35 t347 (ji50)).f2.f1))) (fun _ hk => hk.2) (.int .i64 ((rd_T35 t347 (ji50)).f2.f2))) (fun _ hk => hk.2) (.int .i64 ((rd_T35 t347 (ji50)).f3))) (fun _ hk => ⟨hk.1.1.1,⟨hk.1.1.2,hk.1.2⟩⟩)⟩,⟨by (with_reducible repeat (first|refine blk_drewN ?_ _|refine blk_drew ?_|refine blk_alloc ?_ _));refine blk_far ?_ NB338_361.out _;(with_reducible repeat (first|refine blk_drewN ?_ _|refine blk_drew ?_|refine blk_alloc ?_ _));refine blk_far ?_ NB338_361.out _;(with_reducible repeat (first|refine blk_drewN ?_ _|refine blk_drew ?_|refine blk_alloc ?_ _));refine blk_far ?_ NB338_361.out _;(with_reducible repeat (first|refine blk_drewN ?_ _|refine blk_drew ?_|refine blk_alloc ?_ _));refine blk_far ?_ NB338_361.out _;(with_reducible repeat (first|refine blk_drewN ?_ _|refine blk_drew ?_|refine blk_alloc ?_ _));refine blk_far ?_ NB338_361.out _;(with_reducible repeat (first|refine blk_drewN ?_ _|refine blk_drew ?_|refine blk_alloc ?_ _));refine blk_far ?_ NB338_361.out _;(with_reducible repeat (first|refine blk_drewN ?_ _|refine blk_drew ?_|refine blk_alloc ?_ _));exact BK338.out⟩,⟨by (with_reducible repeat (first|refine blk_drewN ?_ _|refine blk_drew ?_|refine blk_alloc ?_ _));refine blk_far ?_ NB346_361.out _;(with_reducible repeat (first|refine blk_drewN ?_ _|refine blk_drew ?_|refine blk_alloc ?_ _));refine blk_far ?_ NB346_361.out _;(with_reducible repeat (first|refine blk_drewN ?_ _|refine blk_drew ?_|refine blk_alloc ?_ _));refine blk_far ?_ NB346_361.out _;(with_reducible repeat (first|refine blk_drewN ?_ _|refine blk_drew ?_|refine blk_alloc ?_ _));refine blk_far ?_ NB346_361.out _;(with_reducible repeat (first|refine blk_drewN ?_ _|refine blk_drew ?_|refine blk_alloc ?_ _));refine blk_far ?_ NB346_361.out _;(with_reducible repeat (first|refine blk_drewN ?_ _|refine blk_drew ?_|refine blk_alloc ?_ _));refine blk_far ?_ NB346_361.out _;(with_reducible repeat (first|refine blk_drewN ?_ _|refine blk_drew ?_|refine blk_alloc ?_ _));exact BK346.out⟩,⟨by (with_reducible repeat (first|refine blk_drewN ?_ _|refine blk_drew ?_|refine blk_alloc ?_ _));refine blk_far ?_ NB354_361.out _;(with_reducible repeat (first|refine blk_drewN ?_ _|refine blk_drew ?_|refine blk_alloc ?_ _));refine blk_far ?_ NB354_361.out _;(with_reducible repeat (first|refine blk_drewN ?_ _|refine blk_drew ?_|refine blk_alloc ?_ _));refine blk_far ?_ NB354_361.out _;(with_reducible repeat (first|refine blk_drewN ?_ _|refine blk_drew ?_|refine blk_alloc ?_ _));refine blk_far ?_ NB354_361.out _;(with_reducible repeat (first|refine blk_drewN ?_ _|refine blk_drew ?_|refine blk_alloc ?_ _));refine blk_far ?_ NB354_361.out _;(with_reducible repeat (first|refine blk_drewN ?_ _|refine blk_drew ?_|refine blk_alloc ?_ _));refine blk_far ?_ NB354_361.out _;(with_reducible repeat (first|refine blk_drewN ?_ _|refine blk_drew ?_|refine blk_alloc ?_ _));exact BK354.out⟩,⟨by (with_reducible repeat (first|refine blk_drewN ?_ _|refine blk_drew ?_|refine blk_alloc ?_ _));refine blk_put (cs:=#[.int .u8 ((rd_T35 t347 (ji50)).f0),.string ((rd_T35 t347 (ji50)).f1),.int .i64 ((rd_T35 t347 (ji50)).f2.f0),.int .i64 ((rd_T35 t347 (ji50)).f2.f1),.int .i64 ((rd_T35 t347 (ji50)).f2.f2),.int .i64 0]) ?_ 5 _ rfl;(with_reducible repeat (first|refine blk_drewN ?_ _|refine blk_drew ?_|refine blk_alloc ?_ _));refine blk_put (cs:=#[.int .u8 ((rd_T35 t347 (ji50)).f0),.string ((rd_T35 t347 (ji50)).f1),.int .i64 ((rd_T35 t347 (ji50)).f2.f0),.int .i64 ((rd_T35 t347 (ji50)).f2.f1),.int .i64 0,.int .i64 0]) ?_ 4 _ rfl;(with_reducible repeat (first|refine blk_drewN ?_ _|refine blk_drew ?_|refine blk_alloc ?_ _));refine blk_put (cs:=#[.int .u8 ((rd_T35 t347 (ji50)).f0),.string ((rd_T35 t347 (ji50)).f1),.int .i64 ((rd_T35 t347 (ji50)).f2.f0),.int .i64 0,.int .i64 0,.int .i64 0]) ?_ 3 _ rfl;(with_reducible repeat (first|refine blk_drewN ?_ _|refine blk_drew ?_|refine blk_alloc ?_ _));refine blk_put (cs:=#[.int .u8 ((rd_T35 t347 (ji50)).f0),.string ((rd_T35 t347 (ji50)).f1),.int .i64 0,.int .i64 0,.int .i64 0,.int .i64 0]) ?_ 2 _ rfl;(with_reducible repeat (first|refine blk_drewN ?_ _|refine blk_drew ?_|refine blk_alloc ?_ _));refine blk_put (cs:=#[.int .u8 ((rd_T35 t347 (ji50)).f0),.string (⟨#[]⟩ : ByteArray),.int .i64 0,.int .i64 0,.int .i64 0,.int .i64 0]) ?_ 1 _ rfl;(with_reducible repeat (first|refine blk_drewN ?_ _|refine blk_drew ?_|refine blk_alloc ?_ _));refine blk_put (cs:=#[.int .u8 0,.string (⟨#[]⟩ : ByteArray),.int .i64 0,.int .i64 0,.int .i64 0,.int .i64 0]) ?_ 0 _ rfl;(with_reducible repeat (first|refine blk_drewN ?_ _|refine blk_drew ?_|refine blk_alloc ?_ _));exact BK361.out⟩,⟨by repeat (first|(with_reducible first|exact HB.out|apply below_alloc|apply pw_below_drewN|apply below_drew1|refine below_set ?_ GE338.out|refine below_set ?_ GE346.out|refine below_set ?_ GE354.out|refine below_set ?_ GE361.out)|exact HB.out)⟩⟩
                       ·rw [if_neg c65] at H
                        have c65b0 : decide (0 < x16_3) = false := decide_eq_false c65
                        clear c65
                        have H' := Aside0.mk H
                        clear H
                        have hnb70 := NB361_338.out
                        have hnc70 := NB338_361.out
                        have hnb71 := NB361_346.out
                        have hnc71 := NB346_361.out
                        have hnb72 := NB361_354.out
                        have hnc72 := NB354_361.out
                        have hcz73_0 : w55.cell? ⟨gb361, 0, none⟩ = some (.int .u8 0) := (blk_cell BK361.out 0).trans rfl
                        have hcz73_1 : w55.cell? ⟨gb361, 1, none⟩ = some (.string (⟨#[]⟩ : ByteArray)) := (blk_cell BK361.out 1).trans rfl
                        have hcz73_2 : w55.cell? ⟨gb361, 2, none⟩ = some (.int .i64 0) := (blk_cell BK361.out 2).trans rfl
                        have hcz73_3 : w55.cell? ⟨gb361, 3, none⟩ = some (.int .i64 0) := (blk_cell BK361.out 3).trans rfl
                        have hcz73_4 : w55.cell? ⟨gb361, 4, none⟩ = some (.int .i64 0) := (blk_cell BK361.out 4).trans rfl
                        have hcz73_5 : w55.cell? ⟨gb361, 5, none⟩ = some (.int .i64 0) := (blk_cell BK361.out 5).trans rfl
                        have hfz73_0 := blk_frozen BK361.out 0
                        have hfz73_1 := blk_frozen BK361.out 1
                        have hfz73_2 := blk_frozen BK361.out 2
                        have hfz73_3 := blk_frozen BK361.out 3
                        have hfz73_4 := blk_frozen BK361.out 4
                        have hfz73_5 := blk_frozen BK361.out 5
                        have p362 : 0 ≤ (x16_3 : Int) := of_decide_eq_true (by first|(with_reducible assumption)|assumption)
                        have q362 : x16_3 < (t339.length : Int) := of_decide_eq_true (by first|(with_reducible assumption)|assumption)
                        obtain ⟨ad362, e362, hx362_0, hx362_1, hx362_2, hx362_3, hx362_4, hx362_5⟩ := at_T35 (Kd.R_reads' HO_9.out).2.2 x16_3 p362 q362
                        cases e362
                        have hn362_0 : ad362.block ≠ gb361 := Kd.own_blk (Kd.R_away HO_9.out (fun _ hk => hk.2))
                        have hn362_1 : ad362.block ≠ gb361 := Kd.own_blk (Kd.R_away HO_9.out (fun _ hk => hk.2))
                        have hn362_2 : ad362.block ≠ gb361 := Kd.own_blk (Kd.R_away HO_9.out (fun _ hk => hk.2))
                        have hn362_3 : ad362.block ≠ gb361 := Kd.own_blk (Kd.R_away HO_9.out (fun _ hk => hk.2))
                        have hn362_4 : ad362.block ≠ gb361 := Kd.own_blk (Kd.R_away HO_9.out (fun _ hk => hk.2))
                        have hn362_5 : ad362.block ≠ gb361 := Kd.own_blk (Kd.R_away HO_9.out (fun _ hk => hk.2))
                        replace hx362_0 := (cell_far (p := ⟨gb361, 0, none⟩) (by first|(rw [add_block]; exact hn362_0)|(show (Addr.add _ _).block ≠ _; rw [add_block]; exact hn362_0)|exact hn362_0) (.int .u8 ((rd_T35 t347 (ji50)).f0))).trans hx362_0
                        replace hx362_1 := (cell_far (p := ⟨gb361, 0, none⟩) (by first|(rw [add_block]; exact hn362_0)|(show (Addr.add _ _).block ≠ _; rw [add_block]; exact hn362_0)|exact hn362_0) (.int .u8 ((rd_T35 t347 (ji50)).f0))).trans hx362_1
                        replace hx362_2 := (cell_far (p := ⟨gb361, 0, none⟩) (by first|(rw [add_block]; exact hn362_0)|(show (Addr.add _ _).block ≠ _; rw [add_block]; exact hn362_0)|exact hn362_0) (.int .u8 ((rd_T35 t347 (ji50)).f0))).trans hx362_2
                        replace hx362_3 := (cell_far (p := ⟨gb361, 0, none⟩) (by first|(rw [add_block]; exact hn362_0)|(show (Addr.add _ _).block ≠ _; rw [add_block]; exact hn362_0)|exact hn362_0) (.int .u8 ((rd_T35 t347 (ji50)).f0))).trans hx362_3
                        replace hx362_4 := (cell_far (p := ⟨gb361, 0, none⟩) (by first|(rw [add_block]; exact hn362_0)|(show (Addr.add _ _).block ≠ _; rw [add_block]; exact hn362_0)|exact hn362_0) (.int .u8 ((rd_T35 t347 (ji50)).f0))).trans hx362_4
                        replace hx362_5 := (cell_far (p := ⟨gb361, 0, none⟩) (by first|(rw [add_block]; exact hn362_0)|(show (Addr.add _ _).block ≠ _; rw [add_block]; exact hn362_0)|exact hn362_0) (.int .u8 ((rd_T35 t347 (ji50)).f0))).trans hx362_5
                        replace hx362_0 := (cell_far (p := ⟨gb361, 1, none⟩) (by first|(rw [add_block]; exact hn362_1)|(show (Addr.add _ _).block ≠ _; rw [add_block]; exact hn362_1)|exact hn362_1) (.string ((rd_T35 t347 (ji50)).f1))).trans hx362_0
                        replace hx362_1 := (cell_far (p := ⟨gb361, 1, none⟩) (by first|(rw [add_block]; exact hn362_1)|(show (Addr.add _ _).block ≠ _; rw [add_block]; exact hn362_1)|exact hn362_1) (.string ((rd_T35 t347 (ji50)).f1))).trans hx362_1
                        replace hx362_2 := (cell_far (p := ⟨gb361, 1, none⟩) (by first|(rw [add_block]; exact hn362_1)|(show (Addr.add _ _).block ≠ _; rw [add_block]; exact hn362_1)|exact hn362_1) (.string ((rd_T35 t347 (ji50)).f1))).trans hx362_2
                        replace hx362_3 := (cell_far (p := ⟨gb361, 1, none⟩) (by first|(rw [add_block]; exact hn362_1)|(show (Addr.add _ _).block ≠ _; rw [add_block]; exact hn362_1)|exact hn362_1) (.string ((rd_T35 t347 (ji50)).f1))).trans hx362_3
                        replace hx362_4 := (cell_far (p := ⟨gb361, 1, none⟩) (by first|(rw [add_block]; exact hn362_1)|(show (Addr.add _ _).block ≠ _; rw [add_block]; exact hn362_1)|exact hn362_1) (.string ((rd_T35 t347 (ji50)).f1))).trans hx362_4
                        replace hx362_5 := (cell_far (p := ⟨gb361, 1, none⟩) (by first|(rw [add_block]; exact hn362_1)|(show (Addr.add _ _).block ≠ _; rw [add_block]; exact hn362_1)|exact hn362_1) (.string ((rd_T35 t347 (ji50)).f1))).trans hx362_5
                        replace hx362_0 := (cell_far (p := ⟨gb361, 2, none⟩) (by first|(rw [add_block]; exact hn362_2)|(show (Addr.add _ _).block ≠ _; rw [add_block]; exact hn362_2)|exact hn362_2) (.int .i64 ((rd_T35 t347 (ji50)).f2.f0))).trans hx362_0
                        replace hx362_1 := (cell_far (p := ⟨gb361, 2, none⟩) (by first|(rw [add_block]; exact hn362_2)|(show (Addr.add _ _).block ≠ _; rw [add_block]; exact hn362_2)|exact hn362_2) (.int .i64 ((rd_T35 t347 (ji50)).f2.f0))).trans hx362_1
                        replace hx362_2 := (cell_far (p := ⟨gb361, 2, none⟩) (by first|(rw [add_block]; exact hn362_2)|(show (Addr.add _ _).block ≠ _; rw [add_block]; exact hn362_2)|exact hn362_2) (.int .i64 ((rd_T35 t347 (ji50)).f2.f0))).trans hx362_2
                        replace hx362_3 := (cell_far (p := ⟨gb361, 2, none⟩) (by first|(rw [add_block]; exact hn362_2)|(show (Addr.add _ _).block ≠ _; rw [add_block]; exact hn362_2)|exact hn362_2) (.int .i64 ((rd_T35 t347 (ji50)).f2.f0))).trans hx362_3
                        replace hx362_4 := (cell_far (p := ⟨gb361, 2, none⟩) (by first|(rw [add_block]; exact hn362_2)|(show (Addr.add _ _).block ≠ _; rw [add_block]; exact hn362_2)|exact hn362_2) (.int .i64 ((rd_T35 t347 (ji50)).f2.f0))).trans hx362_4
                        replace hx362_5 := (cell_far (p := ⟨gb361, 2, none⟩) (by first|(rw [add_block]; exact hn362_2)|(show (Addr.add _ _).block ≠ _; rw [add_block]; exact hn362_2)|exact hn362_2) (.int .i64 ((rd_T35 t347 (ji50)).f2.f0))).trans hx362_5
                        replace hx362_0 := (cell_far (p := ⟨gb361, 3, none⟩) (by first|(rw [add_block]; exact hn362_3)|(show (Addr.add _ _).block ≠ _; rw [add_block]; exact hn362_3)|exact hn362_3) (.int .i64 ((rd_T35 t347 (ji50)).f2.f1))).trans hx362_0
                        replace hx362_1 := (cell_far (p := ⟨gb361, 3, none⟩) (by first|(rw [add_block]; exact hn362_3)|(show (Addr.add _ _).block ≠ _; rw [add_block]; exact hn362_3)|exact hn362_3) (.int .i64 ((rd_T35 t347 (ji50)).f2.f1))).trans hx362_1
                        replace hx362_2 := (cell_far (p := ⟨gb361, 3, none⟩) (by first|(rw [add_block]; exact hn362_3)|(show (Addr.add _ _).block ≠ _; rw [add_block]; exact hn362_3)|exact hn362_3) (.int .i64 ((rd_T35 t347 (ji50)).f2.f1))).trans hx362_2
                        replace hx362_3 := (cell_far (p := ⟨gb361, 3, none⟩) (by first|(rw [add_block]; exact hn362_3)|(show (Addr.add _ _).block ≠ _; rw [add_block]; exact hn362_3)|exact hn362_3) (.int .i64 ((rd_T35 t347 (ji50)).f2.f1))).trans hx362_3
                        replace hx362_4 := (cell_far (p := ⟨gb361, 3, none⟩) (by first|(rw [add_block]; exact hn362_3)|(show (Addr.add _ _).block ≠ _; rw [add_block]; exact hn362_3)|exact hn362_3) (.int .i64 ((rd_T35 t347 (ji50)).f2.f1))).trans hx362_4
                        replace hx362_5 := (cell_far (p := ⟨gb361, 3, none⟩) (by first|(rw [add_block]; exact hn362_3)|(show (Addr.add _ _).block ≠ _; rw [add_block]; exact hn362_3)|exact hn362_3) (.int .i64 ((rd_T35 t347 (ji50)).f2.f1))).trans hx362_5
                        replace hx362_0 := (cell_far (p := ⟨gb361, 4, none⟩) (by first|(rw [add_block]; exact hn362_4)|(show (Addr.add _ _).block ≠ _; rw [add_block]; exact hn362_4)|exact hn362_4) (.int .i64 ((rd_T35 t347 (ji50)).f2.f2))).trans hx362_0
                        replace hx362_1 := (cell_far (p := ⟨gb361, 4, none⟩) (by first|(rw [add_block]; exact hn362_4)|(show (Addr.add _ _).block ≠ _; rw [add_block]; exact hn362_4)|exact hn362_4) (.int .i64 ((rd_T35 t347 (ji50)).f2.f2))).trans hx362_1
                        replace hx362_2 := (cell_far (p := ⟨gb361, 4, none⟩) (by first|(rw [add_block]; exact hn362_4)|(show (Addr.add _ _).block ≠ _; rw [add_block]; exact hn362_4)|exact hn362_4) (.int .i64 ((rd_T35 t347 (ji50)).f2.f2))).trans hx362_2
                        replace hx362_3 := (cell_far (p := ⟨gb361, 4, none⟩) (by first|(rw [add_block]; exact hn362_4)|(show (Addr.add _ _).block ≠ _; rw [add_block]; exact hn362_4)|exact hn362_4) (.int .i64 ((rd_T35 t347 (ji50)).f2.f2))).trans hx362_3
                        replace hx362_4 := (cell_far (p := ⟨gb361, 4, none⟩) (by first|(rw [add_block]; exact hn362_4)|(show (Addr.add _ _).block ≠ _; rw [add_block]; exact hn362_4)|exact hn362_4) (.int .i64 ((rd_T35 t347 (ji50)).f2.f2))).trans hx362_4
                        replace hx362_5 := (cell_far (p := ⟨gb361, 4, none⟩) (by first|(rw [add_block]; exact hn362_4)|(show (Addr.add _ _).block ≠ _; rw [add_block]; exact hn362_4)|exact hn362_4) (.int .i64 ((rd_T35 t347 (ji50)).f2.f2))).trans hx362_5
                        replace hx362_0 := (cell_far (p := ⟨gb361, 5, none⟩) (by first|(rw [add_block]; exact hn362_5)|(show (Addr.add _ _).block ≠ _; rw [add_block]; exact hn362_5)|exact hn362_5) (.int .i64 ((rd_T35 t347 (ji50)).f3))).trans hx362_0
                        replace hx362_1 := (cell_far (p := ⟨gb361, 5, none⟩) (by first|(rw [add_block]; exact hn362_5)|(show (Addr.add _ _).block ≠ _; rw [add_block]; exact hn362_5)|exact hn362_5) (.int .i64 ((rd_T35 t347 (ji50)).f3))).trans hx362_1
                        replace hx362_2 := (cell_far (p := ⟨gb361, 5, none⟩) (by first|(rw [add_block]; exact hn362_5)|(show (Addr.add _ _).block ≠ _; rw [add_block]; exact hn362_5)|exact hn362_5) (.int .i64 ((rd_T35 t347 (ji50)).f3))).trans hx362_2
                        replace hx362_3 := (cell_far (p := ⟨gb361, 5, none⟩) (by first|(rw [add_block]; exact hn362_5)|(show (Addr.add _ _).block ≠ _; rw [add_block]; exact hn362_5)|exact hn362_5) (.int .i64 ((rd_T35 t347 (ji50)).f3))).trans hx362_3
                        replace hx362_4 := (cell_far (p := ⟨gb361, 5, none⟩) (by first|(rw [add_block]; exact hn362_5)|(show (Addr.add _ _).block ≠ _; rw [add_block]; exact hn362_5)|exact hn362_5) (.int .i64 ((rd_T35 t347 (ji50)).f3))).trans hx362_4
                        replace hx362_5 := (cell_far (p := ⟨gb361, 5, none⟩) (by first|(rw [add_block]; exact hn362_5)|(show (Addr.add _ _).block ≠ _; rw [add_block]; exact hn362_5)|exact hn362_5) (.int .i64 ((rd_T35 t347 (ji50)).f3))).trans hx362_5
                        clear hn362_0
                        clear hn362_1
                        clear hn362_2
                        clear hn362_3
                        clear hn362_4
                        clear hn362_5
                        replace p362 := eq_true p362
                        replace q362 := eq_true q362
                        have p363 : 0 ≤ (x16_3 : Int) := of_decide_eq_true (by first|(with_reducible assumption)|assumption)
                        have q363 : x16_3 < (t339.length : Int) := of_decide_eq_true (by first|(with_reducible assumption)|assumption)
                        obtain ⟨ad363, e363, hx363_0, hx363_1, hx363_2, hx363_3, hx363_4, hx363_5⟩ := at_T35 (Kd.R_reads' HO_9.out).2.2 x16_3 p363 q363
                        obtain rfl : ad362 = ad363 := (by injection e363)
                        have hn363_0 : ad362.block ≠ gb361 := Kd.own_blk (Kd.R_away HO_9.out (fun _ hk => hk.2))
                        have hn363_1 : ad362.block ≠ gb361 := Kd.own_blk (Kd.R_away HO_9.out (fun _ hk => hk.2))
                        have hn363_2 : ad362.block ≠ gb361 := Kd.own_blk (Kd.R_away HO_9.out (fun _ hk => hk.2))
                        have hn363_3 : ad362.block ≠ gb361 := Kd.own_blk (Kd.R_away HO_9.out (fun _ hk => hk.2))
                        have hn363_4 : ad362.block ≠ gb361 := Kd.own_blk (Kd.R_away HO_9.out (fun _ hk => hk.2))
                        have hn363_5 : ad362.block ≠ gb361 := Kd.own_blk (Kd.R_away HO_9.out (fun _ hk => hk.2))
                        replace hx363_0 := (cell_far (p := ⟨gb361, 0, none⟩) (by first|(rw [add_block]; exact hn363_0)|(show (Addr.add _ _).block ≠ _; rw [add_block]; exact hn363_0)|exact hn363_0) (.int .u8 ((rd_T35 t347 (ji50)).f0))).trans hx363_0
                        replace hx363_1 := (cell_far (p := ⟨gb361, 0, none⟩) (by first|(rw [add_block]; exact hn363_0)|(show (Addr.add _ _).block ≠ _; rw [add_block]; exact hn363_0)|exact hn363_0) (.int .u8 ((rd_T35 t347 (ji50)).f0))).trans hx363_1
                        replace hx363_2 := (cell_far (p := ⟨gb361, 0, none⟩) (by first|(rw [add_block]; exact hn363_0)|(show (Addr.add _ _).block ≠ _; rw [add_block]; exact hn363_0)|exact hn363_0) (.int .u8 ((rd_T35 t347 (ji50)).f0))).trans hx363_2
                        replace hx363_3 := (cell_far (p := ⟨gb361, 0, none⟩) (by first|(rw [add_block]; exact hn363_0)|(show (Addr.add _ _).block ≠ _; rw [add_block]; exact hn363_0)|exact hn363_0) (.int .u8 ((rd_T35 t347 (ji50)).f0))).trans hx363_3
                        replace hx363_4 := (cell_far (p := ⟨gb361, 0, none⟩) (by first|(rw [add_block]; exact hn363_0)|(show (Addr.add _ _).block ≠ _; rw [add_block]; exact hn363_0)|exact hn363_0) (.int .u8 ((rd_T35 t347 (ji50)).f0))).trans hx363_4
                        replace hx363_5 := (cell_far (p := ⟨gb361, 0, none⟩) (by first|(rw [add_block]; exact hn363_0)|(show (Addr.add _ _).block ≠ _; rw [add_block]; exact hn363_0)|exact hn363_0) (.int .u8 ((rd_T35 t347 (ji50)).f0))).trans hx363_5
                        replace hx363_0 := (cell_far (p := ⟨gb361, 1, none⟩) (by first|(rw [add_block]; exact hn363_1)|(show (Addr.add _ _).block ≠ _; rw [add_block]; exact hn363_1)|exact hn363_1) (.string ((rd_T35 t347 (ji50)).f1))).trans hx363_0
                        replace hx363_1 := (cell_far (p := ⟨gb361, 1, none⟩) (by first|(rw [add_block]; exact hn363_1)|(show (Addr.add _ _).block ≠ _; rw [add_block]; exact hn363_1)|exact hn363_1) (.string ((rd_T35 t347 (ji50)).f1))).trans hx363_1
                        replace hx363_2 := (cell_far (p := ⟨gb361, 1, none⟩) (by first|(rw [add_block]; exact hn363_1)|(show (Addr.add _ _).block ≠ _; rw [add_block]; exact hn363_1)|exact hn363_1) (.string ((rd_T35 t347 (ji50)).f1))).trans hx363_2
                        replace hx363_3 := (cell_far (p := ⟨gb361, 1, none⟩) (by first|(rw [add_block]; exact hn363_1)|(show (Addr.add _ _).block ≠ _; rw [add_block]; exact hn363_1)|exact hn363_1) (.string ((rd_T35 t347 (ji50)).f1))).trans hx363_3
                        replace hx363_4 := (cell_far (p := ⟨gb361, 1, none⟩) (by first|(rw [add_block]; exact hn363_1)|(show (Addr.add _ _).block ≠ _; rw [add_block]; exact hn363_1)|exact hn363_1) (.string ((rd_T35 t347 (ji50)).f1))).trans hx363_4
                        replace hx363_5 := (cell_far (p := ⟨gb361, 1, none⟩) (by first|(rw [add_block]; exact hn363_1)|(show (Addr.add _ _).block ≠ _; rw [add_block]; exact hn363_1)|exact hn363_1) (.string ((rd_T35 t347 (ji50)).f1))).trans hx363_5
                        replace hx363_0 := (cell_far (p := ⟨gb361, 2, none⟩) (by first|(rw [add_block]; exact hn363_2)|(show (Addr.add _ _).block ≠ _; rw [add_block]; exact hn363_2)|exact hn363_2) (.int .i64 ((rd_T35 t347 (ji50)).f2.f0))).trans hx363_0
                        replace hx363_1 := (cell_far (p := ⟨gb361, 2, none⟩) (by first|(rw [add_block]; exact hn363_2)|(show (Addr.add _ _).block ≠ _; rw [add_block]; exact hn363_2)|exact hn363_2) (.int .i64 ((rd_T35 t347 (ji50)).f2.f0))).trans hx363_1
                        replace hx363_2 := (cell_far (p := ⟨gb361, 2, none⟩) (by first|(rw [add_block]; exact hn363_2)|(show (Addr.add _ _).block ≠ _; rw [add_block]; exact hn363_2)|exact hn363_2) (.int .i64 ((rd_T35 t347 (ji50)).f2.f0))).trans hx363_2
                        replace hx363_3 := (cell_far (p := ⟨gb361, 2, none⟩) (by first|(rw [add_block]; exact hn363_2)|(show (Addr.add _ _).block ≠ _; rw [add_block]; exact hn363_2)|exact hn363_2) (.int .i64 ((rd_T35 t347 (ji50)).f2.f0))).trans hx363_3
                        replace hx363_4 := (cell_far (p := ⟨gb361, 2, none⟩) (by first|(rw [add_block]; exact hn363_2)|(show (Addr.add _ _).block ≠ _; rw [add_block]; exact hn363_2)|exact hn363_2) (.int .i64 ((rd_T35 t347 (ji50)).f2.f0))).trans hx363_4
                        replace hx363_5 := (cell_far (p := ⟨gb361, 2, none⟩) (by first|(rw [add_block]; exact hn363_2)|(show (Addr.add _ _).block ≠ _; rw [add_block]; exact hn363_2)|exact hn363_2) (.int .i64 ((rd_T35 t347 (ji50)).f2.f0))).trans hx363_5
                        replace hx363_0 := (cell_far (p := ⟨gb361, 3, none⟩) (by first|(rw [add_block]; exact hn363_3)|(show (Addr.add _ _).block ≠ _; rw [add_block]; exact hn363_3)|exact hn363_3) (.int .i64 ((rd_T35 t347 (ji50)).f2.f1))).trans hx363_0
                        replace hx363_1 := (cell_far (p := ⟨gb361, 3, none⟩) (by first|(rw [add_block]; exact hn363_3)|(show (Addr.add _ _).block ≠ _; rw [add_block]; exact hn363_3)|exact hn363_3) (.int .i64 ((rd_T35 t347 (ji50)).f2.f1))).trans hx363_1
                        replace hx363_2 := (cell_far (p := ⟨gb361, 3, none⟩) (by first|(rw [add_block]; exact hn363_3)|(show (Addr.add _ _).block ≠ _; rw [add_block]; exact hn363_3)|exact hn363_3) (.int .i64 ((rd_T35 t347 (ji50)).f2.f1))).trans hx363_2
                        replace hx363_3 := (cell_far (p := ⟨gb361, 3, none⟩) (by first|(rw [add_block]; exact hn363_3)|(show (Addr.add _ _).block ≠ _; rw [add_block]; exact hn363_3)|exact hn363_3) (.int .i64 ((rd_T35 t347 (ji50)).f2.f1))).trans hx363_3
                        replace hx363_4 := (cell_far (p := ⟨gb361, 3, none⟩) (by first|(rw [add_block]; exact hn363_3)|(show (Addr.add _ _).block ≠ _; rw [add_block]; exact hn363_3)|exact hn363_3) (.int .i64 ((rd_T35 t347 (ji50)).f2.f1))).trans hx363_4
                        replace hx363_5 := (cell_far (p := ⟨gb361, 3, none⟩) (by first|(rw [add_block]; exact hn363_3)|(show (Addr.add _ _).block ≠ _; rw [add_block]; exact hn363_3)|exact hn363_3) (.int .i64 ((rd_T35 t347 (ji50)).f2.f1))).trans hx363_5
                        replace hx363_0 := (cell_far (p := ⟨gb361, 4, none⟩) (by first|(rw [add_block]; exact hn363_4)|(show (Addr.add _ _).block ≠ _; rw [add_block]; exact hn363_4)|exact hn363_4) (.int .i64 ((rd_T35 t347 (ji50)).f2.f2))).trans hx363_0
                        replace hx363_1 := (cell_far (p := ⟨gb361, 4, none⟩) (by first|(rw [add_block]; exact hn363_4)|(show (Addr.add _ _).block ≠ _; rw [add_block]; exact hn363_4)|exact hn363_4) (.int .i64 ((rd_T35 t347 (ji50)).f2.f2))).trans hx363_1
                        replace hx363_2 := (cell_far (p := ⟨gb361, 4, none⟩) (by first|(rw [add_block]; exact hn363_4)|(show (Addr.add _ _).block ≠ _; rw [add_block]; exact hn363_4)|exact hn363_4) (.int .i64 ((rd_T35 t347 (ji50)).f2.f2))).trans hx363_2
                        replace hx363_3 := (cell_far (p := ⟨gb361, 4, none⟩) (by first|(rw [add_block]; exact hn363_4)|(show (Addr.add _ _).block ≠ _; rw [add_block]; exact hn363_4)|exact hn363_4) (.int .i64 ((rd_T35 t347 (ji50)).f2.f2))).trans hx363_3
                        replace hx363_4 := (cell_far (p := ⟨gb361, 4, none⟩) (by first|(rw [add_block]; exact hn363_4)|(show (Addr.add _ _).block ≠ _; rw [add_block]; exact hn363_4)|exact hn363_4) (.int .i64 ((rd_T35 t347 (ji50)).f2.f2))).trans hx363_4
                        replace hx363_5 := (cell_far (p := ⟨gb361, 4, none⟩) (by first|(rw [add_block]; exact hn363_4)|(show (Addr.add _ _).block ≠ _; rw [add_block]; exact hn363_4)|exact hn363_4) (.int .i64 ((rd_T35 t347 (ji50)).f2.f2))).trans hx363_5
                        replace hx363_0 := (cell_far (p := ⟨gb361, 5, none⟩) (by first|(rw [add_block]; exact hn363_5)|(show (Addr.add _ _).block ≠ _; rw [add_block]; exact hn363_5)|exact hn363_5) (.int .i64 ((rd_T35 t347 (ji50)).f3))).trans hx363_0
                        replace hx363_1 := (cell_far (p := ⟨gb361, 5, none⟩) (by first|(rw [add_block]; exact hn363_5)|(show (Addr.add _ _).block ≠ _; rw [add_block]; exact hn363_5)|exact hn363_5) (.int .i64 ((rd_T35 t347 (ji50)).f3))).trans hx363_1
                        replace hx363_2 := (cell_far (p := ⟨gb361, 5, none⟩) (by first|(rw [add_block]; exact hn363_5)|(show (Addr.add _ _).block ≠ _; rw [add_block]; exact hn363_5)|exact hn363_5) (.int .i64 ((rd_T35 t347 (ji50)).f3))).trans hx363_2
                        replace hx363_3 := (cell_far (p := ⟨gb361, 5, none⟩) (by first|(rw [add_block]; exact hn363_5)|(show (Addr.add _ _).block ≠ _; rw [add_block]; exact hn363_5)|exact hn363_5) (.int .i64 ((rd_T35 t347 (ji50)).f3))).trans hx363_3
                        replace hx363_4 := (cell_far (p := ⟨gb361, 5, none⟩) (by first|(rw [add_block]; exact hn363_5)|(show (Addr.add _ _).block ≠ _; rw [add_block]; exact hn363_5)|exact hn363_5) (.int .i64 ((rd_T35 t347 (ji50)).f3))).trans hx363_4
                        replace hx363_5 := (cell_far (p := ⟨gb361, 5, none⟩) (by first|(rw [add_block]; exact hn363_5)|(show (Addr.add _ _).block ≠ _; rw [add_block]; exact hn363_5)|exact hn363_5) (.int .i64 ((rd_T35 t347 (ji50)).f3))).trans hx363_5
                        clear hn363_0
                        clear hn363_1
                        clear hn363_2
                        clear hn363_3
                        clear hn363_4
                        clear hn363_5
                        replace p363 := eq_true p363
                        replace q363 := eq_true q363
                        have p364 : 0 ≤ (x16_3 : Int) := of_decide_eq_true (by first|(with_reducible assumption)|assumption)
                        have q364 : x16_3 < (t339.length : Int) := of_decide_eq_true (by first|(with_reducible assumption)|assumption)
                        obtain ⟨ad364, e364, hx364_0, hx364_1, hx364_2, hx364_3, hx364_4, hx364_5⟩ := at_T35 (Kd.R_reads' HO_9.out).2.2 x16_3 p364 q364
                        obtain rfl : ad362 = ad364 := (by injection e364)
                        have hn364_0 : ad362.block ≠ gb361 := Kd.own_blk (Kd.R_away HO_9.out (fun _ hk => hk.2))
                        have hn364_1 : ad362.block ≠ gb361 := Kd.own_blk (Kd.R_away HO_9.out (fun _ hk => hk.2))
                        have hn364_2 : ad362.block ≠ gb361 := Kd.own_blk (Kd.R_away HO_9.out (fun _ hk => hk.2))
                        have hn364_3 : ad362.block ≠ gb361 := Kd.own_blk (Kd.R_away HO_9.out (fun _ hk => hk.2))
                        have hn364_4 : ad362.block ≠ gb361 := Kd.own_blk (Kd.R_away HO_9.out (fun _ hk => hk.2))
                        have hn364_5 : ad362.block ≠ gb361 := Kd.own_blk (Kd.R_away HO_9.out (fun _ hk => hk.2))
                        replace hx364_0 := (cell_far (p := ⟨gb361, 0, none⟩) (by first|(rw [add_block]; exact hn364_0)|(show (Addr.add _ _).block ≠ _; rw [add_block]; exact hn364_0)|exact hn364_0) (.int .u8 ((rd_T35 t347 (ji50)).f0))).trans hx364_0
                        replace hx364_1 := (cell_far (p := ⟨gb361, 0, none⟩) (by first|(rw [add_block]; exact hn364_0)|(show (Addr.add _ _).block ≠ _; rw [add_block]; exact hn364_0)|exact hn364_0) (.int .u8 ((rd_T35 t347 (ji50)).f0))).trans hx364_1
                        replace hx364_2 := (cell_far (p := ⟨gb361, 0, none⟩) (by first|(rw [add_block]; exact hn364_0)|(show (Addr.add _ _).block ≠ _; rw [add_block]; exact hn364_0)|exact hn364_0) (.int .u8 ((rd_T35 t347 (ji50)).f0))).trans hx364_2
                        replace hx364_3 := (cell_far (p := ⟨gb361, 0, none⟩) (by first|(rw [add_block]; exact hn364_0)|(show (Addr.add _ _).block ≠ _; rw [add_block]; exact hn364_0)|exact hn364_0) (.int .u8 ((rd_T35 t347 (ji50)).f0))).trans hx364_3
                        replace hx364_4 := (cell_far (p := ⟨gb361, 0, none⟩) (by first|(rw [add_block]; exact hn364_0)|(show (Addr.add _ _).block ≠ _; rw [add_block]; exact hn364_0)|exact hn364_0) (.int .u8 ((rd_T35 t347 (ji50)).f0))).trans hx364_4
                        replace hx364_5 := (cell_far (p := ⟨gb361, 0, none⟩) (by first|(rw [add_block]; exact hn364_0)|(show (Addr.add _ _).block ≠ _; rw [add_block]; exact hn364_0)|exact hn364_0) (.int .u8 ((rd_T35 t347 (ji50)).f0))).trans hx364_5
                        replace hx364_0 := (cell_far (p := ⟨gb361, 1, none⟩) (by first|(rw [add_block]; exact hn364_1)|(show (Addr.add _ _).block ≠ _; rw [add_block]; exact hn364_1)|exact hn364_1) (.string ((rd_T35 t347 (ji50)).f1))).trans hx364_0
                        replace hx364_1 := (cell_far (p := ⟨gb361, 1, none⟩) (by first|(rw [add_block]; exact hn364_1)|(show (Addr.add _ _).block ≠ _; rw [add_block]; exact hn364_1)|exact hn364_1) (.string ((rd_T35 t347 (ji50)).f1))).trans hx364_1
                        replace hx364_2 := (cell_far (p := ⟨gb361, 1, none⟩) (by first|(rw [add_block]; exact hn364_1)|(show (Addr.add _ _).block ≠ _; rw [add_block]; exact hn364_1)|exact hn364_1) (.string ((rd_T35 t347 (ji50)).f1))).trans hx364_2
                        replace hx364_3 := (cell_far (p := ⟨gb361, 1, none⟩) (by first|(rw [add_block]; exact hn364_1)|(show (Addr.add _ _).block ≠ _; rw [add_block]; exact hn364_1)|exact hn364_1) (.string ((rd_T35 t347 (ji50)).f1))).trans hx364_3
                        replace hx364_4 := (cell_far (p := ⟨gb361, 1, none⟩) (by first|(rw [add_block]; exact hn364_1)|(show (Addr.add _ _).block ≠ _; rw [add_block]; exact hn364_1)|exact hn364_1) (.string ((rd_T35 t347 (ji50)).f1))).trans hx364_4
                        replace hx364_5 := (cell_far (p := ⟨gb361, 1, none⟩) (by first|(rw [add_block]; exact hn364_1)|(show (Addr.add _ _).block ≠ _; rw [add_block]; exact hn364_1)|exact hn364_1) (.string ((rd_T35 t347 (ji50)).f1))).trans hx364_5
                        replace hx364_0 := (cell_far (p := ⟨gb361, 2, none⟩) (by first|(rw [add_block]; exact hn364_2)|(show (Addr.add _ _).block ≠ _; rw [add_block]; exact hn364_2)|exact hn364_2) (.int .i64 ((rd_T35 t347 (ji50)).f2.f0))).trans hx364_0
                        replace hx364_1 := (cell_far (p := ⟨gb361, 2, none⟩) (by first|(rw [add_block]; exact hn364_2)|(show (Addr.add _ _).block ≠ _; rw [add_block]; exact hn364_2)|exact hn364_2) (.int .i64 ((rd_T35 t347 (ji50)).f2.f0))).trans hx364_1
                        replace hx364_2 := (cell_far (p := ⟨gb361, 2, none⟩) (by first|(rw [add_block]; exact hn364_2)|(show (Addr.add _ _).block ≠ _; rw [add_block]; exact hn364_2)|exact hn364_2) (.int .i64 ((rd_T35 t347 (ji50)).f2.f0))).trans hx364_2
                        replace hx364_3 := (cell_far (p := ⟨gb361, 2, none⟩) (by first|(rw [add_block]; exact hn364_2)|(show (Addr.add _ _).block ≠ _; rw [add_block]; exact hn364_2)|exact hn364_2) (.int .i64 ((rd_T35 t347 (ji50)).f2.f0))).trans hx364_3
                        replace hx364_4 := (cell_far (p := ⟨gb361, 2, none⟩) (by first|(rw [add_block]; exact hn364_2)|(show (Addr.add _ _).block ≠ _; rw [add_block]; exact hn364_2)|exact hn364_2) (.int .i64 ((rd_T35 t347 (ji50)).f2.f0))).trans hx364_4
                        replace hx364_5 := (cell_far (p := ⟨gb361, 2, none⟩) (by first|(rw [add_block]; exact hn364_2)|(show (Addr.add _ _).block ≠ _; rw [add_block]; exact hn364_2)|exact hn364_2) (.int .i64 ((rd_T35 t347 (ji50)).f2.f0))).trans hx364_5
                        replace hx364_0 := (cell_far (p := ⟨gb361, 3, none⟩) (by first|(rw [add_block]; exact hn364_3)|(show (Addr.add _ _).block ≠ _; rw [add_block]; exact hn364_3)|exact hn364_3) (.int .i64 ((rd_T35 t347 (ji50)).f2.f1))).trans hx364_0
                        replace hx364_1 := (cell_far (p := ⟨gb361, 3, none⟩) (by first|(rw [add_block]; exact hn364_3)|(show (Addr.add _ _).block ≠ _; rw [add_block]; exact hn364_3)|exact hn364_3) (.int .i64 ((rd_T35 t347 (ji50)).f2.f1))).trans hx364_1
                        replace hx364_2 := (cell_far (p := ⟨gb361, 3, none⟩) (by first|(rw [add_block]; exact hn364_3)|(show (Addr.add _ _).block ≠ _; rw [add_block]; exact hn364_3)|exact hn364_3) (.int .i64 ((rd_T35 t347 (ji50)).f2.f1))).trans hx364_2
                        replace hx364_3 := (cell_far (p := ⟨gb361, 3, none⟩) (by first|(rw [add_block]; exact hn364_3)|(show (Addr.add _ _).block ≠ _; rw [add_block]; exact hn364_3)|exact hn364_3) (.int .i64 ((rd_T35 t347 (ji50)).f2.f1))).trans hx364_3
                        replace hx364_4 := (cell_far (p := ⟨gb361, 3, none⟩) (by first|(rw [add_block]; exact hn364_3)|(show (Addr.add _ _).block ≠ _; rw [add_block]; exact hn364_3)|exact hn364_3) (.int .i64 ((rd_T35 t347 (ji50)).f2.f1))).trans hx364_4
                        replace hx364_5 := (cell_far (p := ⟨gb361, 3, none⟩) (by first|(rw [add_block]; exact hn364_3)|(show (Addr.add _ _).block ≠ _; rw [add_block]; exact hn364_3)|exact hn364_3) (.int .i64 ((rd_T35 t347 (ji50)).f2.f1))).trans hx364_5
                        replace hx364_0 := (cell_far (p := ⟨gb361, 4, none⟩) (by first|(rw [add_block]; exact hn364_4)|(show (Addr.add _ _).block ≠ _; rw [add_block]; exact hn364_4)|exact hn364_4) (.int .i64 ((rd_T35 t347 (ji50)).f2.f2))).trans hx364_0
                        replace hx364_1 := (cell_far (p := ⟨gb361, 4, none⟩) (by first|(rw [add_block]; exact hn364_4)|(show (Addr.add _ _).block ≠ _; rw [add_block]; exact hn364_4)|exact hn364_4) (.int .i64 ((rd_T35 t347 (ji50)).f2.f2))).trans hx364_1
                        replace hx364_2 := (cell_far (p := ⟨gb361, 4, none⟩) (by first|(rw [add_block]; exact hn364_4)|(show (Addr.add _ _).block ≠ _; rw [add_block]; exact hn364_4)|exact hn364_4) (.int .i64 ((rd_T35 t347 (ji50)).f2.f2))).trans hx364_2
                        replace hx364_3 := (cell_far (p := ⟨gb361, 4, none⟩) (by first|(rw [add_block]; exact hn364_4)|(show (Addr.add _ _).block ≠ _; rw [add_block]; exact hn364_4)|exact hn364_4) (.int .i64 ((rd_T35 t347 (ji50)).f2.f2))).trans hx364_3
                        replace hx364_4 := (cell_far (p := ⟨gb361, 4, none⟩) (by first|(rw [add_block]; exact hn364_4)|(show (Addr.add _ _).block ≠ _; rw [add_block]; exact hn364_4)|exact hn364_4) (.int .i64 ((rd_T35 t347 (ji50)).f2.f2))).trans hx364_4
                        replace hx364_5 := (cell_far (p := ⟨gb361, 4, none⟩) (by first|(rw [add_block]; exact hn364_4)|(show (Addr.add _ _).block ≠ _; rw [add_block]; exact hn364_4)|exact hn364_4) (.int .i64 ((rd_T35 t347 (ji50)).f2.f2))).trans hx364_5
                        replace hx364_0 := (cell_far (p := ⟨gb361, 5, none⟩) (by first|(rw [add_block]; exact hn364_5)|(show (Addr.add _ _).block ≠ _; rw [add_block]; exact hn364_5)|exact hn364_5) (.int .i64 ((rd_T35 t347 (ji50)).f3))).trans hx364_0
                        replace hx364_1 := (cell_far (p := ⟨gb361, 5, none⟩) (by first|(rw [add_block]; exact hn364_5)|(show (Addr.add _ _).block ≠ _; rw [add_block]; exact hn364_5)|exact hn364_5) (.int .i64 ((rd_T35 t347 (ji50)).f3))).trans hx364_1
                        replace hx364_2 := (cell_far (p := ⟨gb361, 5, none⟩) (by first|(rw [add_block]; exact hn364_5)|(show (Addr.add _ _).block ≠ _; rw [add_block]; exact hn364_5)|exact hn364_5) (.int .i64 ((rd_T35 t347 (ji50)).f3))).trans hx364_2
                        replace hx364_3 := (cell_far (p := ⟨gb361, 5, none⟩) (by first|(rw [add_block]; exact hn364_5)|(show (Addr.add _ _).block ≠ _; rw [add_block]; exact hn364_5)|exact hn364_5) (.int .i64 ((rd_T35 t347 (ji50)).f3))).trans hx364_3
                        replace hx364_4 := (cell_far (p := ⟨gb361, 5, none⟩) (by first|(rw [add_block]; exact hn364_5)|(show (Addr.add _ _).block ≠ _; rw [add_block]; exact hn364_5)|exact hn364_5) (.int .i64 ((rd_T35 t347 (ji50)).f3))).trans hx364_4
                        replace hx364_5 := (cell_far (p := ⟨gb361, 5, none⟩) (by first|(rw [add_block]; exact hn364_5)|(show (Addr.add _ _).block ≠ _; rw [add_block]; exact hn364_5)|exact hn364_5) (.int .i64 ((rd_T35 t347 (ji50)).f3))).trans hx364_5
                        clear hn364_0
                        clear hn364_1
                        clear hn364_2
                        clear hn364_3
                        clear hn364_4
                        clear hn364_5
                        replace p364 := eq_true p364
                        replace q364 := eq_true q364
                        have p365 : 0 ≤ (x16_3 : Int) := of_decide_eq_true (by first|(with_reducible assumption)|assumption)
                        have q365 : x16_3 < (t339.length : Int) := of_decide_eq_true (by first|(with_reducible assumption)|assumption)
                        obtain ⟨ad365, e365, hx365_0, hx365_1, hx365_2, hx365_3, hx365_4, hx365_5⟩ := at_T35 (Kd.R_reads' HO_9.out).2.2 x16_3 p365 q365
                        obtain rfl : ad362 = ad365 := (by injection e365)
                        have hn365_0 : ad362.block ≠ gb361 := Kd.own_blk (Kd.R_away HO_9.out (fun _ hk => hk.2))
                        have hn365_1 : ad362.block ≠ gb361 := Kd.own_blk (Kd.R_away HO_9.out (fun _ hk => hk.2))
                        have hn365_2 : ad362.block ≠ gb361 := Kd.own_blk (Kd.R_away HO_9.out (fun _ hk => hk.2))
                        have hn365_3 : ad362.block ≠ gb361 := Kd.own_blk (Kd.R_away HO_9.out (fun _ hk => hk.2))
                        have hn365_4 : ad362.block ≠ gb361 := Kd.own_blk (Kd.R_away HO_9.out (fun _ hk => hk.2))
                        have hn365_5 : ad362.block ≠ gb361 := Kd.own_blk (Kd.R_away HO_9.out (fun _ hk => hk.2))
                        replace hx365_0 := (cell_far (p := ⟨gb361, 0, none⟩) (by first|(rw [add_block]; exact hn365_0)|(show (Addr.add _ _).block ≠ _; rw [add_block]; exact hn365_0)|exact hn365_0) (.int .u8 ((rd_T35 t347 (ji50)).f0))).trans hx365_0
                        replace hx365_1 := (cell_far (p := ⟨gb361, 0, none⟩) (by first|(rw [add_block]; exact hn365_0)|(show (Addr.add _ _).block ≠ _; rw [add_block]; exact hn365_0)|exact hn365_0) (.int .u8 ((rd_T35 t347 (ji50)).f0))).trans hx365_1
                        replace hx365_2 := (cell_far (p := ⟨gb361, 0, none⟩) (by first|(rw [add_block]; exact hn365_0)|(show (Addr.add _ _).block ≠ _; rw [add_block]; exact hn365_0)|exact hn365_0) (.int .u8 ((rd_T35 t347 (ji50)).f0))).trans hx365_2
                        replace hx365_3 := (cell_far (p := ⟨gb361, 0, none⟩) (by first|(rw [add_block]; exact hn365_0)|(show (Addr.add _ _).block ≠ _; rw [add_block]; exact hn365_0)|exact hn365_0) (.int .u8 ((rd_T35 t347 (ji50)).f0))).trans hx365_3
                        replace hx365_4 := (cell_far (p := ⟨gb361, 0, none⟩) (by first|(rw [add_block]; exact hn365_0)|(show (Addr.add _ _).block ≠ _; rw [add_block]; exact hn365_0)|exact hn365_0) (.int .u8 ((rd_T35 t347 (ji50)).f0))).trans hx365_4
                        replace hx365_5 := (cell_far (p := ⟨gb361, 0, none⟩) (by first|(rw [add_block]; exact hn365_0)|(show (Addr.add _ _).block ≠ _; rw [add_block]; exact hn365_0)|exact hn365_0) (.int .u8 ((rd_T35 t347 (ji50)).f0))).trans hx365_5
                        replace hx365_0 := (cell_far (p := ⟨gb361, 1, none⟩) (by first|(rw [add_block]; exact hn365_1)|(show (Addr.add _ _).block ≠ _; rw [add_block]; exact hn365_1)|exact hn365_1) (.string ((rd_T35 t347 (ji50)).f1))).trans hx365_0
                        replace hx365_1 := (cell_far (p := ⟨gb361, 1, none⟩) (by first|(rw [add_block]; exact hn365_1)|(show (Addr.add _ _).block ≠ _; rw [add_block]; exact hn365_1)|exact hn365_1) (.string ((rd_T35 t347 (ji50)).f1))).trans hx365_1
                        replace hx365_2 := (cell_far (p := ⟨gb361, 1, none⟩) (by first|(rw [add_block]; exact hn365_1)|(show (Addr.add _ _).block ≠ _; rw [add_block]; exact hn365_1)|exact hn365_1) (.string ((rd_T35 t347 (ji50)).f1))).trans hx365_2
                        replace hx365_3 := (cell_far (p := ⟨gb361, 1, none⟩) (by first|(rw [add_block]; exact hn365_1)|(show (Addr.add _ _).block ≠ _; rw [add_block]; exact hn365_1)|exact hn365_1) (.string ((rd_T35 t347 (ji50)).f1))).trans hx365_3
                        replace hx365_4 := (cell_far (p := ⟨gb361, 1, none⟩) (by first|(rw [add_block]; exact hn365_1)|(show (Addr.add _ _).block ≠ _; rw [add_block]; exact hn365_1)|exact hn365_1) (.string ((rd_T35 t347 (ji50)).f1))).trans hx365_4
                        replace hx365_5 := (cell_far (p := ⟨gb361, 1, none⟩) (by first|(rw [add_block]; exact hn365_1)|(show (Addr.add _ _).block ≠ _; rw [add_block]; exact hn365_1)|exact hn365_1) (.string ((rd_T35 t347 (ji50)).f1))).trans hx365_5
                        replace hx365_0 := (cell_far (p := ⟨gb361, 2, none⟩) (by first|(rw [add_block]; exact hn365_2)|(show (Addr.add _ _).block ≠ _; rw [add_block]; exact hn365_2)|exact hn365_2) (.int .i64 ((rd_T35 t347 (ji50)).f2.f0))).trans hx365_0
                        replace hx365_1 := (cell_far (p := ⟨gb361, 2, none⟩) (by first|(rw [add_block]; exact hn365_2)|(show (Addr.add _ _).block ≠ _; rw [add_block]; exact hn365_2)|exact hn365_2) (.int .i64 ((rd_T35 t347 (ji50)).f2.f0))).trans hx365_1
                        replace hx365_2 := (cell_far (p := ⟨gb361, 2, none⟩) (by first|(rw [add_block]; exact hn365_2)|(show (Addr.add _ _).block ≠ _; rw [add_block]; exact hn365_2)|exact hn365_2) (.int .i64 ((rd_T35 t347 (ji50)).f2.f0))).trans hx365_2
                        replace hx365_3 := (cell_far (p := ⟨gb361, 2, none⟩) (by first|(rw [add_block]; exact hn365_2)|(show (Addr.add _ _).block ≠ _; rw [add_block]; exact hn365_2)|exact hn365_2) (.int .i64 ((rd_T35 t347 (ji50)).f2.f0))).trans hx365_3
                        replace hx365_4 := (cell_far (p := ⟨gb361, 2, none⟩) (by first|(rw [add_block]; exact hn365_2)|(show (Addr.add _ _).block ≠ _; rw [add_block]; exact hn365_2)|exact hn365_2) (.int .i64 ((rd_T35 t347 (ji50)).f2.f0))).trans hx365_4
                        replace hx365_5 := (cell_far (p := ⟨gb361, 2, none⟩) (by first|(rw [add_block]; exact hn365_2)|(show (Addr.add _ _).block ≠ _; rw [add_block]; exact hn365_2)|exact hn365_2) (.int .i64 ((rd_T35 t347 (ji50)).f2.f0))).trans hx365_5
                        replace hx365_0 := (cell_far (p := ⟨gb361, 3, none⟩) (by first|(rw [add_block]; exact hn365_3)|(show (Addr.add _ _).block ≠ _; rw [add_block]; exact hn365_3)|exact hn365_3) (.int .i64 ((rd_T35 t347 (ji50)).f2.f1))).trans hx365_0
                        replace hx365_1 := (cell_far (p := ⟨gb361, 3, none⟩) (by first|(rw [add_block]; exact hn365_3)|(show (Addr.add _ _).block ≠ _; rw [add_block]; exact hn365_3)|exact hn365_3) (.int .i64 ((rd_T35 t347 (ji50)).f2.f1))).trans hx365_1
                        replace hx365_2 := (cell_far (p := ⟨gb361, 3, none⟩) (by first|(rw [add_block]; exact hn365_3)|(show (Addr.add _ _).block ≠ _; rw [add_block]; exact hn365_3)|exact hn365_3) (.int .i64 ((rd_T35 t347 (ji50)).f2.f1))).trans hx365_2
                        replace hx365_3 := (cell_far (p := ⟨gb361, 3, none⟩) (by first|(rw [add_block]; exact hn365_3)|(show (Addr.add _ _).block ≠ _; rw [add_block]; exact hn365_3)|exact hn365_3) (.int .i64 ((rd_T35 t347 (ji50)).f2.f1))).trans hx365_3
                        replace hx365_4 := (cell_far (p := ⟨gb361, 3, none⟩) (by first|(rw [add_block]; exact hn365_3)|(show (Addr.add _ _).block ≠ _; rw [add_block]; exact hn365_3)|exact hn365_3) (.int .i64 ((rd_T35 t347 (ji50)).f2.f1))).trans hx365_4
                        replace hx365_5 := (cell_far (p := ⟨gb361, 3, none⟩) (by first|(rw [add_block]; exact hn365_3)|(show (Addr.add _ _).block ≠ _; rw [add_block]; exact hn365_3)|exact hn365_3) (.int .i64 ((rd_T35 t347 (ji50)).f2.f1))).trans hx365_5
                        replace hx365_0 := (cell_far (p := ⟨gb361, 4, none⟩) (by first|(rw [add_block]; exact hn365_4)|(show (Addr.add _ _).block ≠ _; rw [add_block]; exact hn365_4)|exact hn365_4) (.int .i64 ((rd_T35 t347 (ji50)).f2.f2))).trans hx365_0
                        replace hx365_1 := (cell_far (p := ⟨gb361, 4, none⟩) (by first|(rw [add_block]; exact hn365_4)|(show (Addr.add _ _).block ≠ _; rw [add_block]; exact hn365_4)|exact hn365_4) (.int .i64 ((rd_T35 t347 (ji50)).f2.f2))).trans hx365_1
                        replace hx365_2 := (cell_far (p := ⟨gb361, 4, none⟩) (by first|(rw [add_block]; exact hn365_4)|(show (Addr.add _ _).block ≠ _; rw [add_block]; exact hn365_4)|exact hn365_4) (.int .i64 ((rd_T35 t347 (ji50)).f2.f2))).trans hx365_2
                        replace hx365_3 := (cell_far (p := ⟨gb361, 4, none⟩) (by first|(rw [add_block]; exact hn365_4)|(show (Addr.add _ _).block ≠ _; rw [add_block]; exact hn365_4)|exact hn365_4) (.int .i64 ((rd_T35 t347 (ji50)).f2.f2))).trans hx365_3
                        replace hx365_4 := (cell_far (p := ⟨gb361, 4, none⟩) (by first|(rw [add_block]; exact hn365_4)|(show (Addr.add _ _).block ≠ _; rw [add_block]; exact hn365_4)|exact hn365_4) (.int .i64 ((rd_T35 t347 (ji50)).f2.f2))).trans hx365_4
                        replace hx365_5 := (cell_far (p := ⟨gb361, 4, none⟩) (by first|(rw [add_block]; exact hn365_4)|(show (Addr.add _ _).block ≠ _; rw [add_block]; exact hn365_4)|exact hn365_4) (.int .i64 ((rd_T35 t347 (ji50)).f2.f2))).trans hx365_5
                        replace hx365_0 := (cell_far (p := ⟨gb361, 5, none⟩) (by first|(rw [add_block]; exact hn365_5)|(show (Addr.add _ _).block ≠ _; rw [add_block]; exact hn365_5)|exact hn365_5) (.int .i64 ((rd_T35 t347 (ji50)).f3))).trans hx365_0
                        replace hx365_1 := (cell_far (p := ⟨gb361, 5, none⟩) (by first|(rw [add_block]; exact hn365_5)|(show (Addr.add _ _).block ≠ _; rw [add_block]; exact hn365_5)|exact hn365_5) (.int .i64 ((rd_T35 t347 (ji50)).f3))).trans hx365_1
                        replace hx365_2 := (cell_far (p := ⟨gb361, 5, none⟩) (by first|(rw [add_block]; exact hn365_5)|(show (Addr.add _ _).block ≠ _; rw [add_block]; exact hn365_5)|exact hn365_5) (.int .i64 ((rd_T35 t347 (ji50)).f3))).trans hx365_2
                        replace hx365_3 := (cell_far (p := ⟨gb361, 5, none⟩) (by first|(rw [add_block]; exact hn365_5)|(show (Addr.add _ _).block ≠ _; rw [add_block]; exact hn365_5)|exact hn365_5) (.int .i64 ((rd_T35 t347 (ji50)).f3))).trans hx365_3
                        replace hx365_4 := (cell_far (p := ⟨gb361, 5, none⟩) (by first|(rw [add_block]; exact hn365_5)|(show (Addr.add _ _).block ≠ _; rw [add_block]; exact hn365_5)|exact hn365_5) (.int .i64 ((rd_T35 t347 (ji50)).f3))).trans hx365_4
                        replace hx365_5 := (cell_far (p := ⟨gb361, 5, none⟩) (by first|(rw [add_block]; exact hn365_5)|(show (Addr.add _ _).block ≠ _; rw [add_block]; exact hn365_5)|exact hn365_5) (.int .i64 ((rd_T35 t347 (ji50)).f3))).trans hx365_5
                        clear hn365_0
                        clear hn365_1
                        clear hn365_2
                        clear hn365_3
                        clear hn365_4
                        clear hn365_5
                        replace p365 := eq_true p365
                        replace q365 := eq_true q365
                        go_wp2
                        repeat (go_quiet (fail); try go_wp2)
                        go_meet
                        case rel => exact ⟨_,(false),(by first|rfl|(simp;done)|(simp [*];done)),H',⟨by have:=HJ3.out;have:=HJ14.out;have:=HK3.out;first|omega|exact Nat.le_refl _⟩,⟨by (with_reducible repeat (first|apply Kd.R_alloc|apply Kd.R_drewN|apply Kd.R_drew));exact Kd.R_mono (Kd.R_far (p:=⟨gb361,5,none⟩) (Kd.R_far (p:=⟨gb361,4,none⟩) (Kd.R_far (p:=⟨gb361,3,none⟩) (Kd.R_far (p:=⟨gb361,2,none⟩) (Kd.R_far (p:=⟨gb361,1,none⟩) (Kd.R_far (p:=⟨gb361,0,none⟩) (Kd.R_mono HO_6.out (fun k_ hk => (⟨hk,hk.2⟩ : _ ∧ k_ ≠ gb361))) (fun _ hk => hk.2) (.int .u8 ((rd_T35 t347 (ji50)).f0))) (fun _ hk => hk.2) (.string ((rd_T35 t347 (ji50)).f1))) (fun _ hk => hk.2) (.int .i64 ((rd_T35 t347 (ji50)).f2.f0))) (fun _ hk => hk.2) (.int .i64 ((rd_T35 t347 (ji50)).f2.f1))) (fun _ hk => hk.2) (.int .i64 ((rd_T35 t347 (ji50)).f2.f2))) (fun _ hk => hk.2) (.int .i64 ((rd_T35 t347 (ji50)).f3))) (fun _ hk => ⟨hk.1.1.1,⟨hk.1.1.2,hk.1.2⟩⟩)⟩,⟨by (with_reducible repeat (first|apply Kd.R_alloc|apply Kd.R_drewN|apply Kd.R_drew));exact Kd.R_mono (Kd.R_far (p:=⟨gb361,5,none⟩) (Kd.R_far (p:=⟨gb361,4,none⟩) (Kd.R_far (p:=⟨gb361,3,none⟩) (Kd.R_far (p:=⟨gb361,2,none⟩) (Kd.R_far (p:=⟨gb361,1,none⟩) (Kd.R_far (p:=⟨gb361,0,none⟩) (Kd.R_mono HO_9.out (fun k_ hk => (⟨hk,hk.2⟩ : _ ∧ k_ ≠ gb361))) (fun _ hk => hk.2) (.int .u8 ((rd_T35 t347 (ji50)).f0))) (fun _ hk => hk.2) (.string ((rd_T35 t347 (ji50)).f1))) (fun _ hk => hk.2) (.int .i64 ((rd_T35 t347 (ji50)).f2.f0))) (fun _ hk => hk.2) (.int .i64 ((rd_T35 t347 (ji50)).f2.f1))) (fun _ hk => hk.2) (.int .i64 ((rd_T35 t347 (ji50)).f2.f2))) (fun _ hk => hk.2) (.int .i64 ((rd_T35 t347 (ji50)).f3))) (fun _ hk => ⟨hk.1.1.1,⟨hk.1.1.2,hk.1.2⟩⟩)⟩,⟨by (with_reducible repeat (first|apply Kd.R_alloc|apply Kd.R_drewN|apply Kd.R_drew));exact Kd.R_mono (Kd.R_far (p:=⟨gb361,5,none⟩) (Kd.R_far (p:=⟨gb361,4,none⟩) (Kd.R_far (p:=⟨gb361,3,none⟩) (Kd.R_far (p:=⟨gb361,2,none⟩) (Kd.R_far (p:=⟨gb361,1,none⟩) (Kd.R_far (p:=⟨gb361,0,none⟩) (Kd.R_mono HO_12.out (fun k_ hk => (⟨hk,hk.2⟩ : _ ∧ k_ ≠ gb361))) (fun _ hk => hk.2) (.int .u8 ((rd_T35 t347 (ji50)).f0))) (fun _ hk => hk.2) (.string ((rd_T35 t347 (ji50)).f1))) (fun _ hk => hk.2) (.int .i64 ((rd_T35 t347 (ji50)).f2.f0))) (fun _ hk => hk.2) (.int .i64 ((rd_T35 t347 (ji50)).f2.f1))) (fun _ hk => hk.2) (.int .i64 ((rd_T35 t347 (ji50)).f2.f2))) (fun _ hk => hk.2) (.int .i64 ((rd_T35 t347 (ji50)).f3))) (fun _ hk => ⟨hk.1.1.1,⟨hk.1.1.2,hk.1.2⟩⟩)⟩,⟨by (with_reducible repeat (first|refine blk_drewN ?_ _|refine blk_drew ?_|refine blk_alloc ?_ _));refine blk_far ?_ NB338_361.out _;(with_reducible repeat (first|refine blk_drewN ?_ _|refine blk_drew ?_|refine blk_alloc ?_ _));refine blk_far ?_ NB338_361.out _;(with_reducible repeat (first|refine blk_drewN ?_ _|refine blk_drew ?_|refine blk_alloc ?_ _));refine blk_far ?_ NB338_361.out _;(with_reducible repeat (first|refine blk_drewN ?_ _|refine blk_drew ?_|refine blk_alloc ?_ _));refine blk_far ?_ NB338_361.out _;(with_reducible repeat (first|refine blk_drewN ?_ _|refine blk_drew ?_|refine blk_alloc ?_ _));refine blk_far ?_ NB338_361.out _;(with_reducible repeat (first|refine blk_drewN ?_ _|refine blk_drew ?_|refine blk_alloc ?_ _));refine blk_far ?_ NB338_361.out _;(with_reducible repeat (first|refine blk_drewN ?_ _|refine blk_drew ?_|refine blk_alloc ?_ _));exact BK338.out⟩,⟨by (with_reducible repeat (first|refine blk_drewN ?_ _|refine blk_drew ?_|refine blk_alloc ?_ _));refine blk_far ?_ NB346_361.out _;(with_reducible repeat (first|refine blk_drewN ?_ _|refine blk_drew ?_|refine blk_alloc ?_ _));refine blk_far ?_ NB346_361.out _;(with_reducible repeat (first|refine blk_drewN ?_ _|refine blk_drew ?_|refine blk_alloc ?_ _));refine blk_far ?_ NB346_361.out _;(with_reducible repeat (first|refine blk_drewN ?_ _|refine blk_drew ?_|refine blk_alloc ?_ _));refine blk_far ?_ NB346_361.out _;(with_reducible repeat (first|refine blk_drewN ?_ _|refine blk_drew ?_|refine blk_alloc ?_ _));refine blk_far ?_ NB346_361.out _;(with_reducible repeat (first|refine blk_drewN ?_ _|refine blk_drew ?_|refine blk_alloc ?_ _));refine blk_far ?_ NB346_361.out _;(with_reducible repeat (first|refine blk_drewN ?_ _|refine blk_drew ?_|refine blk_alloc ?_ _));exact BK346.out⟩,⟨by (with_reducible repeat (first|refine blk_drewN ?_ _|refine blk_drew ?_|refine blk_alloc ?_ _));refine blk_far ?_ NB354_361.out _;(with_reducible repeat (first|refine blk_drewN ?_ _|refine blk_drew ?_|refine blk_alloc ?_ _));refine blk_far ?_ NB354_361.out _;(with_reducible repeat (first|refine blk_drewN ?_ _|refine blk_drew ?_|refine blk_alloc ?_ _));refine blk_far ?_ NB354_361.out _;(with_reducible repeat (first|refine blk_drewN ?_ _|refine blk_drew ?_|refine blk_alloc ?_ _));refine blk_far ?_ NB354_361.out _;(with_reducible repeat (first|refine blk_drewN ?_ _|refine blk_drew ?_|refine blk_alloc ?_ _));refine blk_far ?_ NB354_361.out _;(with_reducible repeat (first|refine blk_drewN ?_ _|refine blk_drew ?_|refine blk_alloc ?_ _));refine blk_far ?_ NB354_361.out _;(with_reducible repeat (first|refine blk_drewN ?_ _|refine blk_drew ?_|refine blk_alloc ?_ _));exact BK354.out⟩,⟨by (with_reducible repeat (first|refine blk_drewN ?_ _|refine blk_drew ?_|refine blk_alloc ?_ _));refine blk_put (cs:=#[.int .u8 ((rd_T35 t347 (ji50)).f0),.string ((rd_T35 t347 (ji50)).f1),.int .i64 ((rd_T35 t347 (ji50)).f2.f0),.int .i64 ((rd_T35 t347 (ji50)).f2.f1),.int .i64 ((rd_T35 t347 (ji50)).f2.f2),.int .i64 0]) ?_ 5 _ rfl;(with_reducible repeat (first|refine blk_drewN ?_ _|refine blk_drew ?_|refine blk_alloc ?_ _));refine blk_put (cs:=#[.int .u8 ((rd_T35 t347 (ji50)).f0),.string ((rd_T35 t347 (ji50)).f1),.int .i64 ((rd_T35 t347 (ji50)).f2.f0),.int .i64 ((rd_T35 t347 (ji50)).f2.f1),.int .i64 0,.int .i64 0]) ?_ 4 _ rfl;(with_reducible repeat (first|refine blk_drewN ?_ _|refine blk_drew ?_|refine blk_alloc ?_ _));refine blk_put (cs:=#[.int .u8 ((rd_T35 t347 (ji50)).f0),.string ((rd_T35 t347 (ji50)).f1),.int .i64 ((rd_T35 t347 (ji50)).f2.f0),.int .i64 0,.int .i64 0,.int .i64 0]) ?_ 3 _ rfl;(with_reducible repeat (first|refine blk_drewN ?_ _|refine blk_drew ?_|refine blk_alloc ?_ _));refine blk_put (cs:=#[.int .u8 ((rd_T35 t347 (ji50)).f0),.string ((rd_T35 t347 (ji50)).f1),.int .i64 0,.int .i64 0,.int .i64 0,.int .i64 0]) ?_ 2 _ rfl;(with_reducible repeat (first|refine blk_drewN ?_ _|refine blk_drew ?_|refine blk_alloc ?_ _));refine blk_put (cs:=#[.int .u8 ((rd_T35 t347 (ji50)).f0),.string (⟨#[]⟩ : ByteArray),.int .i64 0,.int .i64 0,.int .i64 0,.int .i64 0]) ?_ 1 _ rfl;(with_reducible repeat (first|refine blk_drewN ?_ _|refine blk_drew ?_|refine blk_alloc ?_ _));refine blk_put (cs:=#[.int .u8 0,.string (⟨#[]⟩ : ByteArray),.int .i64 0,.int .i64 0,.int .i64 0,.int .i64 0]) ?_ 0 _ rfl;(with_reducible repeat (first|refine blk_drewN ?_ _|refine blk_drew ?_|refine blk_alloc ?_ _));exact BK361.out⟩,⟨by repeat (first|(with_reducible first|exact HB.out|apply below_alloc|apply pw_below_drewN|apply below_drew1|refine below_set ?_ GE338.out|refine below_set ?_ GE346.out|refine below_set ?_ GE354.out|refine below_set ?_ GE361.out)|exact HB.out)⟩⟩
                      ·rw [if_neg c64] at H
                       exact absurd H (by simp)
                     ·rw [if_neg c63] at H
                      exact absurd H (by simp)
                    ·rw [if_neg c62] at H
                     exact absurd H (by simp)
                   ·rw [if_neg c61] at H
                    exact absurd H (by simp)
                  ·rw [if_neg c60] at H
                   exact absurd H (by simp)
                 case rest =>
                  clear HC53
                  try clear p2
                  try clear p3
                  try clear q3
                  try clear hx3
                  try clear c5
                  try clear c6
                  try clear p6
                  try clear c7
                  try clear p36
                  try clear q36
                  try clear hx36
                  try clear c51
                  try clear c52
                  try clear c52b0
                  try clear c56
                  try clear c57
                  try clear c58
                  try clear c60
                  try clear c60b0
                  try clear c61
                  try clear c61b0
                  try clear c61b1
                  try clear c62
                  try clear c62b0
                  try clear c62b1
                  try clear c63
                  try clear c63b0
                  try clear c63b1
                  try clear c64
                  try clear c64b0
                  try clear c64b1
                  try clear p64
                  try clear c65
                  try clear c65b0
                  try clear c66
                  try clear c67
                  try clear c68
                  try clear c70
                  try clear c71
                  try clear c72
                  try clear hcz59_0
                  try clear hcz59_1
                  try clear hcz59_2
                  try clear hcz59_3
                  try clear hcz59_4
                  try clear hcz59_5
                  try clear hcz69_0
                  try clear hcz69_1
                  try clear hcz69_2
                  try clear hcz69_3
                  try clear hcz69_4
                  try clear hcz69_5
                  try clear hcz73_0
                  try clear hcz73_1
                  try clear hcz73_2
                  try clear hcz73_3
                  try clear hcz73_4
                  try clear hcz73_5
                  try clear hfz59_0
                  try clear hfz59_1
                  try clear hfz59_2
                  try clear hfz59_3
                  try clear hfz59_4
                  try clear hfz59_5
                  try clear hfz69_0
                  try clear hfz69_1
                  try clear hfz69_2
                  try clear hfz69_3
                  try clear hfz69_4
                  try clear hfz69_5
                  try clear hfz73_0
                  try clear hfz73_1
                  try clear hfz73_2
                  try clear hfz73_3
                  try clear hfz73_4
                  try clear hfz73_5
                  try clear hx360_0
                  try clear hx360_1
                  try clear hx360_2
                  try clear hx360_3
                  try clear hx360_4
                  try clear hx360_5
                  try clear hx362_0
                  try clear hx362_1
                  try clear hx362_2
                  try clear hx362_3
                  try clear hx362_4
                  try clear hx362_5
                  try clear hx363_0
                  try clear hx363_1
                  try clear hx363_2
                  try clear hx363_3
                  try clear hx363_4
                  try clear hx363_5
                  try clear hx364_0
                  try clear hx364_1
                  try clear hx364_2
                  try clear hx364_3
                  try clear hx364_4
                  try clear hx364_5
                  try clear hx365_0
                  try clear hx365_1
                  try clear hx365_2
                  try clear hx365_3
                  try clear hx365_4
                  try clear hx365_5
                  try clear hx366_0
                  try clear hx366_1
                  try clear hx366_2
                  try clear hx366_3
                  try clear hx366_4
                  try clear hx366_5
                  try clear p360
                  try clear p362
                  try clear p363
                  try clear p364
                  try clear p365
                  try clear p366
                  try clear q360
                  try clear q362
                  try clear q363
                  try clear q364
                  try clear q365
                  try clear q366
                  obtain ⟨kq, x161_52, rfl, HA, HJ52, HO_6, HO_9, HO_12, BK338, BK346, BK354, BK361, HB⟩ := hcut
                  cases kq with
                  | zero => exact absurd HA.out (by simp [colophonlaw10_ScanJoins.j3])
                  | succ kj52 =>
                   have H := HA.out
                   clear HA
                   simp only [colophonlaw10_ScanJoins.j3] at H
                   by_cases c74 : x161_52 = true
                   ·subst c74
                    have H1 : (none) = some r := by rw [if_pos rfl] at H; exact H
                    clear H
                    have H := H1
                    clear H1
                    exact absurd H (by simp)
                   ·replace c74 := Bool.eq_false_iff.mpr c74
                    subst c74
                    have H1 : (colophonlaw10_ScanJoins.l0 kj52 a0 t331 t339 t347 t359 (wrap64 (x16_3 + 1))) = some r := by rw [if_neg (show ¬ (false = true) by decide)] at H; exact H
                    clear H
                    have H := H1
                    clear H1
                    have H' := Aside0.mk H
                    clear H
                    go_wp2
                    repeat (go_quiet (fail); try go_wp2)
                    go_roundg kj52
                    case measure => have := HJ3.out; have := HJ14.out; have := HK3.out; have := HJ52.out; omega
                    case rel => exact ⟨(wrap64 (x16_3 + 1)), (by first|rfl|(simp; done)|(simp [*]; done)), H', ⟨by have := HJ3.out; have := HJ14.out; have := HK3.out; have := HJ52.out; omega⟩, ⟨by (with_reducible repeat (first|apply Kd.R_alloc|apply Kd.R_drewN|apply Kd.R_drew)); exact Kd.R_mono HO_6.out (fun _ hk => ⟨hk.1, hk.2.1⟩)⟩, ⟨by (with_reducible repeat (first|apply Kd.R_alloc|apply Kd.R_drewN|apply Kd.R_drew)); exact Kd.R_mono HO_9.out (fun _ hk => ⟨hk.1, hk.2.1⟩)⟩, ⟨by (with_reducible repeat (first|apply Kd.R_alloc|apply Kd.R_drewN|apply Kd.R_drew)); exact Kd.R_mono HO_12.out (fun _ hk => ⟨hk.1, hk.2.1⟩)⟩, ⟨by (with_reducible repeat (first|refine blk_drewN ?_ _|refine blk_drew ?_|refine blk_alloc ?_ _)); exact BK338.out⟩, ⟨by (with_reducible repeat (first|refine blk_drewN ?_ _|refine blk_drew ?_|refine blk_alloc ?_ _)); exact BK346.out⟩, ⟨by (with_reducible repeat (first|refine blk_drewN ?_ _|refine blk_drew ?_|refine blk_alloc ?_ _)); exact BK354.out⟩, ⟨by repeat (first|(with_reducible first|exact HB.out|apply below_alloc|apply pw_below_drewN|apply below_drew1|refine below_set ?_ GE338.out|refine below_set ?_ GE346.out|refine below_set ?_ GE354.out|refine below_set ?_ GE361.out)|exact HB.out)⟩⟩
                ·rw [if_neg c52] at H
                 exact absurd H (by simp)
               ·rw [if_neg c51] at H
                exact absurd H (by simp)
              ·rw [if_neg c49] at H
               have c49b0 : decide (x16_3 < (t339.length : Int)) = false := decide_eq_false c49
               clear c49
               obtain rfl := Option.some.inj H
               obtain ⟨Ao75, co75, eo75⟩ := Kd.R_slice HO_9.out
               subst eo75
               go_wp2
               repeat (go_quiet (fail); try go_wp2)
               go_ret
               exact ⟨by first|rfl|(simp [errW_none, errW_some] <;> rfl)|(simp [*, errW_none, errW_some] <;> rfl), by repeat (first|(with_reducible first|exact HB.out|apply below_alloc|apply pw_below_drewN|apply below_drew1|refine below_set ?_ GE338.out|refine below_set ?_ GE346.out|refine below_set ?_ GE354.out)|exact HB.out)⟩
           ·rw [if_neg c44] at H
            exact absurd H (by simp)
          ·rw [if_neg c43] at H
           exact absurd H (by simp)
      ·rw [if_neg c14] at H
       have c14b0 : (t334 == 0) = false := beq_eq_false_iff_ne.mpr c14
       have c14b1 : (t334 != 0) = true := bne_iff_ne.mpr c14
       obtain rfl := Option.some.inj H
       go_wp2_with (first|(go_at_call 8;(with_reducible refine (scan_All.calls a0 t331 t334 t335 t336 t337 _ ?side1 A9.out).mono ?_);(case side1 => exact LW.below HLW.out (by repeat (first|(with_reducible first|exact HB.out|apply below_alloc|apply pw_below_drewN|apply below_drew1)|exact HB.out)));rintro e w76 ⟨v332,rfl,ho0,hb⟩;have n0_:=Aside0.mk (Kd.R_lower ho0 (below_size (by repeat (first|(with_reducible first|exact HB.out|apply below_alloc|apply pw_below_drewN|apply below_drew1)|exact HB.out))));have n1_:=Aside0.mk (below_step (by repeat (first|(with_reducible first|exact HB.out|apply below_alloc|apply pw_below_drewN|apply below_drew1)|exact HB.out)) hb);clear HB;have HO333:=n0_;have HB:=n1_;clear n0_ n1_;(try clear hb);(try clear hb2);(try clear hk);(try clear hi);(try clear ho0))|((with_reducible refine gate_dst (N:=8) rfl ?_);(try (refine gate_guard (by rfl) ?_;dsimp only));refine box_event ?hg (N:=8) ?hd (cs:=#[.int .i64 0,.int .i64 0,.int .i64 0]) (t:=26) ?hr ?_;(case hd => rfl);(case hg => rfl);(case hr => first|(go_simp;done)|(go_simp;rfl));intro gb338 hg w77 hbox hb;have n0_:=Aside0.mk (Kd.R_below (by (with_reducible repeat (first|apply Kd.R_alloc|apply Kd.R_drewN|apply Kd.R_drew));exact HO333.out) hb);have n1_:=Aside0.mk (below_step (by repeat (first|(with_reducible first|exact HB.out|apply below_alloc|apply pw_below_drewN|apply below_drew1)|exact HB.out)) hb);have n2_:=Aside0.mk (hbox);have n3_:=Aside0.mk ((by rw [hg];exact (below_size (by repeat (first|(with_reducible first|exact HB.out|apply below_alloc|apply pw_below_drewN|apply below_drew1)|exact HB.out))) : w.heap.size ≤ gb338));have n4_:=Aside0.mk ((by rw [hg];exact (below_size (by repeat (first|(with_reducible first|exact HB.out|apply below_alloc|apply pw_below_drewN|apply below_drew1)|exact HB.out))) : w.heap.size ≤ gb338));clear HO333;clear HB;have HO333:=n0_;have HB:=n1_;have BK338:=n2_;have GW338:=n3_;have GE338:=n4_;clear n0_ n1_ n2_ n3_ n4_;clear hb hbox hg;have hcz78_0 : w77.cell? ⟨gb338,0,none⟩ = some (.int .i64 0):=(blk_cell BK338.out 0).trans rfl;have hcz78_1 : w77.cell? ⟨gb338,1,none⟩ = some (.int .i64 0):=(blk_cell BK338.out 1).trans rfl;have hcz78_2 : w77.cell? ⟨gb338,2,none⟩ = some (.int .i64 0):=(blk_cell BK338.out 2).trans rfl;have hfz78_0:=blk_frozen BK338.out 0;have hfz78_1:=blk_frozen BK338.out 1;have hfz78_2:=blk_frozen BK338.out 2)|(go_at_call 8;(with_reducible refine (scan_All.calls a1 t339 t342 t343 t344 t345 _ ?side1 A10.out).mono ?_);(case side1 => exact LW.below HLW.out (by repeat (first|(with_reducible first|exact HB.out|apply below_alloc|apply pw_below_drewN|apply below_drew1|refine below_set ?_ GE338.out)|exact HB.out)));rintro e w79 ⟨v340,rfl,ho0,hb⟩;have n0_:=Aside0.mk (Kd.R_elder' (by (with_reducible repeat (first|apply Kd.R_alloc|apply Kd.R_drewN|apply Kd.R_drew));exact (Kd.R_mono (Kd.R_far (p:=⟨gb338,2,none⟩) (Kd.R_far (p:=⟨gb338,1,none⟩) (Kd.R_far (p:=⟨gb338,0,none⟩) (Kd.R_types HO333.out BK338.out (by decide)) (fun _ hk => hk.2) (.int .i64 t335)) (fun _ hk => hk.2) (.int .i64 t336)) (fun _ hk => hk.2) (.int .i64 t337)) (fun _ h_ => h_.1))) (Kd.R_base ho0) hb);have n1_:=Aside0.mk (Kd.R_lower (Kd.R_new' ho0 (Kd.R_lt (by (with_reducible repeat (first|apply Kd.R_alloc|apply Kd.R_drewN|apply Kd.R_drew));exact (Kd.R_mono (Kd.R_far (p:=⟨gb338,2,none⟩) (Kd.R_far (p:=⟨gb338,1,none⟩) (Kd.R_far (p:=⟨gb338,0,none⟩) (Kd.R_types HO333.out BK338.out (by decide)) (fun _ hk => hk.2) (.int .i64 t335)) (fun _ hk => hk.2) (.int .i64 t336)) (fun _ hk => hk.2) (.int .i64 t337)) (fun _ h_ => h_.1))))) (below_size (by repeat (first|(with_reducible first|exact HB.out|apply below_alloc|apply pw_below_drewN|apply below_drew1|refine below_set ?_ GE338.out)|exact HB.out))));have n2_:=Aside0.mk (blk_below (g:=gb338) (o:=.cells #[.int .i64 t335,.int .i64 t336,.int .i64 t337] 26 (0,0)) (by (with_reducible repeat (first|refine blk_drewN ?_ _|refine blk_drew ?_|refine blk_alloc ?_ _));refine blk_put (cs:=#[.int .i64 t335,.int .i64 t336,.int .i64 0]) ?_ 2 _ rfl;(with_reducible repeat (first|refine blk_drewN ?_ _|refine blk_drew ?_|refine blk_alloc ?_ _));refine blk_put (cs:=#[.int .i64 t335,.int .i64 0,.int .i64 0]) ?_ 1 _ rfl;(with_reducible repeat (first|refine blk_drewN ?_ _|refine blk_drew ?_|refine blk_alloc ?_ _));refine blk_put (cs:=#[.int .i64 0,.int .i64 0,.int .i64 0]) ?_ 0 _ rfl;(with_reducible repeat (first|refine blk_drewN ?_ _|refine blk_drew ?_|refine blk_alloc ?_ _));exact BK338.out) hb);have n3_:=Aside0.mk (below_step (by repeat (first|(with_reducible first|exact HB.out|apply below_alloc|apply pw_below_drewN|apply below_drew1|refine below_set ?_ GE338.out)|exact HB.out)) hb);clear HO333;clear BK338;clear HB;have HO333:=n0_;have HO341:=n1_;have BK338:=n2_;have HB:=n3_;clear n0_ n1_ n2_ n3_;(try clear hb);(try clear hb2);(try clear hk);(try clear hi);(try clear ho0))|((with_reducible refine gate_dst (N:=11) rfl ?_);(try (refine gate_guard (by rfl) ?_;dsimp only));refine box_event ?hg (N:=11) ?hd (cs:=#[.int .i64 0,.int .i64 0,.int .i64 0]) (t:=26) ?hr ?_;(case hd => rfl);(case hg => rfl);(case hr => first|(go_simp;done)|(go_simp;rfl));intro gb346 hg w80 hbox hb;have n0_:=Aside0.mk (Kd.R_below (by (with_reducible repeat (first|apply Kd.R_alloc|apply Kd.R_drewN|apply Kd.R_drew));exact HO333.out) hb);have n1_:=Aside0.mk (Kd.R_below (by (with_reducible repeat (first|apply Kd.R_alloc|apply Kd.R_drewN|apply Kd.R_drew));exact HO341.out) hb);have n2_:=Aside0.mk (blk_below (g:=gb338) (o:=.cells #[.int .i64 t335,.int .i64 t336,.int .i64 t337] 26 (0,0)) (by (with_reducible repeat (first|refine blk_drewN ?_ _|refine blk_drew ?_|refine blk_alloc ?_ _));exact BK338.out) hb);have n3_:=Aside0.mk (below_step (by repeat (first|(with_reducible first|exact HB.out|apply below_alloc|apply pw_below_drewN|apply below_drew1|refine below_set ?_ GE338.out)|exact HB.out)) hb);have n4_:=Aside0.mk (hbox);have n5_:=Aside0.mk ((by rw [hg];exact (below_size (by repeat (first|(with_reducible first|exact HB.out|apply below_alloc|apply pw_below_drewN|apply below_drew1|refine below_set ?_ GE338.out)|exact HB.out))) : w.heap.size ≤ gb346));have n6_:=Aside0.mk ((by rw [hg];exact (below_size (by repeat (first|(with_reducible first|exact HB.out|apply below_alloc|apply pw_below_drewN|apply below_drew1|refine below_set ?_ GE338.out)|exact HB.out))) : w.heap.size ≤ gb346));have n7_:=Aside0.mk ((by rw [hg];exact Nat.ne_of_lt (blk_lt (g:=gb338) (o:=.cells #[.int .i64 t335,.int .i64 t336,.int .i64 t337] 26 (0,0)) (by (with_reducible repeat (first|refine blk_drewN ?_ _|refine blk_drew ?_|refine blk_alloc ?_ _));exact BK338.out)) : gb338 ≠ gb346));have n8_:=Aside0.mk ((by rw [hg];exact Nat.ne_of_gt (blk_lt (g:=gb338) (o:=.cells #[.int .i64 t335,.int .i64 t336,.int .i64 t337] 26 (0,0)) (by (with_reducible repeat (first|refine blk_drewN ?_ _|refine blk_drew ?_|refine blk_alloc ?_ _));exact BK338.out)) : gb346 ≠ gb338));clear HO333;clear HO341;clear BK338;clear HB;have HO333:=n0_;have HO341:=n1_;have BK338:=n2_;have HB:=n3_;have BK346:=n4_;have GW346:=n5_;have GE346:=n6_;have NB338_346:=n7_;have NB346_338:=n8_;clear n0_ n1_ n2_ n3_ n4_ n5_ n6_ n7_ n8_;clear hb hbox hg;have hnb81:=NB346_338.out;have hnc81:=NB338_346.out;have hcz82_0 : w80.cell? ⟨gb346,0,none⟩ = some (.int .i64 0):=(blk_cell BK346.out 0).trans rfl;have hcz82_1 : w80.cell? ⟨gb346,1,none⟩ = some (.int .i64 0):=(blk_cell BK346.out 1).trans rfl;have hcz82_2 : w80.cell? ⟨gb346,2,none⟩ = some (.int .i64 0):=(blk_cell BK346.out 2).trans rfl;have hfz82_0:=blk_frozen BK346.out 0;have hfz82_1:=blk_frozen BK346.out 1;have hfz82_2:=blk_frozen BK346.out 2)|(go_at_call 8;(with_reducible refine (scan_All.calls ((a0 ++ (⟨#[10]⟩ : ByteArray)) ++ a1) t347 t350 t351 t352 t353 _ ?side1 A13.out).mono ?_);(case side1 => exact LW.below HLW.out (by repeat (first|(with_reducible first|exact HB.out|apply below_alloc|apply pw_below_drewN|apply below_drew1|refine below_set ?_ GE338.out|refine below_set ?_ GE346.out)|exact HB.out)));rintro e w83 ⟨v348,rfl,ho0,hb⟩;have n0_:=Aside0.mk (Kd.R_elder' (by (with_reducible repeat (first|apply Kd.R_alloc|apply Kd.R_drewN|apply Kd.R_drew));exact (Kd.R_mono (Kd.R_far (p:=⟨gb346,2,none⟩) (Kd.R_far (p:=⟨gb346,1,none⟩) (Kd.R_far (p:=⟨gb346,0,none⟩) (Kd.R_types HO333.out BK346.out (by decide)) (fun _ hk => hk.2) (.int .i64 t343)) (fun _ hk => hk.2) (.int .i64 t344)) (fun _ hk => hk.2) (.int .i64 t345)) (fun _ h_ => h_.1))) (Kd.R_base ho0) hb);have n1_:=Aside0.mk (Kd.R_elder' (by (with_reducible repeat (first|apply Kd.R_alloc|apply Kd.R_drewN|apply Kd.R_drew));exact (Kd.R_mono (Kd.R_far (p:=⟨gb346,2,none⟩) (Kd.R_far (p:=⟨gb346,1,none⟩) (Kd.R_far (p:=⟨gb346,0,none⟩) (Kd.R_types HO341.out BK346.out (by decide)) (fun _ hk => hk.2) (.int .i64 t343)) (fun _ hk => hk.2) (.int .i64 t344)) (fun _ hk => hk.2) (.int .i64 t345)) (fun _ h_ => h_.1))) (Kd.R_base ho0) hb);have n2_:=Aside0.mk (Kd.R_lower (Kd.R_new' (Kd.R_new' ho0 (Kd.R_lt (by (with_reducible repeat (first|apply Kd.R_alloc|apply Kd.R_drewN|apply Kd.R_drew));exact (Kd.R_mono (Kd.R_far (p:=⟨gb346,2,none⟩) (Kd.R_far (p:=⟨gb346,1,none⟩) (Kd.R_far (p:=⟨gb346,0,none⟩) (Kd.R_types HO333.out BK346.out (by decide)) (fun _ hk => hk.2) (.int .i64 t343)) (fun _ hk => hk.2) (.int .i64 t344)) (fun _ hk => hk.2) (.int .i64 t345)) (fun _ h_ => h_.1))))) (Kd.R_lt (by (with_reducible repeat (first|apply Kd.R_alloc|apply Kd.R_drewN|apply Kd.R_drew));exact (Kd.R_mono (Kd.R_far (p:=⟨gb346,2,none⟩) (Kd.R_far (p:=⟨gb346,1,none⟩) (Kd.R_far (p:=⟨gb346,0,none⟩) (Kd.R_types HO341.out BK346.out (by decide)) (fun _ hk => hk.2) (.int .i64 t343)) (fun _ hk => hk.2) (.int .i64 t344)) (fun _ hk => hk.2) (.int .i64 t345)) (fun _ h_ => h_.1))))) (below_size (by repeat (first|(with_reducible first|exact HB.out|apply below_alloc|apply pw_below_drewN|apply below_drew1|refine below_set ?_ GE338.out|refine below_set ?_ GE346.out)|exact HB.out))));have n3_:=Aside0.mk (blk_below (g:=gb338) (o:=.cells #[.int .i64 t335,.int .i64 t336,.int .i64 t337] 26 (0,0)) (by (with_reducible repeat (first|refine blk_drewN ?_ _|refine blk_drew ?_|refine blk_alloc ?_ _));refine blk_far ?_ NB338_346.out _;(with_reducible repeat (first|refine blk_drewN ?_ _|refine blk_drew ?_|refine blk_alloc ?_ _));refine blk_far ?_ NB338_346.out _;(with_reducible repeat (first|refine blk_drewN ?_ _|refine blk_drew ?_|refine blk_alloc ?_ _));refine blk_far ?_ NB338_346.out _;(with_reducible repeat (first|refine blk_drewN ?_ _|refine blk_drew ?_|refine blk_alloc ?_ _));exact BK338.out) hb);have n4_:=Aside0.mk (blk_below (g:=gb346) (o:=.cells #[.int .i64 t343,.int .i64 t344,.int .i64 t345] 26 (0,0)) (by (with_reducible repeat (first|refine blk_drewN ?_ _|refine blk_drew ?_|refine blk_alloc ?_ _));refine blk_put (cs:=#[.int .i64 t343,.int .i64 t344,.int .i64 0]) ?_ 2 _ rfl;(with_reducible repeat (first|refine blk_drewN ?_ _|refine blk_drew ?_|refine blk_alloc ?_ _));refine blk_put (cs:=#[.int .i64 t343,.int .i64 0,.int .i64 0]) ?_ 1 _ rfl;(with_reducible repeat (first|refine blk_drewN ?_ _|refine blk_drew ?_|refine blk_alloc ?_ _));refine blk_put (cs:=#[.int .i64 0,.int .i64 0,.int .i64 0]) ?_ 0 _ rfl;(with_reducible repeat (first|refine blk_drewN ?_ _|refine blk_drew ?_|refine blk_alloc ?_ _));exact BK346.out) hb);have n5_:=Aside0.mk (below_step (by repeat (first|(with_reducible first|exact HB.out|apply below_alloc|apply pw_below_drewN|apply below_drew1|refine below_set ?_ GE338.out|refine below_set ?_ GE346.out)|exact HB.out)) hb);clear HO333;clear HO341;clear BK338;clear BK346;clear HB;have HO333:=n0_;have HO341:=n1_;have HO349:=n2_;have BK338:=n3_;have BK346:=n4_;have HB:=n5_;clear n0_ n1_ n2_ n3_ n4_ n5_;(try clear hb);(try clear hb2);(try clear hk);(try clear hi);(try clear ho0))|((with_reducible refine gate_dst (N:=14) rfl ?_);(try (refine gate_guard (by rfl) ?_;dsimp only));refine box_event ?hg (N:=14) ?hd (cs:=#[.int .i64 0,.int .i64 0,.int .i64 0]) (t:=26) ?hr ?_;(case hd => rfl);(case hg => rfl);(case hr => first|(go_simp;done)|(go_simp;rfl));intro gb354 hg w84 hbox hb;have n0_:=Aside0.mk (Kd.R_below (by (with_reducible repeat (first|apply Kd.R_alloc|apply Kd.R_drewN|apply Kd.R_drew));exact HO333.out) hb);have n1_:=Aside0.mk (Kd.R_below (by (with_reducible repeat (first|apply Kd.R_alloc|apply Kd.R_drewN|apply Kd.R_drew));exact HO341.out) hb);have n2_:=Aside0.mk (Kd.R_below (by (with_reducible repeat (first|apply Kd.R_alloc|apply Kd.R_drewN|apply Kd.R_drew));exact HO349.out) hb);have n3_:=Aside0.mk (blk_below (g:=gb338) (o:=.cells #[.int .i64 t335,.int .i64 t336,.int .i64 t337] 26 (0,0)) (by (with_reducible repeat (first|refine blk_drewN ?_ _|refine blk_drew ?_|refine blk_alloc ?_ _));exact BK338.out) hb);have n4_:=Aside0.mk (blk_below (g:=gb346) (o:=.cells #[.int .i64 t343,.int .i64 t344,.int .i64 t345] 26 (0,0)) (by (with_reducible repeat (first|refine blk_drewN ?_ _|refine blk_drew ?_|refine blk_alloc ?_ _));exact BK346.out) hb);have n5_:=Aside0.mk (below_step (by repeat (first|(with_reducible first|exact HB.out|apply below_alloc|apply pw_below_drewN|apply below_drew1|refine below_set ?_ GE338.out|refine below_set ?_ GE346.out)|exact HB.out)) hb);have n6_:=Aside0.mk (hbox);have n7_:=Aside0.mk ((by rw [hg];exact (below_size (by repeat (first|(with_reducible first|exact HB.out|apply below_alloc|apply pw_below_drewN|apply below_drew1|refine below_set ?_ GE338.out|refine below_set ?_ GE346.out)|exact HB.out))) : w.heap.size ≤ gb354));have n8_:=Aside0.mk ((by rw [hg];exact (below_size (by repeat (first|(with_reducible first|exact HB.out|apply below_alloc|apply pw_below_drewN|apply below_drew1|refine below_set ?_ GE338.out|refine below_set ?_ GE346.out)|exact HB.out))) : w.heap.size ≤ gb354));have n9_:=Aside0.mk ((by rw [hg];exact Nat.ne_of_lt (blk_lt (g:=gb338) (o:=.cells #[.int .i64 t335,.int .i64 t336,.int .i64 t337] 26 (0,0)) (by (with_reducible repeat (first|refine blk_drewN ?_ _|refine blk_drew ?_|refine blk_alloc ?_ _));exact BK338.out)) : gb338 ≠ gb354));have n10_:=Aside0.mk ((by rw [hg];exact Nat.ne_of_gt (blk_lt (g:=gb338) (o:=.cells #[.int .i64 t335,.int .i64 t336,.int .i64 t337] 26 (0,0)) (by (with_reducible repeat (first|refine blk_drewN ?_ _|refine blk_drew ?_|refine blk_alloc ?_ _));exact BK338.out)) : gb354 ≠ gb338));have n11_:=Aside0.mk ((by rw [hg];exact Nat.ne_of_lt (blk_lt (g:=gb346) (o:=.cells #[.int .i64 t343,.int .i64 t344,.int .i64 t345] 26 (0,0)) (by (with_reducible repeat (first|refine blk_drewN ?_ _|refine blk_drew ?_|refine blk_alloc ?_ _));exact BK346.out)) : gb346 ≠ gb354));have n12_:=Aside0.mk ((by rw [hg];exact Nat.ne_of_gt (blk_lt (g:=gb346) (o:=.cells #[.int .i64 t343,.int .i64 t344,.int .i64 t345] 26 (0,0)) (by (with_reducible repeat (first|refine blk_drewN ?_ _|refine blk_drew ?_|refine blk_alloc ?_ _));exact BK346.out)) : gb354 ≠ gb346));clear HO333;clear HO341;clear HO349;clear BK338;clear BK346;clear HB;have HO333:=n0_;have HO341:=n1_;have HO349:=n2_;have BK338:=n3_;have BK346:=n4_;have HB:=n5_;have BK354:=n6_;have GW354:=n7_;have GE354:=n8_;have NB338_354:=n9_;have NB354_338:=n10_;have NB346_354:=n11_;have NB354_346:=n12_;clear n0_ n1_ n2_ n3_ n4_ n5_ n6_ n7_ n8_ n9_ n10_ n11_ n12_;clear hb hbox hg;have hnb85:=NB354_338.out;have hnc85:=NB338_354.out;have hnb86:=NB354_346.out;have hnc86:=NB346_354.out;have hcz87_0 : w84.cell? ⟨gb354,0,none⟩ = some (.int .i64 0):=(blk_cell BK354.out 0).trans rfl;have hcz87_1 : w84.cell? ⟨gb354,1,none⟩ = some (.int .i64 0):=(blk_cell BK354.out 1).trans rfl;have hcz87_2 : w84.cell? ⟨gb354,2,none⟩ = some (.int .i64 0):=(blk_cell BK354.out 2).trans rfl;have hfz87_0:=blk_frozen BK354.out 0;have hfz87_1:=blk_frozen BK354.out 1;have hfz87_2:=blk_frozen BK354.out 2))
       repeat (go_quiet (fail);try go_wp2_with (first|(go_at_call 8;(with_reducible refine (scan_All.calls a0 t331 t334 t335 t336 t337 _ ?side1 A9.out).mono ?_);(case side1 => exact LW.below HLW.out (by repeat (first|(with_reducible first|exact HB.out|apply below_alloc|apply pw_below_drewN|apply below_drew1)|exact HB.out)));rintro e w76 ⟨v332,rfl,ho0,hb⟩;have n0_:=Aside0.mk (Kd.R_lower ho0 (below_size (by repeat (first|(with_reducible first|exact HB.out|apply below_alloc|apply pw_below_drewN|apply below_drew1)|exact HB.out))));have n1_:=Aside0.mk (below_step (by repeat (first|(with_reducible first|exact HB.out|apply below_alloc|apply pw_below_drewN|apply below_drew1)|exact HB.out)) hb);clear HB;have HO333:=n0_;have HB:=n1_;clear n0_ n1_;(try clear hb);(try clear hb2);(try clear hk);(try clear hi);(try clear ho0))|((with_reducible refine gate_dst (N:=8) rfl ?_);(try (refine gate_guard (by rfl) ?_;dsimp only));refine box_event ?hg (N:=8) ?hd (cs:=#[.int .i64 0,.int .i64 0,.int .i64 0]) (t:=26) ?hr ?_;(case hd => rfl);(case hg => rfl);(case hr => first|(go_simp;done)|(go_simp;rfl));intro gb338 hg w77 hbox hb;have n0_:=Aside0.mk (Kd.R_below (by (with_reducible repeat (first|apply Kd.R_alloc|apply Kd.R_drewN|apply Kd.R_drew));exact HO333.out) hb);have n1_:=Aside0.mk (below_step (by repeat (first|(with_reducible first|exact HB.out|apply below_alloc|apply pw_below_drewN|apply below_drew1)|exact HB.out)) hb);have n2_:=Aside0.mk (hbox);have n3_:=Aside0.mk ((by rw [hg];exact (below_size (by repeat (first|(with_reducible first|exact HB.out|apply below_alloc|apply pw_below_drewN|apply below_drew1)|exact HB.out))) : w.heap.size ≤ gb338));have n4_:=Aside0.mk ((by rw [hg];exact (below_size (by repeat (first|(with_reducible first|exact HB.out|apply below_alloc|apply pw_below_drewN|apply below_drew1)|exact HB.out))) : w.heap.size ≤ gb338));clear HO333;clear HB;have HO333:=n0_;have HB:=n1_;have BK338:=n2_;have GW338:=n3_;have GE338:=n4_;clear n0_ n1_ n2_ n3_ n4_;clear hb hbox hg;have hcz78_0 : w77.cell? ⟨gb338,0,none⟩ = some (.int .i64 0):=(blk_cell BK338.out 0).trans rfl;have hcz78_1 : w77.cell? ⟨gb338,1,none⟩ = some (.int .i64 0):=(blk_cell BK338.out 1).trans rfl;have hcz78_2 : w77.cell? ⟨gb338,2,none⟩ = some (.int .i64 0):=(blk_cell BK338.out 2).trans rfl;have hfz78_0:=blk_frozen BK338.out 0;have hfz78_1:=blk_frozen BK338.out 1;have hfz78_2:=blk_frozen BK338.out 2)|(go_at_call 8;(with_reducible refine (scan_All.calls a1 t339 t342 t343 t344 t345 _ ?side1 A10.out).mono ?_);(case side1 => exact LW.below HLW.out (by repeat (first|(with_reducible first|exact HB.out|apply below_alloc|apply pw_below_drewN|apply below_drew1|refine below_set ?_ GE338.out)|exact HB.out)));rintro e w79 ⟨v340,rfl,ho0,hb⟩;have n0_:=Aside0.mk (Kd.R_elder' (by (with_reducible repeat (first|apply Kd.R_alloc|apply Kd.R_drewN|apply Kd.R_drew));exact (Kd.R_mono (Kd.R_far (p:=⟨gb338,2,none⟩) (Kd.R_far (p:=⟨gb338,1,none⟩) (Kd.R_far (p:=⟨gb338,0,none⟩) (Kd.R_types HO333.out BK338.out (by decide)) (fun _ hk => hk.2) (.int .i64 t335)) (fun _ hk => hk.2) (.int .i64 t336)) (fun _ hk => hk.2) (.int .i64 t337)) (fun _ h_ => h_.1))) (Kd.R_base ho0) hb);have n1_:=Aside0.mk (Kd.R_lower (Kd.R_new' ho0 (Kd.R_lt (by (with_reducible repeat (first|apply Kd.R_alloc|apply Kd.R_drewN|apply Kd.R_drew));exact (Kd.R_mono (Kd.R_far (p:=⟨gb338,2,none⟩) (Kd.R_far (p:=⟨gb338,1,none⟩) (Kd.R_far (p:=⟨gb338,0,none⟩) (Kd.R_types HO333.out BK338.out (by decide)) (fun _ hk => hk.2) (.int .i64 t335)) (fun _ hk => hk.2) (.int .i64 t336)) (fun _ hk => hk.2) (.int .i64 t337)) (fun _ h_ => h_.1))))) (below_size (by repeat (first|(with_reducible first|exact HB.out|apply below_alloc|apply pw_below_drewN|apply below_drew1|refine below_set ?_ GE338.out)|exact HB.out))));have n2_:=Aside0.mk (blk_below (g:=gb338) (o:=.cells #[.int .i64 t335,.int .i64 t336,.int .i64 t337] 26 (0,0)) (by (with_reducible repeat (first|refine blk_drewN ?_ _|refine blk_drew ?_|refine blk_alloc ?_ _));refine blk_put (cs:=#[.int .i64 t335,.int .i64 t336,.int .i64 0]) ?_ 2 _ rfl;(with_reducible repeat (first|refine blk_drewN ?_ _|refine blk_drew ?_|refine blk_alloc ?_ _));refine blk_put (cs:=#[.int .i64 t335,.int .i64 0,.int .i64 0]) ?_ 1 _ rfl;(with_reducible repeat (first|refine blk_drewN ?_ _|refine blk_drew ?_|refine blk_alloc ?_ _));refine blk_put (cs:=#[.int .i64 0,.int .i64 0,.int .i64 0]) ?_ 0 _ rfl;(with_reducible repeat (first|refine blk_drewN ?_ _|refine blk_drew ?_|refine blk_alloc ?_ _));exact BK338.out) hb);have n3_:=Aside0.mk (below_step (by repeat (first|(with_reducible first|exact HB.out|apply below_alloc|apply pw_below_drewN|apply below_drew1|refine below_set ?_ GE338.out)|exact HB.out)) hb);clear HO333;clear BK338;clear HB;have HO333:=n0_;have HO341:=n1_;have BK338:=n2_;have HB:=n3_;clear n0_ n1_ n2_ n3_;(try clear hb);(try clear hb2);(try clear hk);(try clear hi);(try clear ho0))|((with_reducible refine gate_dst (N:=11) rfl ?_);(try (refine gate_guard (by rfl) ?_;dsimp only));refine box_event ?hg (N:=11) ?hd (cs:=#[.int .i64 0,.int .i64 0,.int .i64 0]) (t:=26) ?hr ?_;(case hd => rfl);(case hg => rfl);(case hr => first|(go_simp;done)|(go_simp;rfl));intro gb346 hg w80 hbox hb;have n0_:=Aside0.mk (Kd.R_below (by (with_reducible repeat (first|apply Kd.R_alloc|apply Kd.R_drewN|apply Kd.R_drew));exact HO333.out) hb);have n1_:=Aside0.mk (Kd.R_below (by (with_reducible repeat (first|apply Kd.R_alloc|apply Kd.R_drewN|apply Kd.R_drew));exact HO341.out) hb);have n2_:=Aside0.mk (blk_below (g:=gb338) (o:=.cells #[.int .i64 t335,.int .i64 t336,.int .i64 t337] 26 (0,0)) (by (with_reducible repeat (first|refine blk_drewN ?_ _|refine blk_drew ?_|refine blk_alloc ?_ _));exact BK338.out) hb);have n3_:=Aside0.mk (below_step (by repeat (first|(with_reducible first|exact HB.out|apply below_alloc|apply pw_below_drewN|apply below_drew1|refine below_set ?_ GE338.out)|exact HB.out)) hb);have n4_:=Aside0.mk (hbox);have n5_:=Aside0.mk ((by rw [hg];exact (below_size (by repeat (first|(with_reducible first|exact HB.out|apply below_alloc|apply pw_below_drewN|apply below_drew1|refine below_set ?_ GE338.out)|exact HB.out))) : w.heap.size ≤ gb346));have n6_:=Aside0.mk ((by rw [hg];exact (below_size (by repeat (first|(with_reducible first|exact HB.out|apply below_alloc|apply pw_below_drewN|apply below_drew1|refine below_set ?_ GE338.out)|exact HB.out))) : w.heap.size ≤ gb346));have n7_:=Aside0.mk ((by rw [hg];exact Nat.ne_of_lt (blk_lt (g:=gb338) (o:=.cells #[.int .i64 t335,.int .i64 t336,.int .i64 t337] 26 (0,0)) (by (with_reducible repeat (first|refine blk_drewN ?_ _|refine blk_drew ?_|refine blk_alloc ?_ _));exact BK338.out)) : gb338 ≠ gb346));have n8_:=Aside0.mk ((by rw [hg];exact Nat.ne_of_gt (blk_lt (g:=gb338) (o:=.cells #[.int .i64 t335,.int .i64 t336,.int .i64 t337] 26 (0,0)) (by (with_reducible repeat (first|refine blk_drewN ?_ _|refine blk_drew ?_|refine blk_alloc ?_ _));exact BK338.out)) : gb346 ≠ gb338));clear HO333;clear HO341;clear BK338;clear HB;have HO333:=n0_;have HO341:=n1_;have BK338:=n2_;have HB:=n3_;have BK346:=n4_;have GW346:=n5_;have GE346:=n6_;have NB338_346:=n7_;have NB346_338:=n8_;clear n0_ n1_ n2_ n3_ n4_ n5_ n6_ n7_ n8_;clear hb hbox hg;have hnb81:=NB346_338.out;have hnc81:=NB338_346.out;have hcz82_0 : w80.cell? ⟨gb346,0,none⟩ = some (.int .i64 0):=(blk_cell BK346.out 0).trans rfl;have hcz82_1 : w80.cell? ⟨gb346,1,none⟩ = some (.int .i64 0):=(blk_cell BK346.out 1).trans rfl;have hcz82_2 : w80.cell? ⟨gb346,2,none⟩ = some (.int .i64 0):=(blk_cell BK346.out 2).trans rfl;have hfz82_0:=blk_frozen BK346.out 0;have hfz82_1:=blk_frozen BK346.out 1;have hfz82_2:=blk_frozen BK346.out 2)|(go_at_call 8;(with_reducible refine (scan_All.calls ((a0 ++ (⟨#[10]⟩ : ByteArray)) ++ a1) t347 t350 t351 t352 t353 _ ?side1 A13.out).mono ?_);(case side1 => exact LW.below HLW.out (by repeat (first|(with_reducible first|exact HB.out|apply below_alloc|apply pw_below_drewN|apply below_drew1|refine below_set ?_ GE338.out|refine below_set ?_ GE346.out)|exact HB.out)));rintro e w83 ⟨v348,rfl,ho0,hb⟩;have n0_:=Aside0.mk (Kd.R_elder' (by (with_reducible repeat (first|apply Kd.R_alloc|apply Kd.R_drewN|apply Kd.R_drew));exact (Kd.R_mono (Kd.R_far (p:=⟨gb346,2,none⟩) (Kd.R_far (p:=⟨gb346,1,none⟩) (Kd.R_far (p:=⟨gb346,0,none⟩) (Kd.R_types HO333.out BK346.out (by decide)) (fun _ hk => hk.2) (.int .i64 t343)) (fun _ hk => hk.2) (.int .i64 t344)) (fun _ hk => hk.2) (.int .i64 t345)) (fun _ h_ => h_.1))) (Kd.R_base ho0) hb);have n1_:=Aside0.mk (Kd.R_elder' (by (with_reducible repeat (first|apply Kd.R_alloc|apply Kd.R_drewN|apply Kd.R_drew));exact (Kd.R_mono (Kd.R_far (p:=⟨gb346,2,none⟩) (Kd.R_far (p:=⟨gb346,1,none⟩) (Kd.R_far (p:=⟨gb346,0,none⟩) (Kd.R_types HO341.out BK346.out (by decide)) (fun _ hk => hk.2) (.int .i64 t343)) (fun _ hk => hk.2) (.int .i64 t344)) (fun _ hk => hk.2) (.int .i64 t345)) (fun _ h_ => h_.1))) (Kd.R_base ho0) hb);have n2_:=Aside0.mk (Kd.R_lower (Kd.R_new' (Kd.R_new' ho0 (Kd.R_lt (by (with_reducible repeat (first|apply Kd.R_alloc|apply Kd.R_drewN|apply Kd.R_drew));exact (Kd.R_mono (Kd.R_far (p:=⟨gb346,2,none⟩) (Kd.R_far (p:=⟨gb346,1,none⟩) (Kd.R_far (p:=⟨gb346,0,none⟩) (Kd.R_types HO333.out BK346.out (by decide)) (fun _ hk => hk.2) (.int .i64 t343)) (fun _ hk => hk.2) (.int .i64 t344)) (fun _ hk => hk.2) (.int .i64 t345)) (fun _ h_ => h_.1))))) (Kd.R_lt (by (with_reducible repeat (first|apply Kd.R_alloc|apply Kd.R_drewN|apply Kd.R_drew));exact (Kd.R_mono (Kd.R_far (p:=⟨gb346,2,none⟩) (Kd.R_far (p:=⟨gb346,1,none⟩) (Kd.R_far (p:=⟨gb346,0,none⟩) (Kd.R_types HO341.out BK346.out (by decide)) (fun _ hk => hk.2) (.int .i64 t343)) (fun _ hk => hk.2) (.int .i64 t344)) (fun _ hk => hk.2) (.int .i64 t345)) (fun _ h_ => h_.1))))) (below_size (by repeat (first|(with_reducible first|exact HB.out|apply below_alloc|apply pw_below_drewN|apply below_drew1|refine below_set ?_ GE338.out|refine below_set ?_ GE346.out)|exact HB.out))));have n3_:=Aside0.mk (blk_below (g:=gb338) (o:=.cells #[.int .i64 t335,.int .i64 t336,.int .i64 t337] 26 (0,0)) (by (with_reducible repeat (first|refine blk_drewN ?_ _|refine blk_drew ?_|refine blk_alloc ?_ _));refine blk_far ?_ NB338_346.out _;(with_reducible repeat (first|refine blk_drewN ?_ _|refine blk_drew ?_|refine blk_alloc ?_ _));refine blk_far ?_ NB338_346.out _;(with_reducible repeat (first|refine blk_drewN ?_ _|refine blk_drew ?_|refine blk_alloc ?_ _));refine blk_far ?_ NB338_346.out _;(with_reducible repeat (first|refine blk_drewN ?_ _|refine blk_drew ?_|refine blk_alloc ?_ _));exact BK338.out) hb);have n4_:=Aside0.mk (blk_below (g:=gb346) (o:=.cells #[.int .i64 t343,.int .i64 t344,.int .i64 t345] 26 (0,0)) (by (with_reducible repeat (first|refine blk_drewN ?_ _|refine blk_drew ?_|refine blk_alloc ?_ _));refine blk_put (cs:=#[.int .i64 t343,.int .i64 t344,.int .i64 0]) ?_ 2 _ rfl;(with_reducible repeat (first|refine blk_drewN ?_ _|refine blk_drew ?_|refine blk_alloc ?_ _));refine blk_put (cs:=#[.int .i64 t343,.int .i64 0,.int .i64 0]) ?_ 1 _ rfl;(with_reducible repeat (first|refine blk_drewN ?_ _|refine blk_drew ?_|refine blk_alloc ?_ _));refine blk_put (cs:=#[.int .i64 0,.int .i64 0,.int .i64 0]) ?_ 0 _ rfl;(with_reducible repeat (first|refine blk_drewN ?_ _|refine blk_drew ?_|refine blk_alloc ?_ _));exact BK346.out) hb);have n5_:=Aside0.mk (below_step (by repeat (first|(with_reducible first|exact HB.out|apply below_alloc|apply pw_below_drewN|apply below_drew1|refine below_set ?_ GE338.out|refine below_set ?_ GE346.out)|exact HB.out)) hb);clear HO333;clear HO341;clear BK338;clear BK346;clear HB;have HO333:=n0_;have HO341:=n1_;have HO349:=n2_;have BK338:=n3_;have BK346:=n4_;have HB:=n5_;clear n0_ n1_ n2_ n3_ n4_ n5_;(try clear hb);(try clear hb2);(try clear hk);(try clear hi);(try clear ho0))|((with_reducible refine gate_dst (N:=14) rfl ?_);(try (refine gate_guard (by rfl) ?_;dsimp only));refine box_event ?hg (N:=14) ?hd (cs:=#[.int .i64 0,.int .i64 0,.int .i64 0]) (t:=26) ?hr ?_;(case hd => rfl);(case hg => rfl);(case hr => first|(go_simp;done)|(go_simp;rfl));intro gb354 hg w84 hbox hb;have n0_:=Aside0.mk (Kd.R_below (by (with_reducible repeat (first|apply Kd.R_alloc|apply Kd.R_drewN|apply Kd.R_drew));exact HO333.out) hb);have n1_:=Aside0.mk (Kd.R_below (by (with_reducible repeat (first|apply Kd.R_alloc|apply Kd.R_drewN|apply Kd.R_drew));exact HO341.out) hb);have n2_:=Aside0.mk (Kd.R_below (by (with_reducible repeat (first|apply Kd.R_alloc|apply Kd.R_drewN|apply Kd.R_drew));exact HO349.out) hb);have n3_:=Aside0.mk (blk_below (g:=gb338) (o:=.cells #[.int .i64 t335,.int .i64 t336,.int .i64 t337] 26 (0,0)) (by (with_reducible repeat (first|refine blk_drewN ?_ _|refine blk_drew ?_|refine blk_alloc ?_ _));exact BK338.out) hb);have n4_:=Aside0.mk (blk_below (g:=gb346) (o:=.cells #[.int .i64 t343,.int .i64 t344,.int .i64 t345] 26 (0,0)) (by (with_reducible repeat (first|refine blk_drewN ?_ _|refine blk_drew ?_|refine blk_alloc ?_ _));exact BK346.out) hb);have n5_:=Aside0.mk (below_step (by repeat (first|(with_reducible first|exact HB.out|apply below_alloc|apply pw_below_drewN|apply below_drew1|refine below_set ?_ GE338.out|refine below_set ?_ GE346.out)|exact HB.out)) hb);have n6_:=Aside0.mk (hbox);have n7_:=Aside0.mk ((by rw [hg];exact (below_size (by repeat (first|(with_reducible first|exact HB.out|apply below_alloc|apply pw_below_drewN|apply below_drew1|refine below_set ?_ GE338.out|refine below_set ?_ GE346.out)|exact HB.out))) : w.heap.size ≤ gb354));have n8_:=Aside0.mk ((by rw [hg];exact (below_size (by repeat (first|(with_reducible first|exact HB.out|apply below_alloc|apply pw_below_drewN|apply below_drew1|refine below_set ?_ GE338.out|refine below_set ?_ GE346.out)|exact HB.out))) : w.heap.size ≤ gb354));have n9_:=Aside0.mk ((by rw [hg];exact Nat.ne_of_lt (blk_lt (g:=gb338) (o:=.cells #[.int .i64 t335,.int .i64 t336,.int .i64 t337] 26 (0,0)) (by (with_reducible repeat (first|refine blk_drewN ?_ _|refine blk_drew ?_|refine blk_alloc ?_ _));exact BK338.out)) : gb338 ≠ gb354));have n10_:=Aside0.mk ((by rw [hg];exact Nat.ne_of_gt (blk_lt (g:=gb338) (o:=.cells #[.int .i64 t335,.int .i64 t336,.int .i64 t337] 26 (0,0)) (by (with_reducible repeat (first|refine blk_drewN ?_ _|refine blk_drew ?_|refine blk_alloc ?_ _));exact BK338.out)) : gb354 ≠ gb338));have n11_:=Aside0.mk ((by rw [hg];exact Nat.ne_of_lt (blk_lt (g:=gb346) (o:=.cells #[.int .i64 t343,.int .i64 t344,.int .i64 t345] 26 (0,0)) (by (with_reducible repeat (first|refine blk_drewN ?_ _|refine blk_drew ?_|refine blk_alloc ?_ _));exact BK346.out)) : gb346 ≠ gb354));have n12_:=Aside0.mk ((by rw [hg];exact Nat.ne_of_gt (blk_lt (g:=gb346) (o:=.cells #[.int .i64 t343,.int .i64 t344,.int .i64 t345] 26 (0,0)) (by (with_reducible repeat (first|refine blk_drewN ?_ _|refine blk_drew ?_|refine blk_alloc ?_ _));exact BK346.out)) : gb354 ≠ gb346));clear HO333;clear HO341;clear HO349;clear BK338;clear BK346;clear HB;have HO333:=n0_;have HO341:=n1_;have HO349:=n2_;have BK338:=n3_;have BK346:=n4_;have HB:=n5_;have BK354:=n6_;have GW354:=n7_;have GE354:=n8_;have NB338_354:=n9_;have NB354_338:=n10_;have NB346_354:=n11_;have NB354_346:=n12_;clear n0_ n1_ n2_ n3_ n4_ n5_ n6_ n7_ n8_ n9_ n10_ n11_ n12_;clear hb hbox hg;have hnb85:=NB354_338.out;have hnc85:=NB338_354.out;have hnb86:=NB354_346.out;have hnc86:=NB346_354.out;have hcz87_0 : w84.cell? ⟨gb354,0,none⟩ = some (.int .i64 0):=(blk_cell BK354.out 0).trans rfl;have hcz87_1 : w84.cell? ⟨gb354,1,none⟩ = some (.int .i64 0):=(blk_cell BK354.out 1).trans rfl;have hcz87_2 : w84.cell? ⟨gb354,2,none⟩ = some (.int .i64 0):=(blk_cell BK354.out 2).trans rfl;have hfz87_0:=blk_frozen BK354.out 0;have hfz87_1:=blk_frozen BK354.out 1;have hfz87_2:=blk_frozen BK354.out 2)))
       go_ret
       exact ⟨by first|rfl|(simp [errW_none, errW_some] <;> rfl)|(simp [*, errW_none, errW_some] <;> rfl), by repeat (first|(with_reducible first|exact HB.out|apply below_alloc|apply pw_below_drewN|apply below_drew1|refine below_set ?_ GE338.out|refine below_set ?_ GE346.out|refine below_set ?_ GE354.out)|exact HB.out)⟩
     ·rw [if_neg c12] at H
      exact absurd H (by simp)
    ·rw [if_neg c11] at H
     exact absurd H (by simp)

end Go.Proofs.YtgfloplakjmncaaDoor.PScan
