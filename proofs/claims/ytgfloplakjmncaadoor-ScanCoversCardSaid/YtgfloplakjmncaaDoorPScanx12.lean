-- Printed by the prover's own program (wip/xprint.py) over the kit's print. Not trusted: Lean checks it.
import Derived.Test.YtgfloplakjmncaaDoorPScanx0
import Derived.Test.YtgfloplakjmncaaDoorPScanx1
import Derived.Test.YtgfloplakjmncaaDoorPScanx3
import Derived.Test.YtgfloplakjmncaaDoorPScanx11
import Derived.Test.YtgfloplakjmncaaDoorXF
namespace Go.Proofs.YtgfloplakjmncaaDoor.PScan
open Go.RowKit Go.Proofs.YtgfloplakjmncaaDoorW.PrintWords Go.Proofs.YtgfloplakjmncaaDoorW.PrintLast Go.Proofs.YtgfloplakjmncaaDoorW.PrintMore
attribute [local go_sem] max2_int min2_int max_two min_two max_three min_three max_four min_four   -- for this text's walks alone
set_option linter.unusedVariables false
set_option linter.unusedSimpArgs false

attribute [local go_sem high] eqA26
/-! ### colophonlaw10_ScanCovers: function 6 -/
mutual
def colophonlaw10_ScanCovers.j0 : Nat → ByteArray → Bool → Bool → Option (Bool)
 | 0, _, _, _ => none
 | k + 1, x0, x3, x25 => if x25 = true then (some x3) else ((scan_All.f x0).bind fun bt306 => (if bt306.2.1 = 0 then (colophonlaw10_ScanCovers.j1 k x0 bt306.1 bt306.2.1 (x0.size : Int)) else ((place_Of.f x0 bt306.2.2.1).bind fun bt314 => (if bt314.2.2.2 = 0 then (if (!(bt306.2.2.1 == bt314.1) || (!(bt306.2.2.2.1 == bt314.2.1) || (!(bt306.2.2.2.2 == bt314.2.2.1)))) = true then (none) else (colophonlaw10_ScanCovers.j1 k x0 bt306.1 bt306.2.1 bt306.2.2.1)) else (none)))))
def colophonlaw10_ScanCovers.j1 : Nat → ByteArray → List (S35) → Int → Int → Option (Bool)
 | 0, _, _, _, _ => none
 | k + 1, x0, x4, x5, x7 => (place_Start.f).bind fun bt319 => (colophonlaw10_ScanCovers.l0 k x0 x4 x5 x7 0 0 bt319.1 bt319.2.1 bt319.2.2)
def colophonlaw10_ScanCovers.l0 : Nat → ByteArray → List (S35) → Int → Int → Int → Int → Int → Int → Int → Option (Bool)
 | 0, _, _, _, _, _, _, _, _, _ => none
 | k + 1, x0, x4, x5, x7, x10, x12, x323000, x323001, x323002 => if x12 < (x4.length : Int) then (if 0 ≤ x12 then ((colophonlaw10_between.f k x0 x10 ((rd_T35 x4 x12).f2.f0)).bind fun t326 => (if t326 < 0 then (none) else (if t326 = ((rd_T35 x4 x12).f3) then (if (((rd_T35 x4 x12).f1).size : Int) = 0 then (none) else (if (wrap64 (((rd_T35 x4 x12).f2.f0) + (((rd_T35 x4 x12).f1).size : Int))) > (x0.size : Int) then (none) else (if 0 ≤ ((rd_T35 x4 x12).f2.f0) then (if ((rd_T35 x4 x12).f2.f0) ≤ (wrap64 (((rd_T35 x4 x12).f2.f0) + (((rd_T35 x4 x12).f1).size : Int))) then (if (wrap64 (((rd_T35 x4 x12).f2.f0) + (((rd_T35 x4 x12).f1).size : Int))) ≤ (x0.size : Int) then (colophonlaw10_ScanCovers.j3 k x0 x4 x5 x7 x12 (wrap64 (((rd_T35 x4 x12).f2.f0) + (((rd_T35 x4 x12).f1).size : Int))) ((x0.extract (((rd_T35 x4 x12).f2.f0) : Int).toNat ((wrap64 (((rd_T35 x4 x12).f2.f0) + (((rd_T35 x4 x12).f1).size : Int))) : Int).toNat).toList != ((rd_T35 x4 x12).f1).toList) x323000 x323001 x323002 ((rd_T35 x4 x12).f0) ((rd_T35 x4 x12).f1) ((rd_T35 x4 x12).f2.f0) ((rd_T35 x4 x12).f2.f1) ((rd_T35 x4 x12).f2.f2) ((rd_T35 x4 x12).f3)) else (none)) else (none)) else (none)))) else (none)))) else (none)) else ((colophonlaw10_between.f k x0 x10 x7).bind fun t323 => (if t323 ≥ 0 then (some true) else (if x5 = 102 then (some (decide (x10 < x7))) else (none))))
def colophonlaw10_ScanCovers.j3 : Nat → ByteArray → List (S35) → Int → Int → Int → Int → Bool → Int → Int → Int → Int → ByteArray → Int → Int → Int → Int → Option (Bool)
 | 0, _, _, _, _, _, _, _, _, _, _, _, _, _, _, _, _ => none
 | k + 1, x0, x4, x5, x7, x12, x15, x107, x323000, x323001, x323002, x326000, x326001, x326002, x326003, x326004, x326005 => if x107 = true then (none) else (if 0 ≤ x323000 then (if x323000 ≤ x326002 then (if x326002 ≤ (x0.size : Int) then ((place_Advance.f x323000 x323001 x323002 (x0.extract (x323000 : Int).toNat (x326002 : Int).toNat)).bind fun bt327 => (if (!(x326002 == bt327.1) || (!(x326003 == bt327.2.1) || (!(x326004 == bt327.2.2)))) = true then (none) else (colophonlaw10_ScanCovers.l0 k x0 x4 x5 x7 x15 (wrap64 (x12 + 1)) bt327.1 bt327.2.1 bt327.2.2))) else (none)) else (none)) else (none))
end
def colophonlaw10_ScanCovers.f (k : Nat) (a0 : ByteArray) : Option (Bool) := (colophonlaw10_awake.f k).bind fun t305 => (if t305 = true then (colophonlaw10_ScanCovers.j0 k a0 t305 (decide ((a0.size : Int) > 67108864))) else (colophonlaw10_ScanCovers.j0 k a0 t305 true))
theorem colophonlaw10_ScanCovers.mono_l : ∀ k, (∀ y0 y1 y2, LeO (colophonlaw10_ScanCovers.j0 k y0 y1 y2) (colophonlaw10_ScanCovers.j0 (k + 1) y0 y1 y2)) ∧ (∀ y0 y1 y2 y3, LeO (colophonlaw10_ScanCovers.j1 k y0 y1 y2 y3) (colophonlaw10_ScanCovers.j1 (k + 1) y0 y1 y2 y3)) ∧ (∀ y0 y1 y2 y3 y4 y5 y6 y7 y8, LeO (colophonlaw10_ScanCovers.l0 k y0 y1 y2 y3 y4 y5 y6 y7 y8) (colophonlaw10_ScanCovers.l0 (k + 1) y0 y1 y2 y3 y4 y5 y6 y7 y8)) ∧ (∀ y0 y1 y2 y3 y4 y5 y6 y7 y8 y9 y10 y11 y12 y13 y14 y15, LeO (colophonlaw10_ScanCovers.j3 k y0 y1 y2 y3 y4 y5 y6 y7 y8 y9 y10 y11 y12 y13 y14 y15) (colophonlaw10_ScanCovers.j3 (k + 1) y0 y1 y2 y3 y4 y5 y6 y7 y8 y9 y10 y11 y12 y13 y14 y15))
 | 0 => ⟨fun _ _ _ r h => by simp [colophonlaw10_ScanCovers.j0] at h, fun _ _ _ _ r h => by simp [colophonlaw10_ScanCovers.j1] at h, fun _ _ _ _ _ _ _ _ _ r h => by simp [colophonlaw10_ScanCovers.l0] at h, fun _ _ _ _ _ _ _ _ _ _ _ _ _ _ _ _ r h => by simp [colophonlaw10_ScanCovers.j3] at h⟩
 | k + 1 => by
  obtain ⟨ih0, ih1, ih2, ih3⟩ := colophonlaw10_ScanCovers.mono_l k
  refine ⟨?_, ?_, ?_, ?_⟩
  ·intro y0 y1 y2
   unfold colophonlaw10_ScanCovers.j0
   repeat' first
   | (with_reducible exact ih0 _ _ _)
   | (with_reducible exact ih1 _ _ _ _)
   | (with_reducible exact ih2 _ _ _ _ _ _ _ _ _)
   | (with_reducible exact ih3 _ _ _ _ _ _ _ _ _ _ _ _ _ _ _ _)
   | (with_reducible exact colophonlaw10_awake.mono _)
   | (with_reducible exact colophonlaw10_between.mono _ _ _ _)
   | (with_reducible exact LeO.refl _)
   | (with_reducible exact LeO.none _)
   | (with_reducible refine LeO.ite ?_ ?_)
   | (with_reducible refine LeO.bind ?_ (fun _ => ?_))
   | exact ih0 _ _ _
   | exact ih1 _ _ _ _
   | exact ih2 _ _ _ _ _ _ _ _ _
   | exact ih3 _ _ _ _ _ _ _ _ _ _ _ _ _ _ _ _
   | exact colophonlaw10_awake.mono _
   | exact colophonlaw10_between.mono _ _ _ _
   | exact LeO.none _
   | refine LeO.ite ?_ ?_
   | refine LeO.bind ?_ (fun _ => ?_)
  ·intro y0 y1 y2 y3
   unfold colophonlaw10_ScanCovers.j1
   repeat' first
   | (with_reducible exact ih0 _ _ _)
   | (with_reducible exact ih1 _ _ _ _)
   | (with_reducible exact ih2 _ _ _ _ _ _ _ _ _)
   | (with_reducible exact ih3 _ _ _ _ _ _ _ _ _ _ _ _ _ _ _ _)
   | (with_reducible exact colophonlaw10_awake.mono _)
   | (with_reducible exact colophonlaw10_between.mono _ _ _ _)
   | (with_reducible exact LeO.refl _)
   | (with_reducible exact LeO.none _)
   | (with_reducible refine LeO.ite ?_ ?_)
   | (with_reducible refine LeO.bind ?_ (fun _ => ?_))
   | exact ih0 _ _ _
   | exact ih1 _ _ _ _
   | exact ih2 _ _ _ _ _ _ _ _ _
   | exact ih3 _ _ _ _ _ _ _ _ _ _ _ _ _ _ _ _
   | exact colophonlaw10_awake.mono _
   | exact colophonlaw10_between.mono _ _ _ _
   | exact LeO.none _
   | refine LeO.ite ?_ ?_
   | refine LeO.bind ?_ (fun _ => ?_)
  ·intro y0 y1 y2 y3 y4 y5 y6 y7 y8
   unfold colophonlaw10_ScanCovers.l0
   repeat' first
   | (with_reducible exact ih0 _ _ _)
   | (with_reducible exact ih1 _ _ _ _)
   | (with_reducible exact ih2 _ _ _ _ _ _ _ _ _)
   | (with_reducible exact ih3 _ _ _ _ _ _ _ _ _ _ _ _ _ _ _ _)
   | (with_reducible exact colophonlaw10_awake.mono _)
   | (with_reducible exact colophonlaw10_between.mono _ _ _ _)
   | (with_reducible exact LeO.refl _)
   | (with_reducible exact LeO.none _)
   | (with_reducible refine LeO.ite ?_ ?_)
   | (with_reducible refine LeO.bind ?_ (fun _ => ?_))
   | exact ih0 _ _ _
   | exact ih1 _ _ _ _
   | exact ih2 _ _ _ _ _ _ _ _ _
   | exact ih3 _ _ _ _ _ _ _ _ _ _ _ _ _ _ _ _
   | exact colophonlaw10_awake.mono _
   | exact colophonlaw10_between.mono _ _ _ _
   | exact LeO.none _
   | refine LeO.ite ?_ ?_
   | refine LeO.bind ?_ (fun _ => ?_)
  ·intro y0 y1 y2 y3 y4 y5 y6 y7 y8 y9 y10 y11 y12 y13 y14 y15
   unfold colophonlaw10_ScanCovers.j3
   repeat' first
   | (with_reducible exact ih0 _ _ _)
   | (with_reducible exact ih1 _ _ _ _)
   | (with_reducible exact ih2 _ _ _ _ _ _ _ _ _)
   | (with_reducible exact ih3 _ _ _ _ _ _ _ _ _ _ _ _ _ _ _ _)
   | (with_reducible exact colophonlaw10_awake.mono _)
   | (with_reducible exact colophonlaw10_between.mono _ _ _ _)
   | (with_reducible exact LeO.refl _)
   | (with_reducible exact LeO.none _)
   | (with_reducible refine LeO.ite ?_ ?_)
   | (with_reducible refine LeO.bind ?_ (fun _ => ?_))
   | exact ih0 _ _ _
   | exact ih1 _ _ _ _
   | exact ih2 _ _ _ _ _ _ _ _ _
   | exact ih3 _ _ _ _ _ _ _ _ _ _ _ _ _ _ _ _
   | exact colophonlaw10_awake.mono _
   | exact colophonlaw10_between.mono _ _ _ _
   | exact LeO.none _
   | refine LeO.ite ?_ ?_
   | refine LeO.bind ?_ (fun _ => ?_)
theorem colophonlaw10_ScanCovers.mono : ∀ a0 k, LeO (colophonlaw10_ScanCovers.f k a0) (colophonlaw10_ScanCovers.f (k + 1) a0) := by
 intro a0 k
 obtain ⟨ih0, ih1, ih2, ih3⟩ := colophonlaw10_ScanCovers.mono_l k
 unfold colophonlaw10_ScanCovers.f
 repeat' first
   | (with_reducible exact ih0 _ _ _)
   | (with_reducible exact ih1 _ _ _ _)
   | (with_reducible exact ih2 _ _ _ _ _ _ _ _ _)
   | (with_reducible exact ih3 _ _ _ _ _ _ _ _ _ _ _ _ _ _ _ _)
   | (with_reducible exact colophonlaw10_awake.mono _)
   | (with_reducible exact colophonlaw10_between.mono _ _ _ _)
   | (with_reducible exact LeO.refl _)
   | (with_reducible exact LeO.none _)
   | (with_reducible refine LeO.ite ?_ ?_)
   | (with_reducible refine LeO.bind ?_ (fun _ => ?_))
   | exact ih0 _ _ _
   | exact ih1 _ _ _ _
   | exact ih2 _ _ _ _ _ _ _ _ _
   | exact ih3 _ _ _ _ _ _ _ _ _ _ _ _ _ _ _ _
   | exact colophonlaw10_awake.mono _
   | exact colophonlaw10_between.mono _ _ _ _
   | exact LeO.none _
   | refine LeO.ite ?_ ?_
   | refine LeO.bind ?_ (fun _ => ?_)
def colophonlaw10_ScanCovers.T19 : Bool × List (List Nat × List Nat) := (true, [([], []), ([0], [0]), ([1], [1]), ([2], [2]), ([2], [2]), ([4, 2], [2, 4]), ([3, 5, 2], [2, 3, 5]), ([2, 6], [2, 6]), ([7, 2], [7]), ([8], [8]), ([9, 8], [8, 9]), ([10, 8], [8, 10]), ([11, 8], [8, 11]), ([8, 12], [8, 12]), ([13, 8], [13]), ([14], [14]), ([14], [14]), ([16, 14], [14, 16]), ([15, 17, 14], [14, 15, 17]), ([14, 18], [14, 18]), ([19, 14], [19]), ([20], [20]), ([20], [20]), ([22, 20], [20, 22]), ([23, 20], [20, 23]), ([20], [20]), ([21, 24, 25, 20], [20, 21, 24, 25]), ([20], [20]), ([27, 20], [20, 27]), ([26, 28, 20], [20, 26, 28]), ([20, 29], [20, 29])])
def colophonlaw10_ScanCovers.B19 : List Nat := [0, 1, 3, 7, 7, 23, 63, 127, 255, 511, 1023, 2047, 4095, 8191, 16383, 32767, 32767, 98303, 262143, 524287, 1048575, 2097151, 2097151, 6291455, 14680063, 2097151, 67108863, 2097151, 136314879, 536870911, 1073741823]
theorem colophonlaw10_ScanCovers.tab19 : rtab .any (opsOf Tryd.f6 19) = colophonlaw10_ScanCovers.T19 := by kernel_rfl
theorem colophonlaw10_ScanCovers.bits19 : waitsOk colophonlaw10_ScanCovers.T19.2 colophonlaw10_ScanCovers.B19 = true := by kernel_rfl
def colophonlaw10_ScanCovers.T21 : Bool × List (List Nat × List Nat) := (true, [([], []), ([], []), ([], []), ([2], [2]), ([], []), ([4], [4]), ([5], [5]), ([1, 3, 6], [1, 3, 6]), ([0, 7], [0, 7]), ([8, 8, 0, 1, 2, 3, 4, 5, 6, 7, 8], [8])])
def colophonlaw10_ScanCovers.B21 : List Nat := [0, 0, 0, 4, 0, 16, 48, 126, 255, 511]
theorem colophonlaw10_ScanCovers.tab21 : rtab .any (opsOf Tryd.f6 21) = colophonlaw10_ScanCovers.T21 := by kernel_rfl
theorem colophonlaw10_ScanCovers.bits21 : waitsOk colophonlaw10_ScanCovers.T21.2 colophonlaw10_ScanCovers.B21 = true := by kernel_rfl
set_option maxHeartbeats 8000000 in
set_option maxRecDepth 100000 in
theorem colophonlaw10_ScanCovers.calls (k : Nat) (a0 : ByteArray) (r : Bool) (w : World) (hLW : LW w) (h : colophonlaw10_ScanCovers.f k a0 = some r) :
  Calls Tryd.prog 6 #[.string a0] w fun e w' => e = .returned (.bool r) ∧ Below w.heap.size w w' := by
 have hu26 := Tryd.underlying26
 have hu35 := Tryd.underlying35
 have HB := Aside0.mk (Below.refl w.heap.size w)
 have HLW := Aside0.mk hLW
 clear hLW
 have H : ((colophonlaw10_awake.f k).bind fun t305 => (if t305 = true then (colophonlaw10_ScanCovers.j0 k a0 t305 (decide ((a0.size : Int) > 67108864))) else (colophonlaw10_ScanCovers.j0 k a0 t305 true))) = some r := h
 clear h
 replace H := Option.bind_eq_some_iff.mp H
 obtain ⟨t305, A20, H⟩ := H
 replace H : (if t305 = true then (colophonlaw10_ScanCovers.j0 k a0 t305 (decide ((a0.size : Int) > 67108864))) else (colophonlaw10_ScanCovers.j0 k a0 t305 true)) = some r := H
 have A2 := Aside0.mk A20
 clear A20
 have HC3 := Aside0.mk H
 clear H
 go_enter Tryd.func6, Tryd.ntmps6
 go_upto_region 2 with (first|((with_reducible refine gate_callee (f := 7) rfl ?_); refine goesL_ (some 18) rfl rfl Tryd.func7 (by kernel_rfl) rfl #[] rfl (by (try simp only [List.map_toArray, List.map_cons, List.map_nil]); first|done|rfl|(simp only [List.length_drop, List.length_take]; rfl)) ?_; (with_reducible refine (colophonlaw10_awake.calls k  t305 _ ?side1 A2.out).mono ?_); (case side1 => exact LW.below HLW.out (by repeat (first|(with_reducible first|exact HB.out|apply below_alloc|apply pw_below_drewN|apply below_drew1)|exact HB.out))); rintro e w4 ⟨rfl, hb⟩; refine ⟨_, rfl, ?_⟩; have n0_ := Aside0.mk (below_step (by repeat (first|(with_reducible first|exact HB.out|apply below_alloc|apply pw_below_drewN|apply below_drew1)|exact HB.out)) hb); clear HB; have HB := n0_; clear n0_; (try clear hb); (try clear hb2); (try clear hk); (try clear hi)))
 (try simp only [Act.put, List.setIfInBounds_toArray, List.set_cons_zero, List.set_cons_succ])
 go_cut [25] (fun v25 wc => ∃ (kq : Nat) (x25_2 : Bool), v25 = .bool x25_2 ∧ Aside0 (colophonlaw10_ScanCovers.j0 kq a0 t305 x25_2 = some r) ∧ Aside0 (kq ≤ k) ∧ Aside0 (Below w.heap.size w wc))
 case first =>
  have H := HC3.out
  clear HC3
  by_cases c5 : t305 = true
  ·subst c5
   have H1 : (colophonlaw10_ScanCovers.j0 k a0 true (decide ((a0.size : Int) > 67108864))) = some r := by rw [if_pos rfl] at H; exact H
   clear H
   have H := H1
   clear H1
   have H' := Aside0.mk H
   clear H
   go_wp2
   go_meet
   case rel => exact ⟨_, (decide ((a0.size : Int) > 67108864)), (by first|rfl|(simp; done)|(simp [*]; done)), H', ⟨by first|omega|exact Nat.le_refl _⟩, ⟨by repeat (first|(with_reducible first|exact HB.out|apply below_alloc|apply pw_below_drewN|apply below_drew1)|exact HB.out)⟩⟩
  ·replace c5 := Bool.eq_false_iff.mpr c5
   subst c5
   have H1 : (colophonlaw10_ScanCovers.j0 k a0 false true) = some r := by rw [if_neg (show ¬ (false = true) by decide)] at H; exact H
   clear H
   have H := H1
   clear H1
   have H' := Aside0.mk H
   clear H
   go_wp2
   go_meet
   case rel => exact ⟨_, (true), (by first|rfl|(simp; done)|(simp [*]; done)), H', ⟨by first|omega|exact Nat.le_refl _⟩, ⟨by repeat (first|(with_reducible first|exact HB.out|apply below_alloc|apply pw_below_drewN|apply below_drew1)|exact HB.out)⟩⟩
 case rest =>
  clear HC3
  try clear p2
  try clear c5
  obtain ⟨kq, x25_2, rfl, HA, HJ2, HB⟩ := hcut
  cases kq with
  | zero => exact absurd HA.out (by simp [colophonlaw10_ScanCovers.j0])
  | succ kj2 =>
   have H := HA.out
   clear HA
   simp only [colophonlaw10_ScanCovers.j0] at H
   by_cases c6 : x25_2 = true
   ·subst c6
    have H1 : (some t305) = some r := by rw [if_pos rfl] at H; exact H
    clear H
    have H := H1
    clear H1
    obtain rfl := Option.some.inj H
    go_wp2
    go_ret
    exact ⟨by first|rfl|(simp [errW_none, errW_some] <;> rfl)|(simp [*, errW_none, errW_some] <;> rfl), by repeat (first|(with_reducible first|exact HB.out|apply below_alloc|apply pw_below_drewN|apply below_drew1)|exact HB.out)⟩
   ·replace c6 := Bool.eq_false_iff.mpr c6
    subst c6
    have H1 : ((scan_All.f a0).bind fun bt306 => (if bt306.2.1 = 0 then (colophonlaw10_ScanCovers.j1 kj2 a0 bt306.1 bt306.2.1 (a0.size : Int)) else ((place_Of.f a0 bt306.2.2.1).bind fun bt314 => (if bt314.2.2.2 = 0 then (if (!(bt306.2.2.1 == bt314.1) || (!(bt306.2.2.2.1 == bt314.2.1) || (!(bt306.2.2.2.2 == bt314.2.2.1)))) = true then (none) else (colophonlaw10_ScanCovers.j1 kj2 a0 bt306.1 bt306.2.1 bt306.2.2.1)) else (none))))) = some r := by rw [if_neg (show ¬ (false = true) by decide)] at H; exact H
    clear H
    have H := H1
    clear H1
    replace H := Option.bind_eq_some_iff.mp H
    obtain ⟨⟨t306, t309, t310, t311, t312⟩, A70, H⟩ := H
    replace H : (if t309 = 0 then (colophonlaw10_ScanCovers.j1 kj2 a0 t306 t309 (a0.size : Int)) else ((place_Of.f a0 t310).bind fun bt314 => (if bt314.2.2.2 = 0 then (if (!(t310 == bt314.1) || (!(t311 == bt314.2.1) || (!(t312 == bt314.2.2.1)))) = true then (none) else (colophonlaw10_ScanCovers.j1 kj2 a0 t306 t309 t310)) else (none)))) = some r := H
    have A7 := Aside0.mk A70
    clear A70
    have HC8 := Aside0.mk H
    clear H
    go_upto_if 36 with (first|((with_reducible refine gate_callee (f:=8) rfl ?_);refine goesL_ (some 29) rfl rfl Tryd.func8 (by kernel_rfl) rfl #[.string a0] rfl (by (try simp only [List.map_toArray,List.map_cons,List.map_nil]);first|done|rfl|(simp only [List.length_drop,List.length_take];rfl)) ?_;(with_reducible refine (scan_All.calls a0 t306 t309 t310 t311 t312 _ ?side1 A7.out).mono ?_);(case side1 => exact LW.below HLW.out (by repeat (first|(with_reducible first|exact HB.out|apply below_alloc|apply pw_below_drewN|apply below_drew1)|exact HB.out)));rintro e w9 ⟨v307,rfl,ho0,hb⟩;refine ⟨_,rfl,?_⟩;have n0_:=Aside0.mk (Kd.R_lower ho0 (below_size (by repeat (first|(with_reducible first|exact HB.out|apply below_alloc|apply pw_below_drewN|apply below_drew1)|exact HB.out))));have n1_:=Aside0.mk (below_step (by repeat (first|(with_reducible first|exact HB.out|apply below_alloc|apply pw_below_drewN|apply below_drew1)|exact HB.out)) hb);clear HB;have HO308:=n0_;have HB:=n1_;clear n0_ n1_;(try clear hb);(try clear hb2);(try clear hk);(try clear hi);(try clear ho0))|((with_reducible refine gate_dst (N:=6) rfl ?_);(try (refine gate_guard (by rfl) ?_;dsimp only));refine box_event ?hg (N:=6) ?hd (cs:=#[.int .i64 0,.int .i64 0,.int .i64 0]) (t:=26) ?hr ?_;(case hd => rfl);(case hg => rfl);(case hr => first|(go_simp;done)|(go_simp;rfl));intro gb313 hg w10 hbox hb;have n0_:=Aside0.mk (Kd.R_below (by (with_reducible repeat (first|apply Kd.R_alloc|apply Kd.R_drewN|apply Kd.R_drew));exact HO308.out) hb);have n1_:=Aside0.mk (below_step (by repeat (first|(with_reducible first|exact HB.out|apply below_alloc|apply pw_below_drewN|apply below_drew1)|exact HB.out)) hb);have n2_:=Aside0.mk (hbox);have n3_:=Aside0.mk ((by rw [hg];exact (below_size (by repeat (first|(with_reducible first|exact HB.out|apply below_alloc|apply pw_below_drewN|apply below_drew1)|exact HB.out))) : w.heap.size ≤ gb313));have n4_:=Aside0.mk ((by rw [hg];exact (below_size (by repeat (first|(with_reducible first|exact HB.out|apply below_alloc|apply pw_below_drewN|apply below_drew1)|exact HB.out))) : w.heap.size ≤ gb313));clear HO308;clear HB;have HO308:=n0_;have HB:=n1_;have BK313:=n2_;have GW313:=n3_;have GE313:=n4_;clear n0_ n1_ n2_ n3_ n4_;clear hb hbox hg;have hcz11_0 : w10.cell? ⟨gb313,0,none⟩ = some (.int .i64 0):=(blk_cell BK313.out 0).trans rfl;have hcz11_1 : w10.cell? ⟨gb313,1,none⟩ = some (.int .i64 0):=(blk_cell BK313.out 1).trans rfl;have hcz11_2 : w10.cell? ⟨gb313,2,none⟩ = some (.int .i64 0):=(blk_cell BK313.out 2).trans rfl;have hfz11_0:=blk_frozen BK313.out 0;have hfz11_1:=blk_frozen BK313.out 1;have hfz11_2:=blk_frozen BK313.out 2))
    (try simp only [Act.put, List.setIfInBounds_toArray, List.set_cons_zero, List.set_cons_succ])
    go_cut [7] (fun v7 wc => ∃ (kq : Nat) (x7_7 : Int), v7 = .int .i64 x7_7 ∧ Aside0 (colophonlaw10_ScanCovers.j1 kq a0 t306 t309 x7_7 = some r) ∧ Aside0 (kq ≤ kj2) ∧ Aside0 (Kd.R k35 35 wc w.heap.size (fun _ => True) v307 t306) ∧ Aside0 (wc.heap[gb313]? = some (.cells #[.int .i64 t310, .int .i64 t311, .int .i64 t312] 26 (0, 0))) ∧ Aside0 (Below w.heap.size w wc))
    case first =>
     have H := HC8.out
     clear HC8
     by_cases c12 : t309 = 0
     ·rw [if_pos c12] at H
      have c12b0 : (t309 == 0) = true := beq_iff_eq.mpr c12
      have c12b1 : (t309 != 0) = false := bne_eq_false_iff_eq.mpr c12
      clear c12
      (first|rw [c12b0]|(simp only [i64_w, i32_w]; rw [c12b0])|skip)
      have H' := Aside0.mk H
      clear H
      go_wp2
      go_meet
      case rel => exact ⟨_, ((a0.size : Int)), (by first|rfl|(simp; done)|(simp [*]; done)), H', ⟨by have := HJ2.out; first|omega|exact Nat.le_refl _⟩, ⟨by (with_reducible repeat (first|apply Kd.R_alloc|apply Kd.R_drewN|apply Kd.R_drew)); exact Kd.R_mono (Kd.R_far (p := ⟨gb313, 2, none⟩) (Kd.R_far (p := ⟨gb313, 1, none⟩) (Kd.R_far (p := ⟨gb313, 0, none⟩) (Kd.R_types HO308.out BK313.out (by decide)) (fun _ hk => hk.2) (.int .i64 t310)) (fun _ hk => hk.2) (.int .i64 t311)) (fun _ hk => hk.2) (.int .i64 t312)) (fun _ hk => trivial)⟩, ⟨by (with_reducible repeat (first|refine blk_drewN ?_ _|refine blk_drew ?_|refine blk_alloc ?_ _)); refine blk_put (cs := #[.int .i64 t310, .int .i64 t311, .int .i64 0]) ?_ 2 _ rfl; (with_reducible repeat (first|refine blk_drewN ?_ _|refine blk_drew ?_|refine blk_alloc ?_ _)); refine blk_put (cs := #[.int .i64 t310, .int .i64 0, .int .i64 0]) ?_ 1 _ rfl; (with_reducible repeat (first|refine blk_drewN ?_ _|refine blk_drew ?_|refine blk_alloc ?_ _)); refine blk_put (cs := #[.int .i64 0, .int .i64 0, .int .i64 0]) ?_ 0 _ rfl; (with_reducible repeat (first|refine blk_drewN ?_ _|refine blk_drew ?_|refine blk_alloc ?_ _)); exact BK313.out⟩, ⟨by repeat (first|(with_reducible first|exact HB.out|apply below_alloc|apply pw_below_drewN|apply below_drew1|refine below_set ?_ GE313.out)|exact HB.out)⟩⟩
     ·rw [if_neg c12] at H
      have c12b0 : (t309 == 0) = false := beq_eq_false_iff_ne.mpr c12
      have c12b1 : (t309 != 0) = true := bne_iff_ne.mpr c12
      (first|rw [c12b0]|(simp only [i64_w, i32_w]; rw [c12b0])|skip)
      replace H := Option.bind_eq_some_iff.mp H
      obtain ⟨⟨t314, t315, t316, t317⟩, A130, H⟩ := H
      replace H : (if t317 = 0 then (if (!(t310 == t314) || (!(t311 == t315) || (!(t312 == t316)))) = true then (none) else (colophonlaw10_ScanCovers.j1 kj2 a0 t306 t309 t310)) else (none)) = some r := H
      have A13 := Aside0.mk A130
      clear A130
      by_cases c14 : t317 = 0
      ·rw [if_pos c14] at H
       have c14b0 : (t317 == 0) = true := beq_iff_eq.mpr c14
       have c14b1 : (t317 != 0) = false := bne_eq_false_iff_eq.mpr c14
       clear c14
       by_cases c15 : (!(t310 == t314) || (!(t311 == t315) || (!(t312 == t316)))) = true
       ·rw [if_pos c15] at H
        exact absurd H (by simp)
       ·rw [if_neg c15] at H
        have c15b0 : (!(t310 == t314) || (!(t311 == t315) || (!(t312 == t316)))) = false := by simpa using c15
        clear c15
        have H' := Aside0.mk H
        clear H
        have hcz16_0 : w10.cell? ⟨gb313, 0, none⟩ = some (.int .i64 0) := (blk_cell BK313.out 0).trans rfl
        have hcz16_1 : w10.cell? ⟨gb313, 1, none⟩ = some (.int .i64 0) := (blk_cell BK313.out 1).trans rfl
        have hcz16_2 : w10.cell? ⟨gb313, 2, none⟩ = some (.int .i64 0) := (blk_cell BK313.out 2).trans rfl
        have hfz16_0 := blk_frozen BK313.out 0
        have hfz16_1 := blk_frozen BK313.out 1
        have hfz16_2 := blk_frozen BK313.out 2
        go_wp2_with (first|((with_reducible refine gate_callee (f:=12) rfl ?_);refine goesL_ (some 41) rfl rfl Tryd.func12 (by kernel_rfl) rfl #[.string a0,.int .i64 t310] rfl (by (try simp only [List.map_toArray,List.map_cons,List.map_nil]);first|done|rfl|(simp only [List.length_drop,List.length_take];rfl)) ?_;(with_reducible refine (place_Of.calls a0 t310 t314 t315 t316 t317 _ A13.out).mono ?_);rintro e w17 ⟨rfl,hb⟩;refine ⟨_,rfl,?_⟩;have n0_:=Aside0.mk (Kd.R_below (by (with_reducible repeat (first|apply Kd.R_alloc|apply Kd.R_drewN|apply Kd.R_drew));exact (Kd.R_mono (Kd.R_far (p:=⟨gb313,2,none⟩) (Kd.R_far (p:=⟨gb313,1,none⟩) (Kd.R_far (p:=⟨gb313,0,none⟩) (Kd.R_types HO308.out BK313.out (by decide)) (fun _ hk => hk.2) (.int .i64 t310)) (fun _ hk => hk.2) (.int .i64 t311)) (fun _ hk => hk.2) (.int .i64 t312)) (fun _ h_ => h_.1))) hb);have n1_:=Aside0.mk (blk_below (g:=gb313) (o:=.cells #[.int .i64 t310,.int .i64 t311,.int .i64 t312] 26 (0,0)) (by (with_reducible repeat (first|refine blk_drewN ?_ _|refine blk_drew ?_|refine blk_alloc ?_ _));refine blk_put (cs:=#[.int .i64 t310,.int .i64 t311,.int .i64 0]) ?_ 2 _ rfl;(with_reducible repeat (first|refine blk_drewN ?_ _|refine blk_drew ?_|refine blk_alloc ?_ _));refine blk_put (cs:=#[.int .i64 t310,.int .i64 0,.int .i64 0]) ?_ 1 _ rfl;(with_reducible repeat (first|refine blk_drewN ?_ _|refine blk_drew ?_|refine blk_alloc ?_ _));refine blk_put (cs:=#[.int .i64 0,.int .i64 0,.int .i64 0]) ?_ 0 _ rfl;(with_reducible repeat (first|refine blk_drewN ?_ _|refine blk_drew ?_|refine blk_alloc ?_ _));exact BK313.out) hb);have n2_:=Aside0.mk (below_step (by repeat (first|(with_reducible first|exact HB.out|apply below_alloc|apply pw_below_drewN|apply below_drew1|refine below_set ?_ GE313.out)|exact HB.out)) hb);clear HO308;clear BK313;clear HB;have HO308:=n0_;have BK313:=n1_;have HB:=n2_;clear n0_ n1_ n2_;(try clear hb);(try clear hb2);(try clear hk);(try clear hi))|((with_reducible refine gate_dst (N:=8) rfl ?_);(try (refine gate_guard (by rfl) ?_;dsimp only));refine box_event ?hg (N:=8) ?hd (cs:=#[.int .i64 0,.int .i64 0,.int .i64 0]) (t:=26) ?hr ?_;(case hd => rfl);(case hg => rfl);(case hr => first|(go_simp;done)|(go_simp;rfl));intro gb318 hg w18 hbox hb;have n0_:=Aside0.mk (Kd.R_below (by (with_reducible repeat (first|apply Kd.R_alloc|apply Kd.R_drewN|apply Kd.R_drew));exact HO308.out) hb);have n1_:=Aside0.mk (blk_below (g:=gb313) (o:=.cells #[.int .i64 t310,.int .i64 t311,.int .i64 t312] 26 (0,0)) (by (with_reducible repeat (first|refine blk_drewN ?_ _|refine blk_drew ?_|refine blk_alloc ?_ _));exact BK313.out) hb);have n2_:=Aside0.mk (below_step (by repeat (first|(with_reducible first|exact HB.out|apply below_alloc|apply pw_below_drewN|apply below_drew1|refine below_set ?_ GE313.out)|exact HB.out)) hb);have n3_:=Aside0.mk (hbox);have n4_:=Aside0.mk ((by rw [hg];exact (below_size (by repeat (first|(with_reducible first|exact HB.out|apply below_alloc|apply pw_below_drewN|apply below_drew1|refine below_set ?_ GE313.out)|exact HB.out))) : w.heap.size ≤ gb318));have n5_:=Aside0.mk ((by rw [hg];exact (below_size (by repeat (first|(with_reducible first|exact HB.out|apply below_alloc|apply pw_below_drewN|apply below_drew1|refine below_set ?_ GE313.out)|exact HB.out))) : w.heap.size ≤ gb318));have n6_:=Aside0.mk ((by rw [hg];exact Nat.ne_of_lt (blk_lt (g:=gb313) (o:=.cells #[.int .i64 t310,.int .i64 t311,.int .i64 t312] 26 (0,0)) (by (with_reducible repeat (first|refine blk_drewN ?_ _|refine blk_drew ?_|refine blk_alloc ?_ _));exact BK313.out)) : gb313 ≠ gb318));have n7_:=Aside0.mk ((by rw [hg];exact Nat.ne_of_gt (blk_lt (g:=gb313) (o:=.cells #[.int .i64 t310,.int .i64 t311,.int .i64 t312] 26 (0,0)) (by (with_reducible repeat (first|refine blk_drewN ?_ _|refine blk_drew ?_|refine blk_alloc ?_ _));exact BK313.out)) : gb318 ≠ gb313));clear HO308;clear BK313;clear HB;have HO308:=n0_;have BK313:=n1_;have HB:=n2_;have BK318:=n3_;have GW318:=n4_;have GE318:=n5_;have NB313_318:=n6_;have NB318_313:=n7_;clear n0_ n1_ n2_ n3_ n4_ n5_ n6_ n7_;clear hb hbox hg;have hnb19:=NB318_313.out;have hnc19:=NB313_318.out;have hcz20_0 : w18.cell? ⟨gb318,0,none⟩ = some (.int .i64 0):=(blk_cell BK318.out 0).trans rfl;have hcz20_1 : w18.cell? ⟨gb318,1,none⟩ = some (.int .i64 0):=(blk_cell BK318.out 1).trans rfl;have hcz20_2 : w18.cell? ⟨gb318,2,none⟩ = some (.int .i64 0):=(blk_cell BK318.out 2).trans rfl;have hfz20_0:=blk_frozen BK318.out 0;have hfz20_1:=blk_frozen BK318.out 1;have hfz20_2:=blk_frozen BK318.out 2;have hcz21_0 : w18.cell? ⟨gb313,0,none⟩ = some (.int .i64 t310):=(blk_cell BK313.out 0).trans rfl;have hcz21_1 : w18.cell? ⟨gb313,1,none⟩ = some (.int .i64 t311):=(blk_cell BK313.out 1).trans rfl;have hcz21_2 : w18.cell? ⟨gb313,2,none⟩ = some (.int .i64 t312):=(blk_cell BK313.out 2).trans rfl;have hfz21_0:=blk_frozen BK313.out 0;have hfz21_1:=blk_frozen BK313.out 1;have hfz21_2:=blk_frozen BK313.out 2))
        go_meet
        case rel => exact ⟨_, (t310), (by first|rfl|(simp; done)|(simp [*]; done)), H', ⟨by have := HJ2.out; first|omega|exact Nat.le_refl _⟩, ⟨by (with_reducible repeat (first|apply Kd.R_alloc|apply Kd.R_drewN|apply Kd.R_drew)); exact Kd.R_mono (Kd.R_far (p := ⟨gb318, 2, none⟩) (Kd.R_far (p := ⟨gb318, 1, none⟩) (Kd.R_far (p := ⟨gb318, 0, none⟩) (Kd.R_types HO308.out BK318.out (by decide)) (fun _ hk => hk.2) (.int .i64 t314)) (fun _ hk => hk.2) (.int .i64 t315)) (fun _ hk => hk.2) (.int .i64 t316)) (fun _ hk => trivial)⟩, ⟨by (with_reducible repeat (first|refine blk_drewN ?_ _|refine blk_drew ?_|refine blk_alloc ?_ _)); refine blk_far ?_ NB313_318.out _; (with_reducible repeat (first|refine blk_drewN ?_ _|refine blk_drew ?_|refine blk_alloc ?_ _)); refine blk_far ?_ NB313_318.out _; (with_reducible repeat (first|refine blk_drewN ?_ _|refine blk_drew ?_|refine blk_alloc ?_ _)); refine blk_far ?_ NB313_318.out _; (with_reducible repeat (first|refine blk_drewN ?_ _|refine blk_drew ?_|refine blk_alloc ?_ _)); exact BK313.out⟩, ⟨by repeat (first|(with_reducible first|exact HB.out|apply below_alloc|apply pw_below_drewN|apply below_drew1|refine below_set ?_ GE313.out|refine below_set ?_ GE318.out)|exact HB.out)⟩⟩
      ·rw [if_neg c14] at H
       exact absurd H (by simp)
    case rest =>
     clear HC8
     try clear c1
     try clear p2
     try clear c5
     try clear c6
     try clear c7
     try clear c8
     try clear c12
     try clear c12b0
     try clear c12b1
     try clear c14
     try clear c14b0
     try clear c14b1
     try clear c15
     try clear c15b0
     try clear c19
     try clear hcz11_0
     try clear hcz11_1
     try clear hcz11_2
     try clear hcz16_0
     try clear hcz16_1
     try clear hcz16_2
     try clear hcz20_0
     try clear hcz20_1
     try clear hcz20_2
     try clear hcz21_0
     try clear hcz21_1
     try clear hcz21_2
     try clear hfz11_0
     try clear hfz11_1
     try clear hfz11_2
     try clear hfz16_0
     try clear hfz16_1
     try clear hfz16_2
     try clear hfz20_0
     try clear hfz20_1
     try clear hfz20_2
     try clear hfz21_0
     try clear hfz21_1
     try clear hfz21_2
     try clear p2
     obtain ⟨kq, x7_7, rfl, HA, HJ7, HO_4, BK313, HB⟩ := hcut
     cases kq with
     | zero => exact absurd HA.out (by simp [colophonlaw10_ScanCovers.j1])
     | succ kj7 =>
      have H := HA.out
      clear HA
      simp only [colophonlaw10_ScanCovers.j1] at H
      replace H := Option.bind_eq_some_iff.mp H
      obtain ⟨⟨t319, t320, t321⟩, A220, H⟩ := H
      replace H : (colophonlaw10_ScanCovers.l0 kj7 a0 t306 t309 x7_7 0 0 t319 t320 t321) = some r := H
      have A22 := Aside0.mk A220
      clear A220
      have H' := Aside0.mk H
      clear H
      go_wp2_with (first|((with_reducible refine gate_callee (f:=13) rfl ?_);refine goesL_ (some 53) rfl rfl Tryd.func13 (by kernel_rfl) rfl #[] rfl (by (try simp only [List.map_toArray,List.map_cons,List.map_nil]);first|done|rfl|(simp only [List.length_drop,List.length_take];rfl)) ?_;(with_reducible refine (place_Start.calls  t319 t320 t321 _ A22.out).mono ?_);rintro e w23 ⟨rfl,hb⟩;refine ⟨_,rfl,?_⟩;have n0_:=Aside0.mk (Kd.R_below (by (with_reducible repeat (first|apply Kd.R_alloc|apply Kd.R_drewN|apply Kd.R_drew));exact HO_4.out) hb);have n1_:=Aside0.mk (blk_below (g:=gb313) (o:=.cells #[.int .i64 t310,.int .i64 t311,.int .i64 t312] 26 (0,0)) (by (with_reducible repeat (first|refine blk_drewN ?_ _|refine blk_drew ?_|refine blk_alloc ?_ _));exact BK313.out) hb);have n2_:=Aside0.mk (below_step (by repeat (first|(with_reducible first|exact HB.out|apply below_alloc|apply pw_below_drewN|apply below_drew1|refine below_set ?_ GE313.out)|exact HB.out)) hb);clear HO_4;clear BK313;clear HB;have HO_4:=n0_;have BK313:=n1_;have HB:=n2_;clear n0_ n1_ n2_;(try clear hb);(try clear hb2);(try clear hk);(try clear hi))|((with_reducible refine gate_dst (N:=11) rfl ?_);(try (refine gate_guard (by rfl) ?_;dsimp only));refine box_event ?hg (N:=11) ?hd (cs:=#[.int .i64 0,.int .i64 0,.int .i64 0]) (t:=26) ?hr ?_;(case hd => rfl);(case hg => rfl);(case hr => first|(go_simp;done)|(go_simp;rfl));intro gb322 hg w24 hbox hb;have n0_:=Aside0.mk (Kd.R_below (by (with_reducible repeat (first|apply Kd.R_alloc|apply Kd.R_drewN|apply Kd.R_drew));exact HO_4.out) hb);have n1_:=Aside0.mk (blk_below (g:=gb313) (o:=.cells #[.int .i64 t310,.int .i64 t311,.int .i64 t312] 26 (0,0)) (by (with_reducible repeat (first|refine blk_drewN ?_ _|refine blk_drew ?_|refine blk_alloc ?_ _));exact BK313.out) hb);have n2_:=Aside0.mk (below_step (by repeat (first|(with_reducible first|exact HB.out|apply below_alloc|apply pw_below_drewN|apply below_drew1|refine below_set ?_ GE313.out)|exact HB.out)) hb);have n3_:=Aside0.mk (hbox);have n4_:=Aside0.mk ((by rw [hg];exact (below_size (by repeat (first|(with_reducible first|exact HB.out|apply below_alloc|apply pw_below_drewN|apply below_drew1|refine below_set ?_ GE313.out)|exact HB.out))) : w.heap.size ≤ gb322));have n5_:=Aside0.mk ((by rw [hg];exact (below_size (by repeat (first|(with_reducible first|exact HB.out|apply below_alloc|apply pw_below_drewN|apply below_drew1|refine below_set ?_ GE313.out)|exact HB.out))) : w.heap.size ≤ gb322));have n6_:=Aside0.mk ((by rw [hg];exact Nat.ne_of_lt (blk_lt (g:=gb313) (o:=.cells #[.int .i64 t310,.int .i64 t311,.int .i64 t312] 26 (0,0)) (by (with_reducible repeat (first|refine blk_drewN ?_ _|refine blk_drew ?_|refine blk_alloc ?_ _));exact BK313.out)) : gb313 ≠ gb322));have n7_:=Aside0.mk ((by rw [hg];exact Nat.ne_of_gt (blk_lt (g:=gb313) (o:=.cells #[.int .i64 t310,.int .i64 t311,.int .i64 t312] 26 (0,0)) (by (with_reducible repeat (first|refine blk_drewN ?_ _|refine blk_drew ?_|refine blk_alloc ?_ _));exact BK313.out)) : gb322 ≠ gb313));clear HO_4;clear BK313;clear HB;have HO_4:=n0_;have BK313:=n1_;have HB:=n2_;have BK322:=n3_;have GW322:=n4_;have GE322:=n5_;have NB313_322:=n6_;have NB322_313:=n7_;clear n0_ n1_ n2_ n3_ n4_ n5_ n6_ n7_;clear hb hbox hg;have hnb25:=NB322_313.out;have hnc25:=NB313_322.out;have hcz26_0 : w24.cell? ⟨gb322,0,none⟩ = some (.int .i64 0):=(blk_cell BK322.out 0).trans rfl;have hcz26_1 : w24.cell? ⟨gb322,1,none⟩ = some (.int .i64 0):=(blk_cell BK322.out 1).trans rfl;have hcz26_2 : w24.cell? ⟨gb322,2,none⟩ = some (.int .i64 0):=(blk_cell BK322.out 2).trans rfl;have hfz26_0:=blk_frozen BK322.out 0;have hfz26_1:=blk_frozen BK322.out 1;have hfz26_2:=blk_frozen BK322.out 2))
      go_loopg [10, 12] kj7 (fun kq v10 v12 w' => ∃ (x10_3 : Int) (x12_3 : Int) (x323000_3 : Int) (x323001_3 : Int) (x323002_3 : Int), v10 = .int .i64 x10_3 ∧ v12 = .int .i64 x12_3 ∧ Aside0 (colophonlaw10_ScanCovers.l0 kq a0 t306 t309 x7_7 x10_3 x12_3 x323000_3 x323001_3 x323002_3 = some r) ∧ Aside0 (kq ≤ kj7) ∧ Aside0 (Kd.R k35 35 w' w.heap.size (fun _ => True) v307 t306) ∧ Aside0 (w'.heap[gb313]? = some (.cells #[.int .i64 t310, .int .i64 t311, .int .i64 t312] 26 (0, 0))) ∧ Aside0 (w'.heap[gb322]? = some (.cells #[.int .i64 x323000_3, .int .i64 x323001_3, .int .i64 x323002_3] 26 (0, 0))) ∧ Aside0 (Below w.heap.size w w'))
      case atStart => exact ⟨(0),(0),(t319),(t320),(t321),(by first|rfl|(simp;done)|(simp [*];done)),(by first|rfl|(simp;done)|(simp [*];done)),H',⟨Nat.le_refl _⟩,⟨by (with_reducible repeat (first|apply Kd.R_alloc|apply Kd.R_drewN|apply Kd.R_drew));exact Kd.R_mono (Kd.R_far (p:=⟨gb322,2,none⟩) (Kd.R_far (p:=⟨gb322,1,none⟩) (Kd.R_far (p:=⟨gb322,0,none⟩) (Kd.R_types HO_4.out BK322.out (by decide)) (fun _ hk => hk.2) (.int .i64 t319)) (fun _ hk => hk.2) (.int .i64 t320)) (fun _ hk => hk.2) (.int .i64 t321)) (fun _ hk => trivial)⟩,⟨by (with_reducible repeat (first|refine blk_drewN ?_ _|refine blk_drew ?_|refine blk_alloc ?_ _));refine blk_far ?_ NB313_322.out _;(with_reducible repeat (first|refine blk_drewN ?_ _|refine blk_drew ?_|refine blk_alloc ?_ _));refine blk_far ?_ NB313_322.out _;(with_reducible repeat (first|refine blk_drewN ?_ _|refine blk_drew ?_|refine blk_alloc ?_ _));refine blk_far ?_ NB313_322.out _;(with_reducible repeat (first|refine blk_drewN ?_ _|refine blk_drew ?_|refine blk_alloc ?_ _));exact BK313.out⟩,⟨by (with_reducible repeat (first|refine blk_drewN ?_ _|refine blk_drew ?_|refine blk_alloc ?_ _));refine blk_put (cs:=#[.int .i64 t319,.int .i64 t320,.int .i64 0]) ?_ 2 _ rfl;(with_reducible repeat (first|refine blk_drewN ?_ _|refine blk_drew ?_|refine blk_alloc ?_ _));refine blk_put (cs:=#[.int .i64 t319,.int .i64 0,.int .i64 0]) ?_ 1 _ rfl;(with_reducible repeat (first|refine blk_drewN ?_ _|refine blk_drew ?_|refine blk_alloc ?_ _));refine blk_put (cs:=#[.int .i64 0,.int .i64 0,.int .i64 0]) ?_ 0 _ rfl;(with_reducible repeat (first|refine blk_drewN ?_ _|refine blk_drew ?_|refine blk_alloc ?_ _));exact BK322.out⟩,⟨by repeat (first|(with_reducible first|exact HB.out|apply below_alloc|apply pw_below_drewN|apply below_drew1|refine below_set ?_ GE313.out|refine below_set ?_ GE322.out)|exact HB.out)⟩⟩
      case round =>
       clear H'
       try clear c1
       try clear c2
       try clear p2
       try clear c5
       try clear c6
       try clear c7
       try clear c8
       try clear c12
       try clear c12b0
       try clear c12b1
       try clear c13
       try clear c14
       try clear c14b0
       try clear c14b1
       try clear c15
       try clear c15b0
       try clear c19
       try clear c25
       try clear hcz11_0
       try clear hcz11_1
       try clear hcz11_2
       try clear hcz16_0
       try clear hcz16_1
       try clear hcz16_2
       try clear hcz20_0
       try clear hcz20_1
       try clear hcz20_2
       try clear hcz21_0
       try clear hcz21_1
       try clear hcz21_2
       try clear hcz26_0
       try clear hcz26_1
       try clear hcz26_2
       try clear hfz11_0
       try clear hfz11_1
       try clear hfz11_2
       try clear hfz16_0
       try clear hfz16_1
       try clear hfz16_2
       try clear hfz20_0
       try clear hfz20_1
       try clear hfz20_2
       try clear hfz21_0
       try clear hfz21_1
       try clear hfz21_2
       try clear hfz26_0
       try clear hfz26_1
       try clear hfz26_2
       try clear p2
       obtain ⟨x10_3, x12_3, x323000_3, x323001_3, x323002_3, rfl, rfl, HA, HK3, HO_4, BK313, BK322, HB⟩ := hrel
       cases gk with
       | zero => exact absurd HA.out (by simp [colophonlaw10_ScanCovers.l0])
       | succ k3 =>
        have H := HA.out
        clear HA
        simp only [colophonlaw10_ScanCovers.l0] at H
        by_cases c27 : x12_3 < (t306.length : Int)
        ·rw [if_pos c27] at H
         have c27b0 : decide (x12_3 < (t306.length : Int)) = true := decide_eq_true c27
         clear c27
         by_cases c28 : 0 ≤ x12_3
         ·rw [if_pos c28] at H
          have c28b0 : decide (0 ≤ x12_3) = true := decide_eq_true c28
          clear c28
          replace H := Option.bind_eq_some_iff.mp H
          obtain ⟨t326, A290, H⟩ := H
          replace H : (if t326 < 0 then (none) else (if t326 = ((rd_T35 t306 x12_3).f3) then (if (((rd_T35 t306 x12_3).f1).size : Int) = 0 then (none) else (if (wrap64 (((rd_T35 t306 x12_3).f2.f0) + (((rd_T35 t306 x12_3).f1).size : Int))) > (a0.size : Int) then (none) else (if 0 ≤ ((rd_T35 t306 x12_3).f2.f0) then (if ((rd_T35 t306 x12_3).f2.f0) ≤ (wrap64 (((rd_T35 t306 x12_3).f2.f0) + (((rd_T35 t306 x12_3).f1).size : Int))) then (if (wrap64 (((rd_T35 t306 x12_3).f2.f0) + (((rd_T35 t306 x12_3).f1).size : Int))) ≤ (a0.size : Int) then (colophonlaw10_ScanCovers.j3 k3 a0 t306 t309 x7_7 x12_3 (wrap64 (((rd_T35 t306 x12_3).f2.f0) + (((rd_T35 t306 x12_3).f1).size : Int))) ((a0.extract (((rd_T35 t306 x12_3).f2.f0) : Int).toNat ((wrap64 (((rd_T35 t306 x12_3).f2.f0) + (((rd_T35 t306 x12_3).f1).size : Int))) : Int).toNat).toList != ((rd_T35 t306 x12_3).f1).toList) x323000_3 x323001_3 x323002_3 ((rd_T35 t306 x12_3).f0) ((rd_T35 t306 x12_3).f1) ((rd_T35 t306 x12_3).f2.f0) ((rd_T35 t306 x12_3).f2.f1) ((rd_T35 t306 x12_3).f2.f2) ((rd_T35 t306 x12_3).f3)) else (none)) else (none)) else (none)))) else (none))) = some r := H
          have A29 := Aside0.mk A290
          clear A290
          have HC30 := Aside0.mk H
          clear H
          obtain ⟨Ao31, co31, eo31⟩ := Kd.R_slice HO_4.out
          subst eo31
          have p324 : 0 ≤ (x12_3 : Int) := of_decide_eq_true (by first|(with_reducible assumption)|assumption)
          have q324 : x12_3 < (t306.length : Int) := of_decide_eq_true (by first|(with_reducible assumption)|assumption)
          obtain ⟨ad324, e324, hx324_0, hx324_1, hx324_2, hx324_3, hx324_4, hx324_5⟩ := at_T35 (Kd.R_reads' HO_4.out).2.2 x12_3 p324 q324
          cases e324
          replace p324 := eq_true p324
          replace q324 := eq_true q324
          go_upto_region 19 with (first|((with_reducible refine gate_dst (N:=13) rfl ?_);(try (refine gate_guard (by rfl) ?_;dsimp only));refine box_event ?hg (N:=13) ?hd (cs:=#[.int .u8 0,.string (⟨#[]⟩ : ByteArray),.int .i64 0,.int .i64 0,.int .i64 0,.int .i64 0]) (t:=35) ?hr ?_;(case hd => rfl);(case hg => rfl);(case hr => first|(go_simp;done)|(go_simp;rfl));intro gb325 hg w32 hbox hb;have n0_:=Aside0.mk (Kd.R_below (Kd.R_elderB (by (with_reducible repeat (first|apply Kd.R_alloc|apply Kd.R_drewN|apply Kd.R_drew));exact HO_4.out) gb325 (Nat.le_of_eq hg.symm)) hb);have n1_:=Aside0.mk (blk_below (g:=gb313) (o:=.cells #[.int .i64 t310,.int .i64 t311,.int .i64 t312] 26 (0,0)) (by (with_reducible repeat (first|refine blk_drewN ?_ _|refine blk_drew ?_|refine blk_alloc ?_ _));exact BK313.out) hb);have n2_:=Aside0.mk (blk_below (g:=gb322) (o:=.cells #[.int .i64 x323000_3,.int .i64 x323001_3,.int .i64 x323002_3] 26 (0,0)) (by (with_reducible repeat (first|refine blk_drewN ?_ _|refine blk_drew ?_|refine blk_alloc ?_ _));exact BK322.out) hb);have n3_:=Aside0.mk (below_step (by repeat (first|(with_reducible first|exact HB.out|apply below_alloc|apply pw_below_drewN|apply below_drew1|refine below_set ?_ GE313.out|refine below_set ?_ GE322.out)|exact HB.out)) hb);have n4_:=Aside0.mk (hbox);have n5_:=Aside0.mk ((by rw [hg];exact (below_size (by repeat (first|(with_reducible first|exact HB.out|apply below_alloc|apply pw_below_drewN|apply below_drew1|refine below_set ?_ GE313.out|refine below_set ?_ GE322.out)|exact HB.out))) : w.heap.size ≤ gb325));have n6_:=Aside0.mk ((by rw [hg];exact (below_size (by repeat (first|(with_reducible first|exact HB.out|apply below_alloc|apply pw_below_drewN|apply below_drew1|refine below_set ?_ GE313.out|refine below_set ?_ GE322.out)|exact HB.out))) : w.heap.size ≤ gb325));have n7_:=Aside0.mk ((by rw [hg];exact Nat.ne_of_lt (blk_lt (g:=gb313) (o:=.cells #[.int .i64 t310,.int .i64 t311,.int .i64 t312] 26 (0,0)) (by (with_reducible repeat (first|refine blk_drewN ?_ _|refine blk_drew ?_|refine blk_alloc ?_ _));exact BK313.out)) : gb313 ≠ gb325));have n8_:=Aside0.mk ((by rw [hg];exact Nat.ne_of_gt (blk_lt (g:=gb313) (o:=.cells #[.int .i64 t310,.int .i64 t311,.int .i64 t312] 26 (0,0)) (by (with_reducible repeat (first|refine blk_drewN ?_ _|refine blk_drew ?_|refine blk_alloc ?_ _));exact BK313.out)) : gb325 ≠ gb313));have n9_:=Aside0.mk ((by rw [hg];exact Nat.ne_of_lt (blk_lt (g:=gb322) (o:=.cells #[.int .i64 x323000_3,.int .i64 x323001_3,.int .i64 x323002_3] 26 (0,0)) (by (with_reducible repeat (first|refine blk_drewN ?_ _|refine blk_drew ?_|refine blk_alloc ?_ _));exact BK322.out)) : gb322 ≠ gb325));have n10_:=Aside0.mk ((by rw [hg];exact Nat.ne_of_gt (blk_lt (g:=gb322) (o:=.cells #[.int .i64 x323000_3,.int .i64 x323001_3,.int .i64 x323002_3] 26 (0,0)) (by (with_reducible repeat (first|refine blk_drewN ?_ _|refine blk_drew ?_|refine blk_alloc ?_ _));exact BK322.out)) : gb325 ≠ gb322));clear HO_4;clear BK313;clear BK322;clear HB;have HO_4:=n0_;have BK313:=n1_;have BK322:=n2_;have HB:=n3_;have BK325:=n4_;have GW325:=n5_;have GE325:=n6_;have NB313_325:=n7_;have NB325_313:=n8_;have NB322_325:=n9_;have NB325_322:=n10_;clear n0_ n1_ n2_ n3_ n4_ n5_ n6_ n7_ n8_ n9_ n10_;clear hb hbox hg;have hnb33:=NB325_313.out;have hnc33:=NB313_325.out;have hnb34:=NB325_322.out;have hnc34:=NB322_325.out;have hcz35_0 : w32.cell? ⟨gb325,0,none⟩ = some (.int .u8 0):=(blk_cell BK325.out 0).trans rfl;have hcz35_1 : w32.cell? ⟨gb325,1,none⟩ = some (.string (⟨#[]⟩ : ByteArray)):=(blk_cell BK325.out 1).trans rfl;have hcz35_2 : w32.cell? ⟨gb325,2,none⟩ = some (.int .i64 0):=(blk_cell BK325.out 2).trans rfl;have hcz35_3 : w32.cell? ⟨gb325,3,none⟩ = some (.int .i64 0):=(blk_cell BK325.out 3).trans rfl;have hcz35_4 : w32.cell? ⟨gb325,4,none⟩ = some (.int .i64 0):=(blk_cell BK325.out 4).trans rfl;have hcz35_5 : w32.cell? ⟨gb325,5,none⟩ = some (.int .i64 0):=(blk_cell BK325.out 5).trans rfl;have hfz35_0:=blk_frozen BK325.out 0;have hfz35_1:=blk_frozen BK325.out 1;have hfz35_2:=blk_frozen BK325.out 2;have hfz35_3:=blk_frozen BK325.out 3;have hfz35_4:=blk_frozen BK325.out 4;have hfz35_5:=blk_frozen BK325.out 5)|((with_reducible refine gate_callee (f:=14) rfl ?_);refine goesL_ (some 69) rfl rfl Tryd.func14 (by kernel_rfl) rfl #[.string a0,.int .i64 x10_3,.int .i64 ((rd_T35 t306 x12_3).f2.f0)] rfl (by (try simp only [List.map_toArray,List.map_cons,List.map_nil]);first|done|rfl|(simp only [List.length_drop,List.length_take];rfl)) ?_;(with_reducible refine (colophonlaw10_between.calls k3 a0 x10_3 ((rd_T35 t306 x12_3).f2.f0) t326 _ A29.out).mono ?_);rintro e w36 ⟨rfl,hb⟩;refine ⟨_,rfl,?_⟩;have n0_:=Aside0.mk (Kd.R_below (by (with_reducible repeat (first|apply Kd.R_alloc|apply Kd.R_drewN|apply Kd.R_drew));exact (Kd.R_mono (Kd.R_far (p:=⟨gb325,5,none⟩) (Kd.R_far (p:=⟨gb325,4,none⟩) (Kd.R_far (p:=⟨gb325,3,none⟩) (Kd.R_far (p:=⟨gb325,2,none⟩) (Kd.R_far (p:=⟨gb325,1,none⟩) (Kd.R_far (p:=⟨gb325,0,none⟩) (Kd.R_mono HO_4.out (fun k_ hk => (⟨hk,hk.2⟩ : _ ∧ k_ ≠ gb325))) (fun _ hk => hk.2) (.int .u8 ((rd_T35 t306 x12_3).f0))) (fun _ hk => hk.2) (.string ((rd_T35 t306 x12_3).f1))) (fun _ hk => hk.2) (.int .i64 ((rd_T35 t306 x12_3).f2.f0))) (fun _ hk => hk.2) (.int .i64 ((rd_T35 t306 x12_3).f2.f1))) (fun _ hk => hk.2) (.int .i64 ((rd_T35 t306 x12_3).f2.f2))) (fun _ hk => hk.2) (.int .i64 ((rd_T35 t306 x12_3).f3))) (fun _ h_ => h_.1))) hb);have n1_:=Aside0.mk (blk_below (g:=gb313) (o:=.cells #[.int .i64 t310,.int .i64 t311,.int .i64 t312] 26 (0,0)) (by (with_reducible repeat (first|refine blk_drewN ?_ _|refine blk_drew ?_|refine blk_alloc ?_ _));refine blk_far ?_ NB313_325.out _;(with_reducible repeat (first|refine blk_drewN ?_ _|refine blk_drew ?_|refine blk_alloc ?_ _));refine blk_far ?_ NB313_325.out _;(with_reducible repeat (first|refine blk_drewN ?_ _|refine blk_drew ?_|refine blk_alloc ?_ _));refine blk_far ?_ NB313_325.out _;(with_reducible repeat (first|refine blk_drewN ?_ _|refine blk_drew ?_|refine blk_alloc ?_ _));refine blk_far ?_ NB313_325.out _;(with_reducible repeat (first|refine blk_drewN ?_ _|refine blk_drew ?_|refine blk_alloc ?_ _));refine blk_far ?_ NB313_325.out _;(with_reducible repeat (first|refine blk_drewN ?_ _|refine blk_drew ?_|refine blk_alloc ?_ _));refine blk_far ?_ NB313_325.out _;(with_reducible repeat (first|refine blk_drewN ?_ _|refine blk_drew ?_|refine blk_alloc ?_ _));exact BK313.out) hb);have n2_:=Aside0.mk (blk_below (g:=gb322) (o:=.cells #[.int .i64 x323000_3,.int .i64 x323001_3,.int .i64 x323002_3] 26 (0,0)) (by (with_reducible repeat (first|refine blk_drewN ?_ _|refine blk_drew ?_|refine blk_alloc ?_ _));refine blk_far ?_ NB322_325.out _;(with_reducible repeat (first|refine blk_drewN ?_ _|refine blk_drew ?_|refine blk_alloc ?_ _));refine blk_far ?_ NB322_325.out _;(with_reducible repeat (first|refine blk_drewN ?_ _|refine blk_drew ?_|refine blk_alloc ?_ _));refine blk_far ?_ NB322_325.out _;(with_reducible repeat (first|refine blk_drewN ?_ _|refine blk_drew ?_|refine blk_alloc ?_ _));refine blk_far ?_ NB322_325.out _;(with_reducible repeat (first|refine blk_drewN ?_ _|refine blk_drew ?_|refine blk_alloc ?_ _));refine blk_far ?_ NB322_325.out _;(with_reducible repeat (first|refine blk_drewN ?_ _|refine blk_drew ?_|refine blk_alloc ?_ _));refine blk_far ?_ NB322_325.out _;(with_reducible repeat (first|refine blk_drewN ?_ _|refine blk_drew ?_|refine blk_alloc ?_ _));exact BK322.out) hb);have n3_:=Aside0.mk (blk_below (g:=gb325) (o:=.cells #[.int .u8 ((rd_T35 t306 x12_3).f0),.string ((rd_T35 t306 x12_3).f1),.int .i64 ((rd_T35 t306 x12_3).f2.f0),.int .i64 ((rd_T35 t306 x12_3).f2.f1),.int .i64 ((rd_T35 t306 x12_3).f2.f2),.int .i64 ((rd_T35 t306 x12_3).f3)] 35 (0,0)) (by (with_reducible repeat (first|refine blk_drewN ?_ _|refine blk_drew ?_|refine blk_alloc ?_ _));refine blk_put (cs:=#[.int .u8 ((rd_T35 t306 x12_3).f0),.string ((rd_T35 t306 x12_3).f1),.int .i64 ((rd_T35 t306 x12_3).f2.f0),.int .i64 ((rd_T35 t306 x12_3).f2.f1),.int .i64 ((rd_T35 t306 x12_3).f2.f2),.int .i64 0]) ?_ 5 _ rfl;(with_reducible repeat (first|refine blk_drewN ?_ _|refine blk_drew ?_|refine blk_alloc ?_ _));refine blk_put (cs:=#[.int .u8 ((rd_T35 t306 x12_3).f0),.string ((rd_T35 t306 x12_3).f1),.int .i64 ((rd_T35 t306 x12_3).f2.f0),.int .i64 ((rd_T35 t306 x12_3).f2.f1),.int .i64 0,.int .i64 0]) ?_ 4 _ rfl;(with_reducible repeat (first|refine blk_drewN ?_ _|refine blk_drew ?_|refine blk_alloc ?_ _));refine blk_put (cs:=#[.int .u8 ((rd_T35 t306 x12_3).f0),.string ((rd_T35 t306 x12_3).f1),.int .i64 ((rd_T35 t306 x12_3).f2.f0),.int .i64 0,.int .i64 0,.int .i64 0]) ?_ 3 _ rfl;(with_reducible repeat (first|refine blk_drewN ?_ _|refine blk_drew ?_|refine blk_alloc ?_ _));refine blk_put (cs:=#[.int .u8 ((rd_T35 t306 x12_3).f0),.string ((rd_T35 t306 x12_3).f1),.int .i64 0,.int .i64 0,.int .i64 0,.int .i64 0]) ?_ 2 _ rfl;(with_reducible repeat (first|refine blk_drewN ?_ _|refine blk_drew ?_|refine blk_alloc ?_ _));refine blk_put (cs:=#[.int .u8 ((rd_T35 t306 x12_3).f0),.string (⟨#[]⟩ : ByteArray),.int .i64 0,.int .i64 0,.int .i64 0,.int .i64 0]) ?_ 1 _ rfl;(with_reducible repeat (first|refine blk_drewN ?_ _|refine blk_drew ?_|refine blk_alloc ?_ _));refine blk_put (cs:=#[.int .u8 0,.string (⟨#[]⟩ : ByteArray),.int .i64 0,.int .i64 0,.int .i64 0,.int .i64 0]) ?_ 0 _ rfl;(with_reducible repeat (first|refine blk_drewN ?_ _|refine blk_drew ?_|refine blk_alloc ?_ _));exact BK325.out) hb);have n4_:=Aside0.mk (below_step (by repeat (first|(with_reducible first|exact HB.out|apply below_alloc|apply pw_below_drewN|apply below_drew1|refine below_set ?_ GE313.out|refine below_set ?_ GE322.out|refine below_set ?_ GE325.out)|exact HB.out)) hb);clear HO_4;clear BK313;clear BK322;clear BK325;clear HB;have HO_4:=n0_;have BK313:=n1_;have BK322:=n2_;have BK325:=n3_;have HB:=n4_;clear n0_ n1_ n2_ n3_ n4_;(try clear hb);(try clear hb2);(try clear hk);(try clear hi);have hcz37_0 : w36.cell? ⟨gb325,0,none⟩ = some (.int .u8 ((rd_T35 t306 x12_3).f0)):=(blk_cell BK325.out 0).trans rfl;have hcz37_1 : w36.cell? ⟨gb325,1,none⟩ = some (.string ((rd_T35 t306 x12_3).f1)):=(blk_cell BK325.out 1).trans rfl;have hcz37_2 : w36.cell? ⟨gb325,2,none⟩ = some (.int .i64 ((rd_T35 t306 x12_3).f2.f0)):=(blk_cell BK325.out 2).trans rfl;have hcz37_3 : w36.cell? ⟨gb325,3,none⟩ = some (.int .i64 ((rd_T35 t306 x12_3).f2.f1)):=(blk_cell BK325.out 3).trans rfl;have hcz37_4 : w36.cell? ⟨gb325,4,none⟩ = some (.int .i64 ((rd_T35 t306 x12_3).f2.f2)):=(blk_cell BK325.out 4).trans rfl;have hcz37_5 : w36.cell? ⟨gb325,5,none⟩ = some (.int .i64 ((rd_T35 t306 x12_3).f3)):=(blk_cell BK325.out 5).trans rfl;have hfz37_0:=blk_frozen BK325.out 0;have hfz37_1:=blk_frozen BK325.out 1;have hfz37_2:=blk_frozen BK325.out 2;have hfz37_3:=blk_frozen BK325.out 3;have hfz37_4:=blk_frozen BK325.out 4;have hfz37_5:=blk_frozen BK325.out 5))
          (try simp only [Act.put, List.setIfInBounds_toArray, List.set_cons_zero, List.set_cons_succ])
          go_cut [107] (fun v107 wc => ∃ (kq : Nat) (x107_29 : Bool), v107 = .bool x107_29 ∧ Aside0 (colophonlaw10_ScanCovers.j3 kq a0 t306 t309 x7_7 x12_3 (wrap64 (((rd_T35 t306 x12_3).f2.f0) + (((rd_T35 t306 x12_3).f1).size : Int))) x107_29 x323000_3 x323001_3 x323002_3 ((rd_T35 t306 x12_3).f0) ((rd_T35 t306 x12_3).f1) ((rd_T35 t306 x12_3).f2.f0) ((rd_T35 t306 x12_3).f2.f1) ((rd_T35 t306 x12_3).f2.f2) ((rd_T35 t306 x12_3).f3) = some r) ∧ Aside0 (kq ≤ k3) ∧ Aside0 (Kd.R k35 35 wc w.heap.size (fun k_ => k_ ≠ gb325) (.slice (some ad324) t306.length co31) t306) ∧ Aside0 (wc.heap[gb313]? = some (.cells #[.int .i64 t310, .int .i64 t311, .int .i64 t312] 26 (0, 0))) ∧ Aside0 (wc.heap[gb322]? = some (.cells #[.int .i64 x323000_3, .int .i64 x323001_3, .int .i64 x323002_3] 26 (0, 0))) ∧ Aside0 (wc.heap[gb325]? = some (.cells #[.int .u8 ((rd_T35 t306 x12_3).f0), .string ((rd_T35 t306 x12_3).f1), .int .i64 ((rd_T35 t306 x12_3).f2.f0), .int .i64 ((rd_T35 t306 x12_3).f2.f1), .int .i64 ((rd_T35 t306 x12_3).f2.f2), .int .i64 ((rd_T35 t306 x12_3).f3)] 35 (0, 0))) ∧ Aside0 (Below w.heap.size w wc))
          case first =>
           have H := HC30.out
           clear HC30
           by_cases c38 : t326 < 0
           ·rw [if_pos c38] at H
            exact absurd H (by simp)
           ·rw [if_neg c38] at H
            have c38b0 : decide (t326 < 0) = false := decide_eq_false c38
            clear c38
            (first|rw [c38b0]|(simp only [i64_w, i32_w]; rw [c38b0])|skip)
            by_cases c39 : t326 = ((rd_T35 t306 x12_3).f3)
            ·rw [if_pos c39] at H
             have c39b0 : (t326 == ((rd_T35 t306 x12_3).f3)) = true := beq_iff_eq.mpr c39
             have c39b1 : (t326 != ((rd_T35 t306 x12_3).f3)) = false := bne_eq_false_iff_eq.mpr c39
             clear c39
             by_cases c40 : (((rd_T35 t306 x12_3).f1).size : Int) = 0
             ·rw [if_pos c40] at H
              exact absurd H (by simp)
             ·rw [if_neg c40] at H
              have c40b0 : ((((rd_T35 t306 x12_3).f1).size : Int) == 0) = false := beq_eq_false_iff_ne.mpr c40
              have c40b1 : ((((rd_T35 t306 x12_3).f1).size : Int) != 0) = true := bne_iff_ne.mpr c40
              by_cases c41 : (wrap64 (((rd_T35 t306 x12_3).f2.f0) + (((rd_T35 t306 x12_3).f1).size : Int))) > (a0.size : Int)
              ·rw [if_pos c41] at H
               exact absurd H (by simp)
              ·rw [if_neg c41] at H
               have c41b0 : decide ((a0.size : Int) < (wrap64 (((rd_T35 t306 x12_3).f2.f0) + (((rd_T35 t306 x12_3).f1).size : Int)))) = false := decide_eq_false c41
               clear c41
               by_cases c42 : 0 ≤ ((rd_T35 t306 x12_3).f2.f0)
               ·rw [if_pos c42] at H
                have c42b0 := eq_true c42
                have c42b1 : decide (0 ≤ ((rd_T35 t306 x12_3).f2.f0)) = true := decide_eq_true c42
                clear c42
                by_cases c43 : ((rd_T35 t306 x12_3).f2.f0) ≤ (wrap64 (((rd_T35 t306 x12_3).f2.f0) + (((rd_T35 t306 x12_3).f1).size : Int)))
                ·rw [if_pos c43] at H
                 have c43b0 := eq_true c43
                 have c43b1 : decide (((rd_T35 t306 x12_3).f2.f0) ≤ (wrap64 (((rd_T35 t306 x12_3).f2.f0) + (((rd_T35 t306 x12_3).f1).size : Int)))) = true := decide_eq_true c43
                 by_cases c44 : (wrap64 (((rd_T35 t306 x12_3).f2.f0) + (((rd_T35 t306 x12_3).f1).size : Int))) ≤ (a0.size : Int)
                 ·rw [if_pos c44] at H
                  have c44b0 := eq_true c44
                  have c44b1 : decide ((wrap64 (((rd_T35 t306 x12_3).f2.f0) + (((rd_T35 t306 x12_3).f1).size : Int))) ≤ (a0.size : Int)) = true := decide_eq_true c44
                  have H' := Aside0.mk H
                  clear H
                  try go_wp2
                  have n0_ := Aside0.mk (Kd.R_drew HO_4.out)
                  have n1_ := Aside0.mk (blk_drew BK313.out)
                  have n2_ := Aside0.mk (blk_drew BK322.out)
                  have n3_ := Aside0.mk (blk_drew BK325.out)
                  have n4_ := Aside0.mk (below_drew1 HB.out)
                  clear HO_4
                  clear BK313
                  clear BK322
                  clear BK325
                  clear HB
                  have HO_4 := n0_
                  have BK313 := n1_
                  have BK322 := n2_
                  have BK325 := n3_
                  have HB := n4_
                  clear n0_ n1_ n2_ n3_ n4_
                  refine start_ (n := 31) (S := fun w' => w'.cell? ⟨gb325, 0, none⟩ = some (.int .u8 ((rd_T35 t306 x12_3).f0)) ∧ w'.cell? ⟨gb325, 1, none⟩ = some (.string ((rd_T35 t306 x12_3).f1)) ∧ w'.cell? ⟨gb325, 2, none⟩ = some (.int .i64 ((rd_T35 t306 x12_3).f2.f0)) ∧ w'.cell? ⟨gb325, 3, none⟩ = some (.int .i64 ((rd_T35 t306 x12_3).f2.f1)) ∧ w'.cell? ⟨gb325, 4, none⟩ = some (.int .i64 ((rd_T35 t306 x12_3).f2.f2)) ∧ w'.cell? ⟨gb325, 5, none⟩ = some (.int .i64 ((rd_T35 t306 x12_3).f3))) (ds := []) #[false, false, false, false, false, false, false, false, false, false, false, false, false, false, false, false, false, false, false, false, false, false, false, false, false, false, false, false, false, false, false] (by kernel_rfl) rfl rfl ⟨(blk_cell BK325.out 0).trans rfl, (blk_cell BK325.out 1).trans rfl, (blk_cell BK325.out 2).trans rfl, (blk_cell BK325.out 3).trans rfl, (blk_cell BK325.out 4).trans rfl, (blk_cell BK325.out 5).trans rfl⟩ (fun hHeld => ?_); refine with_tabW colophonlaw10_ScanCovers.tab19 colophonlaw10_ScanCovers.bits19 (fun HT_ HW_ => ?_)
                  generalize w36.drew = w45 at HO_4 BK313 BK322 BK325 HB hHeld ⊢
                  refine pure_ (i := 0) (N := some 77) (v := ?_) (a' := ?_) #[true, false, false, false, false, false, false, false, false, false, false, false, false, false, false, false, false, false, false, false, false, false, false, false, false, false, false, false, false, false, false] rfl rfl (any_of HT_.out (by kernel_rfl)) (fun _ _ _ h => h) (Or.inl ⟨by rfl, ?_⟩) ?_ ?_
                  rotate_left
                  ·intro w'
                   go_simp
                   with_reducible rfl
                  rotate_left
                  ·simp only [Act.put, List.setIfInBounds_toArray, List.set_cons_zero, List.set_cons_succ, i64_w, i32_w]
                   rfl
                  refine pure_ (i := 1) (N := some 78) (v := ?_) (a' := ?_) #[true, true, false, false, false, false, false, false, false, false, false, false, false, false, false, false, false, false, false, false, false, false, false, false, false, false, false, false, false, false, false] rfl rfl (any_of HT_.out (by kernel_rfl)) (fun _ _ _ h => h) (Or.inl ⟨by rfl, ?_⟩) ?_ ?_
                  rotate_left
                  ·intro w'
                   go_simp
                   with_reducible rfl
                  rotate_left
                  ·simp only [Act.put, List.setIfInBounds_toArray, List.set_cons_zero, List.set_cons_succ, i64_w, i32_w]
                   rfl
                  refine pure_ (i := 2) (N := some 79) (v := ?_) (a' := ?_) #[true, true, true, false, false, false, false, false, false, false, false, false, false, false, false, false, false, false, false, false, false, false, false, false, false, false, false, false, false, false, false] rfl rfl (any_of HT_.out (by kernel_rfl)) (fun _ _ _ h => h) (Or.inl ⟨by rfl, ?_⟩) ?_ ?_
                  rotate_left
                  ·intro w'
                   go_simp
                   with_reducible rfl
                  rotate_left
                  ·simp only [Act.put, List.setIfInBounds_toArray, List.set_cons_zero, List.set_cons_succ, i64_w, i32_w]
                   rfl
                  refine pure_ (i := 3) (N := some 80) (v := ?_) (a' := ?_) #[true, true, true, true, false, false, false, false, false, false, false, false, false, false, false, false, false, false, false, false, false, false, false, false, false, false, false, false, false, false, false] rfl rfl (any_of HT_.out (by kernel_rfl)) (fun _ _ _ h => h) (Or.inl ⟨by rfl, ?_⟩) ?_ ?_
                  rotate_left
                  ·intro w'
                   go_simp
                   with_reducible rfl
                  rotate_left
                  ·simp only [Act.put, List.setIfInBounds_toArray, List.set_cons_zero, List.set_cons_succ, i64_w, i32_w]
                   rfl
                  refine pure_ (i := 4) (N := some 81) (v := ?_) (a' := ?_) #[true, true, true, true, true, false, false, false, false, false, false, false, false, false, false, false, false, false, false, false, false, false, false, false, false, false, false, false, false, false, false] rfl rfl (any_of HT_.out (by kernel_rfl)) (fun _ _ _ h => h) (Or.inl ⟨by rfl, ?_⟩) ?_ ?_
                  rotate_left
                  ·intro w'
                   go_simp
                   with_reducible rfl
                  rotate_left
                  ·simp only [Act.put, List.setIfInBounds_toArray, List.set_cons_zero, List.set_cons_succ, i64_w, i32_w]
                   rfl
                  refine take_ (i := 5) (N := some 82) (v := ?_) (a' := ?_) #[true, true, true, true, true, true, false, false, false, false, false, false, false, false, false, false, false, false, false, false, false, false, false, false, false, false, false, false, false, false, false] rfl rfl (take_ofW HT_.out HW_.out (by kernel_rfl)) (fun _ _ _ h => h) (Or.inl ⟨by rfl, ?_⟩) hHeld ?_ ?_
                  rotate_left
                  ·rintro w' ⟨s0, s1, s2, s3, s4, s5⟩
                   go_simp
                   with_reducible rfl
                  rotate_left
                  ·simp only [Act.put, List.setIfInBounds_toArray, List.set_cons_zero, List.set_cons_succ, i64_w, i32_w]
                   rfl
                  refine pure_ (i := 6) (N := some 83) (v := ?_) (a' := ?_) #[true, true, true, true, true, true, true, false, false, false, false, false, false, false, false, false, false, false, false, false, false, false, false, false, false, false, false, false, false, false, false] rfl rfl (any_of HT_.out (by kernel_rfl)) (fun _ _ _ h => h) (Or.inl ⟨by rfl, ?_⟩) ?_ ?_
                  rotate_left
                  ·intro w'
                   go_simp
                   with_reducible rfl
                  rotate_left
                  ·simp only [Act.put, List.setIfInBounds_toArray, List.set_cons_zero, List.set_cons_succ, i64_w, i32_w]
                   rfl
                  refine pure_ (i := 7) (N := some 84) (v := ?_) (a' := ?_) #[true, true, true, true, true, true, true, true, false, false, false, false, false, false, false, false, false, false, false, false, false, false, false, false, false, false, false, false, false, false, false] rfl rfl (any_of HT_.out (by kernel_rfl)) (fun _ _ _ h => h) (Or.inl ⟨by rfl, ?_⟩) ?_ ?_
                  rotate_left
                  ·intro w'
                   go_simp
                   with_reducible rfl
                  rotate_left
                  ·simp only [Act.put, List.setIfInBounds_toArray, List.set_cons_zero, List.set_cons_succ, i64_w, i32_w]
                   rfl
                  refine pure_ (i := 8) (N := some 85) (v := ?_) (a' := ?_) #[true, true, true, true, true, true, true, true, true, false, false, false, false, false, false, false, false, false, false, false, false, false, false, false, false, false, false, false, false, false, false] rfl rfl (any_of HT_.out (by kernel_rfl)) (fun _ _ _ h => h) (Or.inl ⟨by rfl, ?_⟩) ?_ ?_
                  rotate_left
                  ·intro w'
                   go_simp
                   with_reducible rfl
                  rotate_left
                  ·simp only [Act.put, List.setIfInBounds_toArray, List.set_cons_zero, List.set_cons_succ, i64_w, i32_w]
                   rfl
                  refine pure_ (i := 9) (N := some 86) (v := ?_) (a' := ?_) #[true, true, true, true, true, true, true, true, true, true, false, false, false, false, false, false, false, false, false, false, false, false, false, false, false, false, false, false, false, false, false] rfl rfl (any_of HT_.out (by kernel_rfl)) (fun _ _ _ h => h) (Or.inl ⟨by rfl, ?_⟩) ?_ ?_
                  rotate_left
                  ·intro w'
                   go_simp
                   with_reducible rfl
                  rotate_left
                  ·simp only [Act.put, List.setIfInBounds_toArray, List.set_cons_zero, List.set_cons_succ, i64_w, i32_w]
                   rfl
                  refine take_ (i := 10) (N := some 87) (v := ?_) (a' := ?_) #[true, true, true, true, true, true, true, true, true, true, true, false, false, false, false, false, false, false, false, false, false, false, false, false, false, false, false, false, false, false, false] rfl rfl (take_ofW HT_.out HW_.out (by kernel_rfl)) (fun _ _ _ h => h) (Or.inl ⟨by rfl, ?_⟩) hHeld ?_ ?_
                  rotate_left
                  ·rintro w' ⟨s0, s1, s2, s3, s4, s5⟩
                   go_simp
                   with_reducible rfl
                  rotate_left
                  ·simp only [Act.put, List.setIfInBounds_toArray, List.set_cons_zero, List.set_cons_succ, i64_w, i32_w]
                   rfl
                  refine pure_ (i := 11) (N := some 88) (v := ?_) (a' := ?_) #[true, true, true, true, true, true, true, true, true, true, true, true, false, false, false, false, false, false, false, false, false, false, false, false, false, false, false, false, false, false, false] rfl rfl (any_of HT_.out (by kernel_rfl)) (fun _ _ _ h => h) (Or.inl ⟨by rfl, ?_⟩) ?_ ?_
                  rotate_left
                  ·intro w'
                   go_simp
                   with_reducible rfl
                  rotate_left
                  ·simp only [Act.put, List.setIfInBounds_toArray, List.set_cons_zero, List.set_cons_succ, i64_w, i32_w]
                   rfl
                  refine pure_ (i := 12) (N := some 89) (v := ?_) (a' := ?_) #[true, true, true, true, true, true, true, true, true, true, true, true, true, false, false, false, false, false, false, false, false, false, false, false, false, false, false, false, false, false, false] rfl rfl (any_of HT_.out (by kernel_rfl)) (fun _ _ _ h => h) (Or.inl ⟨by rfl, ?_⟩) ?_ ?_
                  rotate_left
                  ·intro w'
                   go_simp
                   with_reducible rfl
                  rotate_left
                  ·simp only [Act.put, List.setIfInBounds_toArray, List.set_cons_zero, List.set_cons_succ, i64_w, i32_w]
                   rfl
                  refine pure_ (i := 13) (N := some 90) (v := ?_) (a' := ?_) #[true, true, true, true, true, true, true, true, true, true, true, true, true, true, false, false, false, false, false, false, false, false, false, false, false, false, false, false, false, false, false] rfl rfl (any_of HT_.out (by kernel_rfl)) (fun _ _ _ h => h) (Or.inl ⟨by rfl, ?_⟩) ?_ ?_
                  rotate_left
                  ·intro w'
                   go_simp
                   with_reducible rfl
                  rotate_left
                  ·simp only [Act.put, List.setIfInBounds_toArray, List.set_cons_zero, List.set_cons_succ, i64_w, i32_w]
                   rfl
                  refine pure_ (i := 14) (N := some 91) (v := ?_) (a' := ?_) #[true, true, true, true, true, true, true, true, true, true, true, true, true, true, true, false, false, false, false, false, false, false, false, false, false, false, false, false, false, false, false] rfl rfl (any_of HT_.out (by kernel_rfl)) (fun _ _ _ h => h) (Or.inl ⟨by rfl, ?_⟩) ?_ ?_
                  rotate_left
                  ·intro w'
                   go_simp
                   with_reducible rfl
                  rotate_left
                  ·simp only [Act.put, List.setIfInBounds_toArray, List.set_cons_zero, List.set_cons_succ, i64_w, i32_w]
                   rfl
                  refine pure_ (i := 15) (N := some 92) (v := ?_) (a' := ?_) #[true, true, true, true, true, true, true, true, true, true, true, true, true, true, true, true, false, false, false, false, false, false, false, false, false, false, false, false, false, false, false] rfl rfl (any_of HT_.out (by kernel_rfl)) (fun _ _ _ h => h) (Or.inl ⟨by rfl, ?_⟩) ?_ ?_
                  rotate_left
                  ·intro w'
                   go_simp
                   with_reducible rfl
                  rotate_left
                  ·simp only [Act.put, List.setIfInBounds_toArray, List.set_cons_zero, List.set_cons_succ, i64_w, i32_w]
                   rfl
                  refine pure_ (i := 16) (N := some 93) (v := ?_) (a' := ?_) #[true, true, true, true, true, true, true, true, true, true, true, true, true, true, true, true, true, false, false, false, false, false, false, false, false, false, false, false, false, false, false] rfl rfl (any_of HT_.out (by kernel_rfl)) (fun _ _ _ h => h) (Or.inl ⟨by rfl, ?_⟩) ?_ ?_
                  rotate_left
                  ·intro w'
                   go_simp
                   with_reducible rfl
                  rotate_left
                  ·simp only [Act.put, List.setIfInBounds_toArray, List.set_cons_zero, List.set_cons_succ, i64_w, i32_w]
                   rfl
                  refine pure_ (i := 17) (N := some 94) (v := ?_) (a' := ?_) #[true, true, true, true, true, true, true, true, true, true, true, true, true, true, true, true, true, true, false, false, false, false, false, false, false, false, false, false, false, false, false] rfl rfl (any_of HT_.out (by kernel_rfl)) (fun _ _ _ h => h) (Or.inl ⟨by rfl, ?_⟩) ?_ ?_
                  rotate_left
                  ·intro w'
                   go_simp
                   with_reducible rfl
                  rotate_left
                  ·simp only [Act.put, List.setIfInBounds_toArray, List.set_cons_zero, List.set_cons_succ, i64_w, i32_w]
                   rfl
                  refine pure_ (i := 18) (N := some 95) (v := ?_) (a' := ?_) #[true, true, true, true, true, true, true, true, true, true, true, true, true, true, true, true, true, true, true, false, false, false, false, false, false, false, false, false, false, false, false] rfl rfl (any_of HT_.out (by kernel_rfl)) (fun _ _ _ h => h) (Or.inl ⟨by rfl, ?_⟩) ?_ ?_
                  rotate_left
                  ·intro w'
                   go_simp
                   with_reducible rfl
                  rotate_left
                  ·simp only [Act.put, List.setIfInBounds_toArray, List.set_cons_zero, List.set_cons_succ, i64_w, i32_w]
                   rfl
                  refine pure_ (i := 19) (N := some 96) (v := ?_) (a' := ?_) #[true, true, true, true, true, true, true, true, true, true, true, true, true, true, true, true, true, true, true, true, false, false, false, false, false, false, false, false, false, false, false] rfl rfl (any_of HT_.out (by kernel_rfl)) (fun _ _ _ h => h) (Or.inl ⟨by rfl, ?_⟩) ?_ ?_
                  rotate_left
                  ·intro w'
                   go_simp
                   with_reducible rfl
                  rotate_left
                  ·simp only [Act.put, List.setIfInBounds_toArray, List.set_cons_zero, List.set_cons_succ, i64_w, i32_w]
                   rfl
                  refine pure_ (i := 20) (N := some 97) (v := ?_) (a' := ?_) #[true, true, true, true, true, true, true, true, true, true, true, true, true, true, true, true, true, true, true, true, true, false, false, false, false, false, false, false, false, false, false] rfl rfl (any_of HT_.out (by kernel_rfl)) (fun _ _ _ h => h) (Or.inl ⟨by rfl, ?_⟩) ?_ ?_
                  rotate_left
                  ·intro w'
                   go_simp
                   with_reducible rfl
                  rotate_left
                  ·simp only [Act.put, List.setIfInBounds_toArray, List.set_cons_zero, List.set_cons_succ, i64_w, i32_w]
                   rfl
                  refine pure_ (i := 21) (N := some 98) (v := ?_) (a' := ?_) #[true, true, true, true, true, true, true, true, true, true, true, true, true, true, true, true, true, true, true, true, true, true, false, false, false, false, false, false, false, false, false] rfl rfl (any_of HT_.out (by kernel_rfl)) (fun _ _ _ h => h) (Or.inl ⟨by rfl, ?_⟩) ?_ ?_
                  rotate_left
                  ·intro w'
                   go_simp
                   with_reducible rfl
                  rotate_left
                  ·simp only [Act.put, List.setIfInBounds_toArray, List.set_cons_zero, List.set_cons_succ, i64_w, i32_w]
                   rfl
                  refine pure_ (i := 22) (N := some 99) (v := ?_) (a' := ?_) #[true, true, true, true, true, true, true, true, true, true, true, true, true, true, true, true, true, true, true, true, true, true, true, false, false, false, false, false, false, false, false] rfl rfl (any_of HT_.out (by kernel_rfl)) (fun _ _ _ h => h) (Or.inl ⟨by rfl, ?_⟩) ?_ ?_
                  rotate_left
                  ·intro w'
                   go_simp
                   with_reducible rfl
                  rotate_left
                  ·simp only [Act.put, List.setIfInBounds_toArray, List.set_cons_zero, List.set_cons_succ, i64_w, i32_w]
                   rfl
                  refine pure_ (i := 23) (N := some 100) (v := ?_) (a' := ?_) #[true, true, true, true, true, true, true, true, true, true, true, true, true, true, true, true, true, true, true, true, true, true, true, true, false, false, false, false, false, false, false] rfl rfl (any_of HT_.out (by kernel_rfl)) (fun _ _ _ h => h) (Or.inl ⟨by rfl, ?_⟩) ?_ ?_
                  rotate_left
                  ·intro w'
                   go_simp
                   with_reducible rfl
                  rotate_left
                  ·simp only [Act.put, List.setIfInBounds_toArray, List.set_cons_zero, List.set_cons_succ, i64_w, i32_w]
                   rfl
                  refine pure_ (i := 25) (N := some 102) (v := ?_) (a' := ?_) #[true, true, true, true, true, true, true, true, true, true, true, true, true, true, true, true, true, true, true, true, true, true, true, true, false, true, false, false, false, false, false] rfl rfl (any_of HT_.out (by kernel_rfl)) (fun _ _ _ h => h) (Or.inl ⟨by rfl, ?_⟩) ?_ ?_
                  rotate_left
                  ·intro w'
                   go_simp
                   with_reducible rfl
                  rotate_left
                  ·simp only [Act.put, List.setIfInBounds_toArray, List.set_cons_zero, List.set_cons_succ, i64_w, i32_w]
                   rfl
                  refine pure_ (i := 27) (N := some 104) (v := ?_) (a' := ?_) #[true, true, true, true, true, true, true, true, true, true, true, true, true, true, true, true, true, true, true, true, true, true, true, true, false, true, false, true, false, false, false] rfl rfl (any_of HT_.out (by kernel_rfl)) (fun _ _ _ h => h) (Or.inl ⟨by rfl, ?_⟩) ?_ ?_
                  rotate_left
                  ·intro w'
                   go_simp
                   with_reducible rfl
                  rotate_left
                  ·simp only [Act.put, List.setIfInBounds_toArray, List.set_cons_zero, List.set_cons_succ, i64_w, i32_w]
                   rfl
                  refine take_ (i := 24) (N := some 101) (v := ?_) (a' := ?_) #[true, true, true, true, true, true, true, true, true, true, true, true, true, true, true, true, true, true, true, true, true, true, true, true, true, true, false, true, false, false, false] rfl rfl (take_ofW HT_.out HW_.out (by kernel_rfl)) (fun _ _ _ h => h) (Or.inl ⟨by rfl, ?_⟩) hHeld ?_ ?_
                  rotate_left
                  ·rintro w' ⟨s0, s1, s2, s3, s4, s5⟩
                   go_simp
                   with_reducible rfl
                  rotate_left
                  ·simp only [Act.put, List.setIfInBounds_toArray, List.set_cons_zero, List.set_cons_succ, i64_w, i32_w]
                   rfl
                  refine pure_ (i := 26) (N := some 103) (v := ?_) (a' := ?_) #[true, true, true, true, true, true, true, true, true, true, true, true, true, true, true, true, true, true, true, true, true, true, true, true, true, true, true, true, false, false, false] rfl rfl (any_of HT_.out (by kernel_rfl)) (fun _ _ _ h => h) (Or.inl ⟨by rfl, ?_⟩) ?_ ?_
                  rotate_left
                  ·intro w'
                   go_simp
                   with_reducible rfl
                  rotate_left
                  ·simp only [Act.put, List.setIfInBounds_toArray, List.set_cons_zero, List.set_cons_succ, i64_w, i32_w]
                   rfl
                  refine take_ (i := 28) (N := some 105) (v := ?_) (a' := ?_) #[true, true, true, true, true, true, true, true, true, true, true, true, true, true, true, true, true, true, true, true, true, true, true, true, true, true, true, true, true, false, false] rfl rfl (take_ofW HT_.out HW_.out (by kernel_rfl)) (fun _ _ _ h => h) (Or.inl ⟨by rfl, ?_⟩) hHeld ?_ ?_
                  rotate_left
                  ·rintro w' ⟨s0, s1, s2, s3, s4, s5⟩
                   go_simp
                   with_reducible rfl
                  rotate_left
                  ·simp only [Act.put, List.setIfInBounds_toArray, List.set_cons_zero, List.set_cons_succ, i64_w, i32_w]
                   rfl
                  refine pure_ (i := 29) (N := some 106) (v := ?_) (a' := ?_) #[true, true, true, true, true, true, true, true, true, true, true, true, true, true, true, true, true, true, true, true, true, true, true, true, true, true, true, true, true, true, false] rfl rfl (any_of HT_.out (by kernel_rfl)) (fun _ _ _ h => h) (Or.inl ⟨by rfl, ?_⟩) ?_ ?_
                  rotate_left
                  ·intro w'
                   go_simp
                   with_reducible rfl
                  rotate_left
                  ·simp only [Act.put, List.setIfInBounds_toArray, List.set_cons_zero, List.set_cons_succ, i64_w, i32_w]
                   rfl
                  refine pure_ (i := 30) (N := some 107) (v := ?_) (a' := ?_) #[true, true, true, true, true, true, true, true, true, true, true, true, true, true, true, true, true, true, true, true, true, true, true, true, true, true, true, true, true, true, true] rfl rfl (any_of HT_.out (by kernel_rfl)) (fun _ _ _ h => h) (Or.inl ⟨by rfl, ?_⟩) ?_ ?_
                  rotate_left
                  ·intro w'
                   go_simp
                   with_reducible rfl
                  rotate_left
                  ·simp only [Act.put, List.setIfInBounds_toArray, List.set_cons_zero, List.set_cons_succ, i64_w, i32_w]
                   rfl
                  refine done_ (done_of HT_.out (by kernel_rfl)) ?_
                  try go_wp2
                  go_meet
                  case rel => exact ⟨_, (((a0.extract (((rd_T35 t306 x12_3).f2.f0) : Int).toNat ((wrap64 (((rd_T35 t306 x12_3).f2.f0) + (((rd_T35 t306 x12_3).f1).size : Int))) : Int).toNat).toList != ((rd_T35 t306 x12_3).f1).toList)), (by first|rfl|(simp; done)|(simp [*]; done)), H', ⟨by have := HJ2.out; have := HJ7.out; have := HK3.out; first|omega|exact Nat.le_refl _⟩, ⟨by (with_reducible repeat (first|apply Kd.R_alloc|apply Kd.R_drewN|apply Kd.R_drew)); exact Kd.R_mono HO_4.out (fun _ hk => hk.2)⟩, ⟨by (with_reducible repeat (first|refine blk_drewN ?_ _|refine blk_drew ?_|refine blk_alloc ?_ _)); exact BK313.out⟩, ⟨by (with_reducible repeat (first|refine blk_drewN ?_ _|refine blk_drew ?_|refine blk_alloc ?_ _)); exact BK322.out⟩, ⟨by (with_reducible repeat (first|refine blk_drewN ?_ _|refine blk_drew ?_|refine blk_alloc ?_ _)); exact BK325.out⟩, ⟨by repeat (first|(with_reducible first|exact HB.out|apply below_alloc|apply pw_below_drewN|apply below_drew1|refine below_set ?_ GE313.out|refine below_set ?_ GE322.out|refine below_set ?_ GE325.out)|exact HB.out)⟩⟩
                 ·rw [if_neg c44] at H
                  exact absurd H (by simp)
                ·rw [if_neg c43] at H
                 exact absurd H (by simp)
               ·rw [if_neg c42] at H
                exact absurd H (by simp)
            ·rw [if_neg c39] at H
             exact absurd H (by simp)
          case rest =>
           clear HC30
           try clear c1
           try clear c2
           try clear p2
           try clear c3
           try clear p3
           try clear q3
           try clear hx3
           try clear c4
           try clear c5
           try clear c6
           try clear p6
           try clear c7
           try clear c8
           try clear c12
           try clear c12b0
           try clear c12b1
           try clear c13
           try clear c14
           try clear c14b0
           try clear c14b1
           try clear c15
           try clear c15b0
           try clear c19
           try clear c25
           try clear c27
           try clear c27b0
           try clear c28
           try clear c28b0
           try clear p32
           try clear q32
           try clear hx32
           try clear c33
           try clear c34
           try clear c38
           try clear c38b0
           try clear c39
           try clear c39b0
           try clear c39b1
           try clear c40
           try clear c40b0
           try clear c40b1
           try clear c41
           try clear c41b0
           try clear c42
           try clear c42b0
           try clear c42b1
           try clear c43
           try clear c43b0
           try clear c43b1
           try clear c44
           try clear c44b0
           try clear c44b1
           try clear hcz11_0
           try clear hcz11_1
           try clear hcz11_2
           try clear hcz16_0
           try clear hcz16_1
           try clear hcz16_2
           try clear hcz20_0
           try clear hcz20_1
           try clear hcz20_2
           try clear hcz21_0
           try clear hcz21_1
           try clear hcz21_2
           try clear hcz26_0
           try clear hcz26_1
           try clear hcz26_2
           try clear hcz35_0
           try clear hcz35_1
           try clear hcz35_2
           try clear hcz35_3
           try clear hcz35_4
           try clear hcz35_5
           try clear hcz37_0
           try clear hcz37_1
           try clear hcz37_2
           try clear hcz37_3
           try clear hcz37_4
           try clear hcz37_5
           try clear hfz11_0
           try clear hfz11_1
           try clear hfz11_2
           try clear hfz16_0
           try clear hfz16_1
           try clear hfz16_2
           try clear hfz20_0
           try clear hfz20_1
           try clear hfz20_2
           try clear hfz21_0
           try clear hfz21_1
           try clear hfz21_2
           try clear hfz26_0
           try clear hfz26_1
           try clear hfz26_2
           try clear hfz35_0
           try clear hfz35_1
           try clear hfz35_2
           try clear hfz35_3
           try clear hfz35_4
           try clear hfz35_5
           try clear hfz37_0
           try clear hfz37_1
           try clear hfz37_2
           try clear hfz37_3
           try clear hfz37_4
           try clear hfz37_5
           try clear hx324_0
           try clear hx324_1
           try clear hx324_2
           try clear hx324_3
           try clear hx324_4
           try clear hx324_5
           try clear p2
           try clear p324
           try clear q324
           obtain ⟨kq, x107_29, rfl, HA, HJ29, HO_4, BK313, BK322, BK325, HB⟩ := hcut
           cases kq with
           | zero => exact absurd HA.out (by simp [colophonlaw10_ScanCovers.j3])
           | succ kj29 =>
            have H := HA.out
            clear HA
            simp only [colophonlaw10_ScanCovers.j3] at H
            by_cases c46 : x107_29 = true
            ·subst c46
             have H1 : (none) = some r := by rw [if_pos rfl] at H; exact H
             clear H
             have H := H1
             clear H1
             exact absurd H (by simp)
            ·replace c46 := Bool.eq_false_iff.mpr c46
             subst c46
             have H1 : (if 0 ≤ x323000_3 then (if x323000_3 ≤ ((rd_T35 t306 x12_3).f2.f0) then (if ((rd_T35 t306 x12_3).f2.f0) ≤ (a0.size : Int) then ((place_Advance.f x323000_3 x323001_3 x323002_3 (a0.extract (x323000_3 : Int).toNat (((rd_T35 t306 x12_3).f2.f0) : Int).toNat)).bind fun bt327 => (if (!(((rd_T35 t306 x12_3).f2.f0) == bt327.1) || (!(((rd_T35 t306 x12_3).f2.f1) == bt327.2.1) || (!(((rd_T35 t306 x12_3).f2.f2) == bt327.2.2)))) = true then (none) else (colophonlaw10_ScanCovers.l0 kj29 a0 t306 t309 x7_7 (wrap64 (((rd_T35 t306 x12_3).f2.f0) + (((rd_T35 t306 x12_3).f1).size : Int))) (wrap64 (x12_3 + 1)) bt327.1 bt327.2.1 bt327.2.2))) else (none)) else (none)) else (none)) = some r := by rw [if_neg (show ¬ (false = true) by decide)] at H; exact H
             clear H
             have H := H1
             clear H1
             by_cases c47 : 0 ≤ x323000_3
             ·rw [if_pos c47] at H
              have c47b0 := eq_true c47
              have c47b1 : decide (0 ≤ x323000_3) = true := decide_eq_true c47
              clear c47
              by_cases c48 : x323000_3 ≤ ((rd_T35 t306 x12_3).f2.f0)
              ·rw [if_pos c48] at H
               have c48b0 := eq_true c48
               have c48b1 : decide (x323000_3 ≤ ((rd_T35 t306 x12_3).f2.f0)) = true := decide_eq_true c48
               clear c48
               by_cases c49 : ((rd_T35 t306 x12_3).f2.f0) ≤ (a0.size : Int)
               ·rw [if_pos c49] at H
                have c49b0 := eq_true c49
                have c49b1 : decide (((rd_T35 t306 x12_3).f2.f0) ≤ (a0.size : Int)) = true := decide_eq_true c49
                clear c49
                replace H := Option.bind_eq_some_iff.mp H
                obtain ⟨⟨t327, t328, t329⟩, A500, H⟩ := H
                replace H : (if (!(((rd_T35 t306 x12_3).f2.f0) == t327) || (!(((rd_T35 t306 x12_3).f2.f1) == t328) || (!(((rd_T35 t306 x12_3).f2.f2) == t329)))) = true then (none) else (colophonlaw10_ScanCovers.l0 kj29 a0 t306 t309 x7_7 (wrap64 (((rd_T35 t306 x12_3).f2.f0) + (((rd_T35 t306 x12_3).f1).size : Int))) (wrap64 (x12_3 + 1)) t327 t328 t329)) = some r := H
                have A50 := Aside0.mk A500
                clear A500
                by_cases c51 : (!(((rd_T35 t306 x12_3).f2.f0) == t327) || (!(((rd_T35 t306 x12_3).f2.f1) == t328) || (!(((rd_T35 t306 x12_3).f2.f2) == t329)))) = true
                ·rw [if_pos c51] at H
                 exact absurd H (by simp)
                ·rw [if_neg c51] at H
                 have c51b0 : (!(((rd_T35 t306 x12_3).f2.f0) == t327) || (!(((rd_T35 t306 x12_3).f2.f1) == t328) || (!(((rd_T35 t306 x12_3).f2.f2) == t329)))) = false := by simpa using c51
                 clear c51
                 have H' := Aside0.mk H
                 clear H
                 try go_wp2
                 have n0_ := Aside0.mk (Kd.R_drew HO_4.out)
                 have n1_ := Aside0.mk (blk_drew BK313.out)
                 have n2_ := Aside0.mk (blk_drew BK322.out)
                 have n3_ := Aside0.mk (blk_drew BK325.out)
                 have n4_ := Aside0.mk (below_drew1 HB.out)
                 clear HO_4
                 clear BK313
                 clear BK322
                 clear BK325
                 clear HB
                 have HO_4 := n0_
                 have BK313 := n1_
                 have BK322 := n2_
                 have BK325 := n3_
                 have HB := n4_
                 clear n0_ n1_ n2_ n3_ n4_
                 refine start_ (n := 10) (S := fun w' => w'.cell? ⟨gb322, 0, none⟩ = some (.int .i64 x323000_3) ∧ w'.cell? ⟨gb322, 1, none⟩ = some (.int .i64 x323001_3) ∧ w'.cell? ⟨gb322, 2, none⟩ = some (.int .i64 x323002_3) ∧ w'.cell? ⟨gb325, 0, none⟩ = some (.int .u8 ((rd_T35 t306 x12_3).f0)) ∧ w'.cell? ⟨gb325, 1, none⟩ = some (.string ((rd_T35 t306 x12_3).f1)) ∧ w'.cell? ⟨gb325, 2, none⟩ = some (.int .i64 ((rd_T35 t306 x12_3).f2.f0)) ∧ w'.cell? ⟨gb325, 3, none⟩ = some (.int .i64 ((rd_T35 t306 x12_3).f2.f1)) ∧ w'.cell? ⟨gb325, 4, none⟩ = some (.int .i64 ((rd_T35 t306 x12_3).f2.f2)) ∧ w'.cell? ⟨gb325, 5, none⟩ = some (.int .i64 ((rd_T35 t306 x12_3).f3))) (ds := [9]) #[false, false, false, false, false, false, false, false, false, false] (by kernel_rfl) rfl rfl ⟨(blk_cell BK322.out 0).trans rfl, (blk_cell BK322.out 1).trans rfl, (blk_cell BK322.out 2).trans rfl, (blk_cell BK325.out 0).trans rfl, (blk_cell BK325.out 1).trans rfl, (blk_cell BK325.out 2).trans rfl, (blk_cell BK325.out 3).trans rfl, (blk_cell BK325.out 4).trans rfl, (blk_cell BK325.out 5).trans rfl⟩ (fun hHeld => ?_); refine with_tabW colophonlaw10_ScanCovers.tab21 colophonlaw10_ScanCovers.bits21 (fun HT_ HW_ => ?_)
                 generalize wc.drew = w52 at HO_4 BK313 BK322 BK325 HB hHeld ⊢
                 refine pure_ (i := 1) (N := some 109) (v := ?_) (a' := ?_) #[false, true, false, false, false, false, false, false, false, false] rfl rfl (any_of HT_.out (by kernel_rfl)) (fun _ _ _ h => h) (Or.inl ⟨by rfl, ?_⟩) ?_ ?_
                 rotate_left
                 ·intro w'
                  go_simp
                  with_reducible rfl
                 rotate_left
                 ·simp only [Act.put, List.setIfInBounds_toArray, List.set_cons_zero, List.set_cons_succ, i64_w, i32_w]
                  rfl
                 refine pure_ (i := 2) (N := some 110) (v := ?_) (a' := ?_) #[false, true, true, false, false, false, false, false, false, false] rfl rfl (any_of HT_.out (by kernel_rfl)) (fun _ _ _ h => h) (Or.inl ⟨by rfl, ?_⟩) ?_ ?_
                 rotate_left
                 ·intro w'
                  go_simp
                  with_reducible rfl
                 rotate_left
                 ·simp only [Act.put, List.setIfInBounds_toArray, List.set_cons_zero, List.set_cons_succ, i64_w, i32_w]
                  rfl
                 refine pure_ (i := 4) (N := some 112) (v := ?_) (a' := ?_) #[false, true, true, false, true, false, false, false, false, false] rfl rfl (any_of HT_.out (by kernel_rfl)) (fun _ _ _ h => h) (Or.inl ⟨by rfl, ?_⟩) ?_ ?_
                 rotate_left
                 ·intro w'
                  go_simp
                  with_reducible rfl
                 rotate_left
                 ·simp only [Act.put, List.setIfInBounds_toArray, List.set_cons_zero, List.set_cons_succ, i64_w, i32_w]
                  rfl
                 refine pure_ (i := 5) (N := some 113) (v := ?_) (a' := ?_) #[false, true, true, false, true, true, false, false, false, false] rfl rfl (any_of HT_.out (by kernel_rfl)) (fun _ _ _ h => h) (Or.inl ⟨by rfl, ?_⟩) ?_ ?_
                 rotate_left
                 ·intro w'
                  go_simp
                  with_reducible rfl
                 rotate_left
                 ·simp only [Act.put, List.setIfInBounds_toArray, List.set_cons_zero, List.set_cons_succ, i64_w, i32_w]
                  rfl
                 refine take_ (i := 0) (N := some 108) (v := ?_) (a' := ?_) #[true, true, true, false, true, true, false, false, false, false] rfl rfl (take_ofW HT_.out HW_.out (by kernel_rfl)) (fun _ _ _ h => h) (Or.inl ⟨by rfl, ?_⟩) hHeld ?_ ?_
                 rotate_left
                 ·rintro w' ⟨s0, s1, s2, s3, s4, s5, s6, s7, s8⟩
                  go_simp
                  with_reducible rfl
                 rotate_left
                 ·simp only [Act.put, List.setIfInBounds_toArray, List.set_cons_zero, List.set_cons_succ, i64_w, i32_w]
                  rfl
                 refine take_ (i := 3) (N := some 111) (v := ?_) (a' := ?_) #[true, true, true, true, true, true, false, false, false, false] rfl rfl (take_ofW HT_.out HW_.out (by kernel_rfl)) (fun _ _ _ h => h) (Or.inl ⟨by rfl, ?_⟩) hHeld ?_ ?_
                 rotate_left
                 ·rintro w' ⟨s0, s1, s2, s3, s4, s5, s6, s7, s8⟩
                  go_simp
                  with_reducible rfl
                 rotate_left
                 ·simp only [Act.put, List.setIfInBounds_toArray, List.set_cons_zero, List.set_cons_succ, i64_w, i32_w]
                  rfl
                 refine take_ (i := 6) (N := some 114) (v := ?_) (a' := ?_) #[true, true, true, true, true, true, true, false, false, false] rfl rfl (take_ofW HT_.out HW_.out (by kernel_rfl)) (fun _ _ _ h => h) (Or.inl ⟨by rfl, ?_⟩) hHeld ?_ ?_
                 rotate_left
                 ·rintro w' ⟨s0, s1, s2, s3, s4, s5, s6, s7, s8⟩
                  go_simp
                  with_reducible rfl
                 rotate_left
                 ·simp only [Act.put, List.setIfInBounds_toArray, List.set_cons_zero, List.set_cons_succ, i64_w, i32_w]
                  rfl
                 refine pure_ (i := 7) (N := some 115) (v := ?_) (a' := ?_) #[true, true, true, true, true, true, true, true, false, false] rfl rfl (any_of HT_.out (by kernel_rfl)) (fun _ _ _ h => h) (Or.inl ⟨by rfl, ?_⟩) ?_ ?_
                 rotate_left
                 ·intro w'
                  go_simp
                  with_reducible rfl
                 rotate_left
                 ·simp only [Act.put, List.setIfInBounds_toArray, List.set_cons_zero, List.set_cons_succ, i64_w, i32_w]
                  rfl
                 refine one_ (i := 8) (N := some 116) #[true, true, true, true, true, true, true, true, true, false] rfl rfl (one_of HT_.out (by kernel_rfl)) (by decide) (fun K hK => ?_)
                 refine goes_ Tryd.func15 (by kernel_rfl) rfl #[.agg #[.int .i64 x323000_3, .int .i64 x323001_3, .int .i64 x323002_3], .string (a0.extract (x323000_3 : Int).toNat (((rd_T35 t306 x12_3).f2.f0) : Int).toNat)] (by rfl) rfl rfl (by (try simp only [List.map_toArray, List.map_cons, List.map_nil]); first|done|rfl|(simp only [List.length_drop, List.length_take]; rfl)) ?_
                 with_reducible refine (place_Advance.calls x323000_3 x323001_3 x323002_3 (a0.extract (x323000_3 : Int).toNat (((rd_T35 t306 x12_3).f2.f0) : Int).toNat) t327 t328 t329 _ A50.out).mono ?_
                 rintro e w53 ⟨rfl, hb⟩
                 refine ⟨_, rfl, ?_⟩
                 have n0_ := Aside0.mk (Kd.R_below (by (with_reducible repeat (first|apply Kd.R_alloc|apply Kd.R_drewN|apply Kd.R_drew)); exact HO_4.out) hb)
                 have n1_ := Aside0.mk (blk_below (g := gb313) (o := .cells #[.int .i64 t310, .int .i64 t311, .int .i64 t312] 26 (0, 0)) (by (with_reducible repeat (first|refine blk_drewN ?_ _|refine blk_drew ?_|refine blk_alloc ?_ _)); exact BK313.out) hb)
                 have n2_ := Aside0.mk (blk_below (g := gb322) (o := .cells #[.int .i64 x323000_3, .int .i64 x323001_3, .int .i64 x323002_3] 26 (0, 0)) (by (with_reducible repeat (first|refine blk_drewN ?_ _|refine blk_drew ?_|refine blk_alloc ?_ _)); exact BK322.out) hb)
                 have n3_ := Aside0.mk (blk_below (g := gb325) (o := .cells #[.int .u8 ((rd_T35 t306 x12_3).f0), .string ((rd_T35 t306 x12_3).f1), .int .i64 ((rd_T35 t306 x12_3).f2.f0), .int .i64 ((rd_T35 t306 x12_3).f2.f1), .int .i64 ((rd_T35 t306 x12_3).f2.f2), .int .i64 ((rd_T35 t306 x12_3).f3)] 35 (0, 0)) (by (with_reducible repeat (first|refine blk_drewN ?_ _|refine blk_drew ?_|refine blk_alloc ?_ _)); exact BK325.out) hb)
                 have n4_ := Aside0.mk (below_step (by repeat (first|(with_reducible first|exact HB.out|apply below_alloc|apply pw_below_drewN|apply below_drew1|refine below_set ?_ GE313.out|refine below_set ?_ GE322.out|refine below_set ?_ GE325.out)|exact HB.out)) hb)
                 clear HO_4
                 clear BK313
                 clear BK322
                 clear BK325
                 clear HB
                 have HO_4 := n0_
                 have BK313 := n1_
                 have BK322 := n2_
                 have BK325 := n3_
                 have HB := n4_
                 clear n0_ n1_ n2_ n3_ n4_
                 (try clear hb)
                 (try clear hb2)
                 (try clear hk)
                 (try clear hi)
                 refine hK.out _ _ ⟨(blk_cell BK322.out 0).trans rfl, (blk_cell BK322.out 1).trans rfl, (blk_cell BK322.out 2).trans rfl, (blk_cell BK325.out 0).trans rfl, (blk_cell BK325.out 1).trans rfl, (blk_cell BK325.out 2).trans rfl, (blk_cell BK325.out 3).trans rfl, (blk_cell BK325.out 4).trans rfl, (blk_cell BK325.out 5).trans rfl⟩ (fun hHeld => ?_)
                 clear hK K
                 refine norm_ (a' := ?_) ?_ ?_
                 rotate_left
                 ·show Act.put _ (some 116) _ = _
                  simp only [Act.put, List.setIfInBounds_toArray, List.set_cons_zero, List.set_cons_succ, i64_w, i32_w]
                  rfl
                 refine last_ (i := 9) (N := none) #[true, true, true, true, true, true, true, true, true, true] rfl rfl (one_of HT_.out (by kernel_rfl)) (by decide) (fun K hK => ?_)
                 have hs54 : w53.cell? ⟨gb322, 0, none⟩ = some (.int .i64 x323000_3) := (blk_cell BK322.out 0).trans rfl
                 have hfs54 := blk_frozen BK322.out 0
                 have hns54_0 := NB313_322.out
                 have hns54_2 := NB325_322.out
                 have hms54_0 := NB322_313.out
                 have hms54_2 := NB322_325.out
                 have hs55 : w53.cell? ⟨gb322, 1, none⟩ = some (.int .i64 x323001_3) := (blk_cell BK322.out 1).trans rfl
                 have hfs55 := blk_frozen BK322.out 1
                 have hns55_0 := NB313_322.out
                 have hns55_2 := NB325_322.out
                 have hms55_0 := NB322_313.out
                 have hms55_2 := NB322_325.out
                 have hs56 : w53.cell? ⟨gb322, 2, none⟩ = some (.int .i64 x323002_3) := (blk_cell BK322.out 2).trans rfl
                 have hfs56 := blk_frozen BK322.out 2
                 have hns56_0 := NB313_322.out
                 have hns56_2 := NB325_322.out
                 have hms56_0 := NB322_313.out
                 have hms56_2 := NB322_325.out
                 refine skip_ (w1 := ?_) (by rfl) rfl ?_ ?_
                 rotate_left
                 ·go_simp
                  rfl
                 refine hK.out _ _ ?_
                 clear hK K
                 refine done_ (done_of HT_.out (by kernel_rfl)) ?_
                 have hnb57 := NB325_313.out
                 have hnc57 := NB313_325.out
                 have hnb58 := NB325_322.out
                 have hnc58 := NB322_325.out
                 have hcz59_0 : w53.cell? ⟨gb325, 0, none⟩ = some (.int .u8 ((rd_T35 t306 x12_3).f0)) := (blk_cell BK325.out 0).trans rfl
                 have hcz59_1 : w53.cell? ⟨gb325, 1, none⟩ = some (.string ((rd_T35 t306 x12_3).f1)) := (blk_cell BK325.out 1).trans rfl
                 have hcz59_2 : w53.cell? ⟨gb325, 2, none⟩ = some (.int .i64 ((rd_T35 t306 x12_3).f2.f0)) := (blk_cell BK325.out 2).trans rfl
                 have hcz59_3 : w53.cell? ⟨gb325, 3, none⟩ = some (.int .i64 ((rd_T35 t306 x12_3).f2.f1)) := (blk_cell BK325.out 3).trans rfl
                 have hcz59_4 : w53.cell? ⟨gb325, 4, none⟩ = some (.int .i64 ((rd_T35 t306 x12_3).f2.f2)) := (blk_cell BK325.out 4).trans rfl
                 have hcz59_5 : w53.cell? ⟨gb325, 5, none⟩ = some (.int .i64 ((rd_T35 t306 x12_3).f3)) := (blk_cell BK325.out 5).trans rfl
                 have hfz59_0 := blk_frozen BK325.out 0
                 have hfz59_1 := blk_frozen BK325.out 1
                 have hfz59_2 := blk_frozen BK325.out 2
                 have hfz59_3 := blk_frozen BK325.out 3
                 have hfz59_4 := blk_frozen BK325.out 4
                 have hfz59_5 := blk_frozen BK325.out 5
                 have hnb60 := NB322_313.out
                 have hnc60 := NB313_322.out
                 have hcz61_0 : w53.cell? ⟨gb322, 0, none⟩ = some (.int .i64 x323000_3) := (blk_cell BK322.out 0).trans rfl
                 have hcz61_1 : w53.cell? ⟨gb322, 1, none⟩ = some (.int .i64 x323001_3) := (blk_cell BK322.out 1).trans rfl
                 have hcz61_2 : w53.cell? ⟨gb322, 2, none⟩ = some (.int .i64 x323002_3) := (blk_cell BK322.out 2).trans rfl
                 have hfz61_0 := blk_frozen BK322.out 0
                 have hfz61_1 := blk_frozen BK322.out 1
                 have hfz61_2 := blk_frozen BK322.out 2
                 try go_wp2
                 go_roundg kj29
                 case measure => have := HJ2.out; have := HJ7.out; have := HK3.out; have := HJ29.out; omega
                 case rel => exact ⟨((wrap64 (((rd_T35 t306 x12_3).f2.f0) + (((rd_T35 t306 x12_3).f1).size : Int)))),(wrap64 (x12_3 + 1)),(t327),(t328),(t329),(by first|rfl|(simp;done)|(simp [*];done)),(by first|rfl|(simp;done)|(simp [*];done)),H',⟨by have:=HJ2.out;have:=HJ7.out;have:=HK3.out;have:=HJ29.out;omega⟩,⟨by (with_reducible repeat (first|apply Kd.R_alloc|apply Kd.R_drewN|apply Kd.R_drew));exact Kd.R_mono (Kd.R_far (p:=⟨gb322,2,none⟩) (Kd.R_far (p:=⟨gb322,1,none⟩) (Kd.R_far (p:=⟨gb322,0,none⟩) (Kd.R_types HO_4.out BK322.out (by decide)) (fun _ hk => hk.2) (.int .i64 t327)) (fun _ hk => hk.2) (.int .i64 t328)) (fun _ hk => hk.2) (.int .i64 t329)) (fun _ hk => trivial)⟩,⟨by (with_reducible repeat (first|refine blk_drewN ?_ _|refine blk_drew ?_|refine blk_alloc ?_ _));refine blk_far ?_ NB313_322.out _;(with_reducible repeat (first|refine blk_drewN ?_ _|refine blk_drew ?_|refine blk_alloc ?_ _));refine blk_far ?_ NB313_322.out _;(with_reducible repeat (first|refine blk_drewN ?_ _|refine blk_drew ?_|refine blk_alloc ?_ _));refine blk_far ?_ NB313_322.out _;(with_reducible repeat (first|refine blk_drewN ?_ _|refine blk_drew ?_|refine blk_alloc ?_ _));exact BK313.out⟩,⟨by (with_reducible repeat (first|refine blk_drewN ?_ _|refine blk_drew ?_|refine blk_alloc ?_ _));refine blk_put (cs:=#[.int .i64 t327,.int .i64 t328,.int .i64 x323002_3]) ?_ 2 _ rfl;(with_reducible repeat (first|refine blk_drewN ?_ _|refine blk_drew ?_|refine blk_alloc ?_ _));refine blk_put (cs:=#[.int .i64 t327,.int .i64 x323001_3,.int .i64 x323002_3]) ?_ 1 _ rfl;(with_reducible repeat (first|refine blk_drewN ?_ _|refine blk_drew ?_|refine blk_alloc ?_ _));refine blk_put (cs:=#[.int .i64 x323000_3,.int .i64 x323001_3,.int .i64 x323002_3]) ?_ 0 _ rfl;(with_reducible repeat (first|refine blk_drewN ?_ _|refine blk_drew ?_|refine blk_alloc ?_ _));exact BK322.out⟩,⟨by repeat (first|(with_reducible first|exact HB.out|apply below_alloc|apply pw_below_drewN|apply below_drew1|refine below_set ?_ GE313.out|refine below_set ?_ GE322.out|refine below_set ?_ GE325.out)|exact HB.out)⟩⟩
               ·rw [if_neg c49] at H
                exact absurd H (by simp)
              ·rw [if_neg c48] at H
               exact absurd H (by simp)
             ·rw [if_neg c47] at H
              exact absurd H (by simp)
         ·rw [if_neg c28] at H
          exact absurd H (by simp)
        ·rw [if_neg c27] at H
         have c27b0 : decide (x12_3 < (t306.length : Int)) = false := decide_eq_false c27
         clear c27
         replace H := Option.bind_eq_some_iff.mp H
         obtain ⟨t323, A620, H⟩ := H
         replace H : (if t323 ≥ 0 then (some true) else (if t309 = 102 then (some (decide (x10_3 < x7_7))) else (none))) = some r := H
         have A62 := Aside0.mk A620
         clear A620
         by_cases c63 : t323 ≥ 0
         ·rw [if_pos c63] at H
          have c63b0 : decide (0 ≤ t323) = true := decide_eq_true c63
          clear c63
          obtain rfl := Option.some.inj H
          obtain ⟨Ao64, co64, eo64⟩ := Kd.R_slice HO_4.out
          subst eo64
          go_wp2_with (first|((with_reducible refine gate_callee (f:=14) rfl ?_);refine goesL_ (some 125) rfl rfl Tryd.func14 (by kernel_rfl) rfl #[.string a0,.int .i64 x10_3,.int .i64 x7_7] rfl (by (try simp only [List.map_toArray,List.map_cons,List.map_nil]);first|done|rfl|(simp only [List.length_drop,List.length_take];rfl)) ?_;(with_reducible refine (colophonlaw10_between.calls k3 a0 x10_3 x7_7 t323 _ A62.out).mono ?_);rintro e w65 ⟨rfl,hb⟩;refine ⟨_,rfl,?_⟩;have n0_:=Aside0.mk (Kd.R_below (by (with_reducible repeat (first|apply Kd.R_alloc|apply Kd.R_drewN|apply Kd.R_drew));exact HO_4.out) hb);have n1_:=Aside0.mk (blk_below (g:=gb313) (o:=.cells #[.int .i64 t310,.int .i64 t311,.int .i64 t312] 26 (0,0)) (by (with_reducible repeat (first|refine blk_drewN ?_ _|refine blk_drew ?_|refine blk_alloc ?_ _));exact BK313.out) hb);have n2_:=Aside0.mk (blk_below (g:=gb322) (o:=.cells #[.int .i64 x323000_3,.int .i64 x323001_3,.int .i64 x323002_3] 26 (0,0)) (by (with_reducible repeat (first|refine blk_drewN ?_ _|refine blk_drew ?_|refine blk_alloc ?_ _));exact BK322.out) hb);have n3_:=Aside0.mk (below_step (by repeat (first|(with_reducible first|exact HB.out|apply below_alloc|apply pw_below_drewN|apply below_drew1|refine below_set ?_ GE313.out|refine below_set ?_ GE322.out)|exact HB.out)) hb);clear HO_4;clear BK313;clear BK322;clear HB;have HO_4:=n0_;have BK313:=n1_;have BK322:=n2_;have HB:=n3_;clear n0_ n1_ n2_ n3_;(try clear hb);(try clear hb2);(try clear hk);(try clear hi)))
          go_ret
          exact ⟨by first|rfl|(simp [errW_none, errW_some] <;> rfl)|(simp [*, errW_none, errW_some] <;> rfl), by repeat (first|(with_reducible first|exact HB.out|apply below_alloc|apply pw_below_drewN|apply below_drew1|refine below_set ?_ GE313.out|refine below_set ?_ GE322.out)|exact HB.out)⟩
         ·rw [if_neg c63] at H
          have c63b0 : decide (0 ≤ t323) = false := decide_eq_false c63
          clear c63
          by_cases c66 : t309 = 102
          ·rw [if_pos c66] at H
           have c66b0 : (t309 == 102) = true := beq_iff_eq.mpr c66
           have c66b1 : (t309 != 102) = false := bne_eq_false_iff_eq.mpr c66
           clear c66
           obtain rfl := Option.some.inj H
           obtain ⟨Ao67, co67, eo67⟩ := Kd.R_slice HO_4.out
           subst eo67
           go_wp2_with (first|((with_reducible refine gate_callee (f:=14) rfl ?_);refine goesL_ (some 125) rfl rfl Tryd.func14 (by kernel_rfl) rfl #[.string a0,.int .i64 x10_3,.int .i64 x7_7] rfl (by (try simp only [List.map_toArray,List.map_cons,List.map_nil]);first|done|rfl|(simp only [List.length_drop,List.length_take];rfl)) ?_;(with_reducible refine (colophonlaw10_between.calls k3 a0 x10_3 x7_7 t323 _ A62.out).mono ?_);rintro e w68 ⟨rfl,hb⟩;refine ⟨_,rfl,?_⟩;have n0_:=Aside0.mk (Kd.R_below (by (with_reducible repeat (first|apply Kd.R_alloc|apply Kd.R_drewN|apply Kd.R_drew));exact HO_4.out) hb);have n1_:=Aside0.mk (blk_below (g:=gb313) (o:=.cells #[.int .i64 t310,.int .i64 t311,.int .i64 t312] 26 (0,0)) (by (with_reducible repeat (first|refine blk_drewN ?_ _|refine blk_drew ?_|refine blk_alloc ?_ _));exact BK313.out) hb);have n2_:=Aside0.mk (blk_below (g:=gb322) (o:=.cells #[.int .i64 x323000_3,.int .i64 x323001_3,.int .i64 x323002_3] 26 (0,0)) (by (with_reducible repeat (first|refine blk_drewN ?_ _|refine blk_drew ?_|refine blk_alloc ?_ _));exact BK322.out) hb);have n3_:=Aside0.mk (below_step (by repeat (first|(with_reducible first|exact HB.out|apply below_alloc|apply pw_below_drewN|apply below_drew1|refine below_set ?_ GE313.out|refine below_set ?_ GE322.out)|exact HB.out)) hb);clear HO_4;clear BK313;clear BK322;clear HB;have HO_4:=n0_;have BK313:=n1_;have BK322:=n2_;have HB:=n3_;clear n0_ n1_ n2_ n3_;(try clear hb);(try clear hb2);(try clear hk);(try clear hi)))
           go_ret
           exact ⟨by first|rfl|(simp [errW_none, errW_some] <;> rfl)|(simp [*, errW_none, errW_some] <;> rfl), by repeat (first|(with_reducible first|exact HB.out|apply below_alloc|apply pw_below_drewN|apply below_drew1|refine below_set ?_ GE313.out|refine below_set ?_ GE322.out)|exact HB.out)⟩
          ·rw [if_neg c66] at H
           exact absurd H (by simp)

end Go.Proofs.YtgfloplakjmncaaDoor.PScan
