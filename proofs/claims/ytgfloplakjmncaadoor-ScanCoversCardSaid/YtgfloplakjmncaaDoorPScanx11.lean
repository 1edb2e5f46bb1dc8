-- Printed by the prover's own program (wip/xprint.py) over the kit's print. Not trusted: Lean checks it.
import Derived.Test.YtgfloplakjmncaaDoorPScanx0
import Derived.Test.YtgfloplakjmncaaDoorPScanx3
import Derived.Test.YtgfloplakjmncaaDoorXF
namespace Go.Proofs.YtgfloplakjmncaaDoor.PScan
open Go.RowKit Go.Proofs.YtgfloplakjmncaaDoorW.PrintWords Go.Proofs.YtgfloplakjmncaaDoorW.PrintLast Go.Proofs.YtgfloplakjmncaaDoorW.PrintMore
attribute [local go_sem] max2_int min2_int max_two min_two max_three min_three max_four min_four   -- for this text's walks alone
set_option linter.unusedVariables false
set_option linter.unusedSimpArgs false

/-! ### colophonlaw10_ScanBegins: function 4 -/
mutual
def colophonlaw10_ScanBegins.j0 : Nat → ByteArray → Int → Bool → Bool → Option (Bool)
 | 0, _, _, _, _ => none
 | k + 1, x0, x1, x5, x21 => if x21 = true then (some x5) else (if x1 < 0 then (colophonlaw10_ScanBegins.j1 k x0 (wrap64 (-(wrap64 (x1 + 1))))) else (colophonlaw10_ScanBegins.j1 k x0 x1))
def colophonlaw10_ScanBegins.j1 : Nat → ByteArray → Int → Option (Bool)
 | 0, _, _ => none
 | k + 1, x0, x1 => if (wrap64 ((x0.size : Int) + 1)) = 0 then (none) else (if 0 ≤ (Int.tmod x1 (wrap64 ((x0.size : Int) + 1))) then (if (Int.tmod x1 (wrap64 ((x0.size : Int) + 1))) ≤ (x0.size : Int) then ((scan_All.f (x0.extract 0 ((Int.tmod x1 (wrap64 ((x0.size : Int) + 1))) : Int).toNat)).bind fun bt278 => ((scan_All.f x0).bind fun bt286 => (if bt278.2.1 = 0 then (if bt286.2.1 = 0 then (colophonlaw10_ScanBegins.j2 k bt278.1 bt286.1 ((bt278.1.length : Int) == 0)) else (colophonlaw10_ScanBegins.j2 k bt278.1 bt286.1 true)) else (colophonlaw10_ScanBegins.j2 k bt278.1 bt286.1 true)))) else (none)) else (none))
def colophonlaw10_ScanBegins.j2 : Nat → List (S35) → List (S35) → Bool → Option (Bool)
 | 0, _, _, _ => none
 | k + 1, x7, x10, x57 => if x57 = true then (some true) else (if (wrap64 ((x7.length : Int) - 1)) > (x10.length : Int) then (none) else (if 0 ≤ (wrap64 ((x7.length : Int) - 1)) then (if (wrap64 ((x7.length : Int) - 1)) ≤ (x7.length : Int) then (if (wrap64 ((x7.length : Int) - 1)) ≤ (x10.length : Int) then ((colophonlaw10_same.f k (x7.take ((wrap64 ((x7.length : Int) - 1)) : Int).toNat) (x10.take ((wrap64 ((x7.length : Int) - 1)) : Int).toNat)).bind fun t302 => (some t302)) else (none)) else (none)) else (none)))
end
def colophonlaw10_ScanBegins.f (k : Nat) (a0 : ByteArray) (a1 : Int) : Option (Bool) := (colophonlaw10_awake.f k).bind fun t277 => (if t277 = true then (colophonlaw10_ScanBegins.j0 k a0 a1 t277 (decide ((a0.size : Int) > 67108864))) else (colophonlaw10_ScanBegins.j0 k a0 a1 t277 true))
theorem colophonlaw10_ScanBegins.mono_l : ∀ k, (∀ y0 y1 y2 y3, LeO (colophonlaw10_ScanBegins.j0 k y0 y1 y2 y3) (colophonlaw10_ScanBegins.j0 (k + 1) y0 y1 y2 y3)) ∧ (∀ y0 y1, LeO (colophonlaw10_ScanBegins.j1 k y0 y1) (colophonlaw10_ScanBegins.j1 (k + 1) y0 y1)) ∧ (∀ y0 y1 y2, LeO (colophonlaw10_ScanBegins.j2 k y0 y1 y2) (colophonlaw10_ScanBegins.j2 (k + 1) y0 y1 y2))
 | 0 => ⟨fun _ _ _ _ r h => by simp [colophonlaw10_ScanBegins.j0] at h, fun _ _ r h => by simp [colophonlaw10_ScanBegins.j1] at h, fun _ _ _ r h => by simp [colophonlaw10_ScanBegins.j2] at h⟩
 | k + 1 => by
  obtain ⟨ih0, ih1, ih2⟩ := colophonlaw10_ScanBegins.mono_l k
  refine ⟨?_, ?_, ?_⟩
  ·intro y0 y1 y2 y3
   unfold colophonlaw10_ScanBegins.j0
   repeat' first
   | (with_reducible exact ih0 _ _ _ _)
   | (with_reducible exact ih1 _ _)
   | (with_reducible exact ih2 _ _ _)
   | (with_reducible exact colophonlaw10_awake.mono _)
   | (with_reducible exact colophonlaw10_same.mono _ _ _)
   | (with_reducible exact LeO.refl _)
   | (with_reducible exact LeO.none _)
   | (with_reducible refine LeO.ite ?_ ?_)
   | (with_reducible refine LeO.bind ?_ (fun _ => ?_))
   | exact ih0 _ _ _ _
   | exact ih1 _ _
   | exact ih2 _ _ _
   | exact colophonlaw10_awake.mono _
   | exact colophonlaw10_same.mono _ _ _
   | exact LeO.none _
   | refine LeO.ite ?_ ?_
   | refine LeO.bind ?_ (fun _ => ?_)
  ·intro y0 y1
   unfold colophonlaw10_ScanBegins.j1
   repeat' first
   | (with_reducible exact ih0 _ _ _ _)
   | (with_reducible exact ih1 _ _)
   | (with_reducible exact ih2 _ _ _)
   | (with_reducible exact colophonlaw10_awake.mono _)
   | (with_reducible exact colophonlaw10_same.mono _ _ _)
   | (with_reducible exact LeO.refl _)
   | (with_reducible exact LeO.none _)
   | (with_reducible refine LeO.ite ?_ ?_)
   | (with_reducible refine LeO.bind ?_ (fun _ => ?_))
   | exact ih0 _ _ _ _
   | exact ih1 _ _
   | exact ih2 _ _ _
   | exact colophonlaw10_awake.mono _
   | exact colophonlaw10_same.mono _ _ _
   | exact LeO.none _
   | refine LeO.ite ?_ ?_
   | refine LeO.bind ?_ (fun _ => ?_)
  ·intro y0 y1 y2
   unfold colophonlaw10_ScanBegins.j2
   repeat' first
   | (with_reducible exact ih0 _ _ _ _)
   | (with_reducible exact ih1 _ _)
   | (with_reducible exact ih2 _ _ _)
   | (with_reducible exact colophonlaw10_awake.mono _)
   | (with_reducible exact colophonlaw10_same.mono _ _ _)
   | (with_reducible exact LeO.refl _)
   | (with_reducible exact LeO.none _)
   | (with_reducible refine LeO.ite ?_ ?_)
   | (with_reducible refine LeO.bind ?_ (fun _ => ?_))
   | exact ih0 _ _ _ _
   | exact ih1 _ _
   | exact ih2 _ _ _
   | exact colophonlaw10_awake.mono _
   | exact colophonlaw10_same.mono _ _ _
   | exact LeO.none _
   | refine LeO.ite ?_ ?_
   | refine LeO.bind ?_ (fun _ => ?_)
theorem colophonlaw10_ScanBegins.mono : ∀ a0 a1 k, LeO (colophonlaw10_ScanBegins.f k a0 a1) (colophonlaw10_ScanBegins.f (k + 1) a0 a1) := by
 intro a0 a1 k
 obtain ⟨ih0, ih1, ih2⟩ := colophonlaw10_ScanBegins.mono_l k
 unfold colophonlaw10_ScanBegins.f
 repeat' first
   | (with_reducible exact ih0 _ _ _ _)
   | (with_reducible exact ih1 _ _)
   | (with_reducible exact ih2 _ _ _)
   | (with_reducible exact colophonlaw10_awake.mono _)
   | (with_reducible exact colophonlaw10_same.mono _ _ _)
   | (with_reducible exact LeO.refl _)
   | (with_reducible exact LeO.none _)
   | (with_reducible refine LeO.ite ?_ ?_)
   | (with_reducible refine LeO.bind ?_ (fun _ => ?_))
   | exact ih0 _ _ _ _
   | exact ih1 _ _
   | exact ih2 _ _ _
   | exact colophonlaw10_awake.mono _
   | exact colophonlaw10_same.mono _ _ _
   | exact LeO.none _
   | refine LeO.ite ?_ ?_
   | refine LeO.bind ?_ (fun _ => ?_)
set_option maxHeartbeats 8000000 in
set_option maxRecDepth 100000 in
theorem colophonlaw10_ScanBegins.calls (k : Nat) (a0 : ByteArray) (a1 : Int) (r : Bool) (w : World) (hLW : LW w) (h : colophonlaw10_ScanBegins.f k a0 a1 = some r) :
  Calls Tryd.prog 4 #[.string a0, .int .i64 a1] w fun e w' => e = .returned (.bool r) ∧ Below w.heap.size w w' := by
 have hu26 := Tryd.underlying26
 have HB := Aside0.mk (Below.refl w.heap.size w)
 have HLW := Aside0.mk hLW
 clear hLW
 have H : ((colophonlaw10_awake.f k).bind fun t277 => (if t277 = true then (colophonlaw10_ScanBegins.j0 k a0 a1 t277 (decide ((a0.size : Int) > 67108864))) else (colophonlaw10_ScanBegins.j0 k a0 a1 t277 true))) = some r := h
 clear h
 replace H := Option.bind_eq_some_iff.mp H
 obtain ⟨t277, A30, H⟩ := H
 replace H : (if t277 = true then (colophonlaw10_ScanBegins.j0 k a0 a1 t277 (decide ((a0.size : Int) > 67108864))) else (colophonlaw10_ScanBegins.j0 k a0 a1 t277 true)) = some r := H
 have A3 := Aside0.mk A30
 clear A30
 have HC4 := Aside0.mk H
 clear H
 go_enter Tryd.func4, Tryd.ntmps4
 go_upto_region 2 with (first|(go_at_call 7; (with_reducible refine (colophonlaw10_awake.calls k  t277 _ ?side1 A3.out).mono ?_); (case side1 => exact LW.below HLW.out (by repeat (first|(with_reducible first|exact HB.out|apply below_alloc|apply pw_below_drewN|apply below_drew1)|exact HB.out))); rintro e w5 ⟨rfl, hb⟩; have n0_ := Aside0.mk (below_step (by repeat (first|(with_reducible first|exact HB.out|apply below_alloc|apply pw_below_drewN|apply below_drew1)|exact HB.out)) hb); clear HB; have HB := n0_; clear n0_; (try clear hb); (try clear hb2); (try clear hk); (try clear hi)))
 repeat (go_quiet (fail); go_upto_region 2 with (first|(go_at_call 7; (with_reducible refine (colophonlaw10_awake.calls k  t277 _ ?side1 A3.out).mono ?_); (case side1 => exact LW.below HLW.out (by repeat (first|(with_reducible first|exact HB.out|apply below_alloc|apply pw_below_drewN|apply below_drew1)|exact HB.out))); rintro e w5 ⟨rfl, hb⟩; have n0_ := Aside0.mk (below_step (by repeat (first|(with_reducible first|exact HB.out|apply below_alloc|apply pw_below_drewN|apply below_drew1)|exact HB.out)) hb); clear HB; have HB := n0_; clear n0_; (try clear hb); (try clear hb2); (try clear hk); (try clear hi))))
 (try simp only [Act.put, List.setIfInBounds_toArray, List.set_cons_zero, List.set_cons_succ])
 go_cut [21] (fun v21 wc => ∃ (kq : Nat) (x21_3 : Bool), v21 = .bool x21_3 ∧ Aside0 (colophonlaw10_ScanBegins.j0 kq a0 a1 t277 x21_3 = some r) ∧ Aside0 (kq ≤ k) ∧ Aside0 (Below w.heap.size w wc))
 case first =>
  have H := HC4.out
  clear HC4
  by_cases c6 : t277 = true
  ·subst c6
   have H1 : (colophonlaw10_ScanBegins.j0 k a0 a1 true (decide ((a0.size : Int) > 67108864))) = some r := by rw [if_pos rfl] at H; exact H
   clear H
   have H := H1
   clear H1
   have H' := Aside0.mk H
   clear H
   go_wp2
   repeat (go_quiet (fail); try go_wp2)
   go_meet
   case rel => exact ⟨_, (decide ((a0.size : Int) > 67108864)), (by first|rfl|(simp; done)|(simp [*]; done)), H', ⟨by first|omega|exact Nat.le_refl _⟩, ⟨by repeat (first|(with_reducible first|exact HB.out|apply below_alloc|apply pw_below_drewN|apply below_drew1)|exact HB.out)⟩⟩
  ·replace c6 := Bool.eq_false_iff.mpr c6
   subst c6
   have H1 : (colophonlaw10_ScanBegins.j0 k a0 a1 false true) = some r := by rw [if_neg (show ¬ (false = true) by decide)] at H; exact H
   clear H
   have H := H1
   clear H1
   have H' := Aside0.mk H
   clear H
   go_wp2
   repeat (go_quiet (fail); try go_wp2)
   go_meet
   case rel => exact ⟨_, (true), (by first|rfl|(simp; done)|(simp [*]; done)), H', ⟨by first|omega|exact Nat.le_refl _⟩, ⟨by repeat (first|(with_reducible first|exact HB.out|apply below_alloc|apply pw_below_drewN|apply below_drew1)|exact HB.out)⟩⟩
 case rest =>
  clear HC4
  try clear p2
  try clear c4
  try clear c6
  obtain ⟨kq, x21_3, rfl, HA, HJ3, HB⟩ := hcut
  cases kq with
  | zero => exact absurd HA.out (by simp [colophonlaw10_ScanBegins.j0])
  | succ kj3 =>
   have H := HA.out
   clear HA
   simp only [colophonlaw10_ScanBegins.j0] at H
   by_cases c7 : x21_3 = true
   ·subst c7
    have H1 : (some t277) = some r := by rw [if_pos rfl] at H; exact H
    clear H
    have H := H1
    clear H1
    obtain rfl := Option.some.inj H
    go_wp2
    repeat (go_quiet (fail); try go_wp2)
    go_ret
    exact ⟨by first|rfl|(simp [errW_none, errW_some] <;> rfl)|(simp [*, errW_none, errW_some] <;> rfl), by repeat (first|(with_reducible first|exact HB.out|apply below_alloc|apply pw_below_drewN|apply below_drew1)|exact HB.out)⟩
   ·replace c7 := Bool.eq_false_iff.mpr c7
    subst c7
    have H1 : (if a1 < 0 then (colophonlaw10_ScanBegins.j1 kj3 a0 (wrap64 (-(wrap64 (a1 + 1))))) else (colophonlaw10_ScanBegins.j1 kj3 a0 a1)) = some r := by rw [if_neg (show ¬ (false = true) by decide)] at H; exact H
    clear H
    have H := H1
    clear H1
    have HC8 := Aside0.mk H
    clear H
    go_upto_if 24 with (fail)
    repeat (go_quiet (fail); go_upto_if 24 with (fail))
    go_cut [1] (fun v1 wc => ∃ (kq : Nat) (x1_7 : Int), v1 = .int .i64 x1_7 ∧ Aside0 (colophonlaw10_ScanBegins.j1 kq a0 x1_7 = some r) ∧ Aside0 (kq ≤ kj3) ∧ Aside0 (Below w.heap.size w wc))
    case first =>
     have H := HC8.out
     clear HC8
     by_cases c9 : a1 < 0
     ·rw [if_pos c9] at H
      have c9b0 : decide (a1 < 0) = true := decide_eq_true c9
      clear c9
      (first|rw [c9b0]|(simp only [i64_w, i32_w]; rw [c9b0])|skip)
      have H' := Aside0.mk H
      clear H
      go_wp2
      repeat (go_quiet (fail); try go_wp2)
      go_meet
      case rel => exact ⟨_, (wrap64 (-(wrap64 (a1 + 1)))), (by first|rfl|(simp; done)|(simp [*]; done)), H', ⟨by have := HJ3.out; first|omega|exact Nat.le_refl _⟩, ⟨by repeat (first|(with_reducible first|exact HB.out|apply below_alloc|apply pw_below_drewN|apply below_drew1)|exact HB.out)⟩⟩
     ·rw [if_neg c9] at H
      have c9b0 : decide (a1 < 0) = false := decide_eq_false c9
      clear c9
      (first|rw [c9b0]|(simp only [i64_w, i32_w]; rw [c9b0])|skip)
      have H' := Aside0.mk H
      clear H
      go_wp2
      repeat (go_quiet (fail); try go_wp2)
      go_meet
      case rel => exact ⟨_, (a1), (by first|rfl|(simp; done)|(simp [*]; done)), H', ⟨by have := HJ3.out; first|omega|exact Nat.le_refl _⟩, ⟨by repeat (first|(with_reducible first|exact HB.out|apply below_alloc|apply pw_below_drewN|apply below_drew1)|exact HB.out)⟩⟩
    case rest =>
     clear HC8
     try clear p2
     try clear c4
     try clear c6
     try clear p6
     try clear c7
     try clear c9
     try clear c9b0
     try clear p2
     obtain ⟨kq, x1_7, rfl, HA, HJ7, HB⟩ := hcut
     cases kq with
     | zero => exact absurd HA.out (by simp [colophonlaw10_ScanBegins.j1])
     | succ kj7 =>
      have H := HA.out
      clear HA
      simp only [colophonlaw10_ScanBegins.j1] at H
      by_cases c10 : (wrap64 ((a0.size : Int) + 1)) = 0
      ·rw [if_pos c10] at H
       exact absurd H (by simp)
      ·rw [if_neg c10] at H
       have c10b0 : ((wrap64 ((a0.size : Int) + 1)) == 0) = false := beq_eq_false_iff_ne.mpr c10
       have c10b1 : ((wrap64 ((a0.size : Int) + 1)) != 0) = true := bne_iff_ne.mpr c10
       obtain ⟨ji11, hji11⟩ : ∃ j_ : Int, (Int.tmod x1_7 (wrap64 ((a0.size : Int) + 1))) = j_ := ⟨_, rfl⟩
       replace H : (if 0 ≤ (ji11) then (if (ji11) ≤ (a0.size : Int) then ((scan_All.f (a0.extract 0 ((ji11) : Int).toNat)).bind fun bt278 => ((scan_All.f a0).bind fun bt286 => (if bt278.2.1 = 0 then (if bt286.2.1 = 0 then (colophonlaw10_ScanBegins.j2 kj7 bt278.1 bt286.1 ((bt278.1.length : Int) == 0)) else (colophonlaw10_ScanBegins.j2 kj7 bt278.1 bt286.1 true)) else (colophonlaw10_ScanBegins.j2 kj7 bt278.1 bt286.1 true)))) else (none)) else (none)) = some r := by first|(rw [hji11] at H; exact H)|(simp only [hji11] at H ⊢; exact H)
       by_cases c12 : 0 ≤ (ji11)
       ·rw [if_pos c12] at H
        have c12b0 := eq_true c12
        have c12b1 : decide (0 ≤ (ji11)) = true := decide_eq_true c12
        clear c12
        by_cases c13 : (ji11) ≤ (a0.size : Int)
        ·rw [if_pos c13] at H
         have c13b0 := eq_true c13
         have c13b1 : decide ((ji11) ≤ (a0.size : Int)) = true := decide_eq_true c13
         clear c13
         replace H := Option.bind_eq_some_iff.mp H
         obtain ⟨⟨t278, t281, t282, t283, t284⟩, A140, H⟩ := H
         replace H : ((scan_All.f a0).bind fun bt286 => (if t281 = 0 then (if bt286.2.1 = 0 then (colophonlaw10_ScanBegins.j2 kj7 t278 bt286.1 ((t278.length : Int) == 0)) else (colophonlaw10_ScanBegins.j2 kj7 t278 bt286.1 true)) else (colophonlaw10_ScanBegins.j2 kj7 t278 bt286.1 true))) = some r := H
         have A14 := Aside0.mk A140
         clear A140
         replace H := Option.bind_eq_some_iff.mp H
         obtain ⟨⟨t286, t289, t290, t291, t292⟩, A150, H⟩ := H
         replace H : (if t281 = 0 then (if t289 = 0 then (colophonlaw10_ScanBegins.j2 kj7 t278 t286 ((t278.length : Int) == 0)) else (colophonlaw10_ScanBegins.j2 kj7 t278 t286 true)) else (colophonlaw10_ScanBegins.j2 kj7 t278 t286 true)) = some r := H
         have A15 := Aside0.mk A150
         clear A150
         have HC16 := Aside0.mk H
         clear H
         go_upto_region 9 with (first|(go_at_call 8;(with_reducible refine (scan_All.calls (a0.extract 0 ((ji11) : Int).toNat) t278 t281 t282 t283 t284 _ ?side1 A14.out).mono ?_);(case side1 => exact LW.below HLW.out (by repeat (first|(with_reducible first|exact HB.out|apply below_alloc|apply pw_below_drewN|apply below_drew1)|exact HB.out)));rintro e w17 ⟨v279,rfl,ho0,hb⟩;have n0_:=Aside0.mk (Kd.R_lower ho0 (below_size (by repeat (first|(with_reducible first|exact HB.out|apply below_alloc|apply pw_below_drewN|apply below_drew1)|exact HB.out))));have n1_:=Aside0.mk (below_step (by repeat (first|(with_reducible first|exact HB.out|apply below_alloc|apply pw_below_drewN|apply below_drew1)|exact HB.out)) hb);clear HB;have HO280:=n0_;have HB:=n1_;clear n0_ n1_;(try clear hb);(try clear hb2);(try clear hk);(try clear hi);(try clear ho0))|((with_reducible refine gate_dst (N:=9) rfl ?_);(try (refine gate_guard (by rfl) ?_;dsimp only));refine box_event ?hg (N:=9) ?hd (cs:=#[.int .i64 0,.int .i64 0,.int .i64 0]) (t:=26) ?hr ?_;(case hd => rfl);(case hg => rfl);(case hr => first|(go_simp;done)|(go_simp;rfl));intro gb285 hg w18 hbox hb;have n0_:=Aside0.mk (Kd.R_below (by (with_reducible repeat (first|apply Kd.R_alloc|apply Kd.R_drewN|apply Kd.R_drew));exact HO280.out) hb);have n1_:=Aside0.mk (below_step (by repeat (first|(with_reducible first|exact HB.out|apply below_alloc|apply pw_below_drewN|apply below_drew1)|exact HB.out)) hb);have n2_:=Aside0.mk (hbox);have n3_:=Aside0.mk ((by rw [hg];exact (below_size (by repeat (first|(with_reducible first|exact HB.out|apply below_alloc|apply pw_below_drewN|apply below_drew1)|exact HB.out))) : w.heap.size ≤ gb285));have n4_:=Aside0.mk ((by rw [hg];exact (below_size (by repeat (first|(with_reducible first|exact HB.out|apply below_alloc|apply pw_below_drewN|apply below_drew1)|exact HB.out))) : w.heap.size ≤ gb285));clear HO280;clear HB;have HO280:=n0_;have HB:=n1_;have BK285:=n2_;have GW285:=n3_;have GE285:=n4_;clear n0_ n1_ n2_ n3_ n4_;clear hb hbox hg;have hcz19_0 : w18.cell? ⟨gb285,0,none⟩ = some (.int .i64 0):=(blk_cell BK285.out 0).trans rfl;have hcz19_1 : w18.cell? ⟨gb285,1,none⟩ = some (.int .i64 0):=(blk_cell BK285.out 1).trans rfl;have hcz19_2 : w18.cell? ⟨gb285,2,none⟩ = some (.int .i64 0):=(blk_cell BK285.out 2).trans rfl;have hfz19_0:=blk_frozen BK285.out 0;have hfz19_1:=blk_frozen BK285.out 1;have hfz19_2:=blk_frozen BK285.out 2)|(go_at_call 8;(with_reducible refine (scan_All.calls a0 t286 t289 t290 t291 t292 _ ?side1 A15.out).mono ?_);(case side1 => exact LW.below HLW.out (by repeat (first|(with_reducible first|exact HB.out|apply below_alloc|apply pw_below_drewN|apply below_drew1|refine below_set ?_ GE285.out)|exact HB.out)));rintro e w20 ⟨v287,rfl,ho0,hb⟩;have n0_:=Aside0.mk (Kd.R_elder' (by (with_reducible repeat (first|apply Kd.R_alloc|apply Kd.R_drewN|apply Kd.R_drew));exact (Kd.R_mono (Kd.R_far (p:=⟨gb285,2,none⟩) (Kd.R_far (p:=⟨gb285,1,none⟩) (Kd.R_far (p:=⟨gb285,0,none⟩) (Kd.R_types HO280.out BK285.out (by decide)) (fun _ hk => hk.2) (.int .i64 t282)) (fun _ hk => hk.2) (.int .i64 t283)) (fun _ hk => hk.2) (.int .i64 t284)) (fun _ h_ => h_.1))) (Kd.R_base ho0) hb);have n1_:=Aside0.mk (Kd.R_lower (Kd.R_new' ho0 (Kd.R_lt (by (with_reducible repeat (first|apply Kd.R_alloc|apply Kd.R_drewN|apply Kd.R_drew));exact (Kd.R_mono (Kd.R_far (p:=⟨gb285,2,none⟩) (Kd.R_far (p:=⟨gb285,1,none⟩) (Kd.R_far (p:=⟨gb285,0,none⟩) (Kd.R_types HO280.out BK285.out (by decide)) (fun _ hk => hk.2) (.int .i64 t282)) (fun _ hk => hk.2) (.int .i64 t283)) (fun _ hk => hk.2) (.int .i64 t284)) (fun _ h_ => h_.1))))) (below_size (by repeat (first|(with_reducible first|exact HB.out|apply below_alloc|apply pw_below_drewN|apply below_drew1|refine below_set ?_ GE285.out)|exact HB.out))));have n2_:=Aside0.mk (blk_below (g:=gb285) (o:=.cells #[.int .i64 t282,.int .i64 t283,.int .i64 t284] 26 (0,0)) (by (with_reducible repeat (first|refine blk_drewN ?_ _|refine blk_drew ?_|refine blk_alloc ?_ _));refine blk_put (cs:=#[.int .i64 t282,.int .i64 t283,.int .i64 0]) ?_ 2 _ rfl;(with_reducible repeat (first|refine blk_drewN ?_ _|refine blk_drew ?_|refine blk_alloc ?_ _));refine blk_put (cs:=#[.int .i64 t282,.int .i64 0,.int .i64 0]) ?_ 1 _ rfl;(with_reducible repeat (first|refine blk_drewN ?_ _|refine blk_drew ?_|refine blk_alloc ?_ _));refine blk_put (cs:=#[.int .i64 0,.int .i64 0,.int .i64 0]) ?_ 0 _ rfl;(with_reducible repeat (first|refine blk_drewN ?_ _|refine blk_drew ?_|refine blk_alloc ?_ _));exact BK285.out) hb);have n3_:=Aside0.mk (below_step (by repeat (first|(with_reducible first|exact HB.out|apply below_alloc|apply pw_below_drewN|apply below_drew1|refine below_set ?_ GE285.out)|exact HB.out)) hb);clear HO280;clear BK285;clear HB;have HO280:=n0_;have HO288:=n1_;have BK285:=n2_;have HB:=n3_;clear n0_ n1_ n2_ n3_;(try clear hb);(try clear hb2);(try clear hk);(try clear hi);(try clear ho0))|((with_reducible refine gate_dst (N:=12) rfl ?_);(try (refine gate_guard (by rfl) ?_;dsimp only));refine box_event ?hg (N:=12) ?hd (cs:=#[.int .i64 0,.int .i64 0,.int .i64 0]) (t:=26) ?hr ?_;(case hd => rfl);(case hg => rfl);(case hr => first|(go_simp;done)|(go_simp;rfl));intro gb293 hg w21 hbox hb;have n0_:=Aside0.mk (Kd.R_below (by (with_reducible repeat (first|apply Kd.R_alloc|apply Kd.R_drewN|apply Kd.R_drew));exact HO280.out) hb);have n1_:=Aside0.mk (Kd.R_below (by (with_reducible repeat (first|apply Kd.R_alloc|apply Kd.R_drewN|apply Kd.R_drew));exact HO288.out) hb);have n2_:=Aside0.mk (blk_below (g:=gb285) (o:=.cells #[.int .i64 t282,.int .i64 t283,.int .i64 t284] 26 (0,0)) (by (with_reducible repeat (first|refine blk_drewN ?_ _|refine blk_drew ?_|refine blk_alloc ?_ _));exact BK285.out) hb);have n3_:=Aside0.mk (below_step (by repeat (first|(with_reducible first|exact HB.out|apply below_alloc|apply pw_below_drewN|apply below_drew1|refine below_set ?_ GE285.out)|exact HB.out)) hb);have n4_:=Aside0.mk (hbox);have n5_:=Aside0.mk ((by rw [hg];exact (below_size (by repeat (first|(with_reducible first|exact HB.out|apply below_alloc|apply pw_below_drewN|apply below_drew1|refine below_set ?_ GE285.out)|exact HB.out))) : w.heap.size ≤ gb293));have n6_:=Aside0.mk ((by rw [hg];exact (below_size (by repeat (first|(with_reducible first|exact HB.out|apply below_alloc|apply pw_below_drewN|apply below_drew1|refine below_set ?_ GE285.out)|exact HB.out))) : w.heap.size ≤ gb293));have n7_:=Aside0.mk ((by rw [hg];exact Nat.ne_of_lt (blk_lt (g:=gb285) (o:=.cells #[.int .i64 t282,.int .i64 t283,.int .i64 t284] 26 (0,0)) (by (with_reducible repeat (first|refine blk_drewN ?_ _|refine blk_drew ?_|refine blk_alloc ?_ _));exact BK285.out)) : gb285 ≠ gb293));have n8_:=Aside0.mk ((by rw [hg];exact Nat.ne_of_gt (blk_lt (g:=gb285) (o:=.cells #[.int .i64 t282,.int .i64 t283,.int .i64 t284] 26 (0,0)) (by (with_reducible repeat (first|refine blk_drewN ?_ _|refine blk_drew ?_|refine blk_alloc ?_ _));exact BK285.out)) : gb293 ≠ gb285));clear HO280;clear HO288;clear BK285;clear HB;have HO280:=n0_;have HO288:=n1_;have BK285:=n2_;have HB:=n3_;have BK293:=n4_;have GW293:=n5_;have GE293:=n6_;have NB285_293:=n7_;have NB293_285:=n8_;clear n0_ n1_ n2_ n3_ n4_ n5_ n6_ n7_ n8_;clear hb hbox hg;have hnb22:=NB293_285.out;have hnc22:=NB285_293.out;have hcz23_0 : w21.cell? ⟨gb293,0,none⟩ = some (.int .i64 0):=(blk_cell BK293.out 0).trans rfl;have hcz23_1 : w21.cell? ⟨gb293,1,none⟩ = some (.int .i64 0):=(blk_cell BK293.out 1).trans rfl;have hcz23_2 : w21.cell? ⟨gb293,2,none⟩ = some (.int .i64 0):=(blk_cell BK293.out 2).trans rfl;have hfz23_0:=blk_frozen BK293.out 0;have hfz23_1:=blk_frozen BK293.out 1;have hfz23_2:=blk_frozen BK293.out 2))
         repeat (go_quiet (fail);go_upto_region 9 with (first|(go_at_call 8;(with_reducible refine (scan_All.calls (a0.extract 0 ((ji11) : Int).toNat) t278 t281 t282 t283 t284 _ ?side1 A14.out).mono ?_);(case side1 => exact LW.below HLW.out (by repeat (first|(with_reducible first|exact HB.out|apply below_alloc|apply pw_below_drewN|apply below_drew1)|exact HB.out)));rintro e w17 ⟨v279,rfl,ho0,hb⟩;have n0_:=Aside0.mk (Kd.R_lower ho0 (below_size (by repeat (first|(with_reducible first|exact HB.out|apply below_alloc|apply pw_below_drewN|apply below_drew1)|exact HB.out))));have n1_:=Aside0.mk (below_step (by repeat (first|(with_reducible first|exact HB.out|apply below_alloc|apply pw_below_drewN|apply below_drew1)|exact HB.out)) hb);clear HB;have HO280:=n0_;have HB:=n1_;clear n0_ n1_;(try clear hb);(try clear hb2);(try clear hk);(try clear hi);(try clear ho0))|((with_reducible refine gate_dst (N:=9) rfl ?_);(try (refine gate_guard (by rfl) ?_;dsimp only));refine box_event ?hg (N:=9) ?hd (cs:=#[.int .i64 0,.int .i64 0,.int .i64 0]) (t:=26) ?hr ?_;(case hd => rfl);(case hg => rfl);(case hr => first|(go_simp;done)|(go_simp;rfl));intro gb285 hg w18 hbox hb;have n0_:=Aside0.mk (Kd.R_below (by (with_reducible repeat (first|apply Kd.R_alloc|apply Kd.R_drewN|apply Kd.R_drew));exact HO280.out) hb);have n1_:=Aside0.mk (below_step (by repeat (first|(with_reducible first|exact HB.out|apply below_alloc|apply pw_below_drewN|apply below_drew1)|exact HB.out)) hb);have n2_:=Aside0.mk (hbox);have n3_:=Aside0.mk ((by rw [hg];exact (below_size (by repeat (first|(with_reducible first|exact HB.out|apply below_alloc|apply pw_below_drewN|apply below_drew1)|exact HB.out))) : w.heap.size ≤ gb285));have n4_:=Aside0.mk ((by rw [hg];exact (below_size (by repeat (first|(with_reducible first|exact HB.out|apply below_alloc|apply pw_below_drewN|apply below_drew1)|exact HB.out))) : w.heap.size ≤ gb285));clear HO280;clear HB;have HO280:=n0_;have HB:=n1_;have BK285:=n2_;have GW285:=n3_;have GE285:=n4_;clear n0_ n1_ n2_ n3_ n4_;clear hb hbox hg;have hcz19_0 : w18.cell? ⟨gb285,0,none⟩ = some (.int .i64 0):=(blk_cell BK285.out 0).trans rfl;have hcz19_1 : w18.cell? ⟨gb285,1,none⟩ = some (.int .i64 0):=(blk_cell BK285.out 1).trans rfl;have hcz19_2 : w18.cell? ⟨gb285,2,none⟩ = some (.int .i64 0):=(blk_cell BK285.out 2).trans rfl;have hfz19_0:=blk_frozen BK285.out 0;have hfz19_1:=blk_frozen BK285.out 1;have hfz19_2:=blk_frozen BK285.out 2)|(go_at_call 8;(with_reducible refine (scan_All.calls a0 t286 t289 t290 t291 t292 _ ?side1 A15.out).mono ?_);(case side1 => exact LW.below HLW.out (by repeat (first|(with_reducible first|exact HB.out|apply below_alloc|apply pw_below_drewN|apply below_drew1|refine below_set ?_ GE285.out)|exact HB.out)));rintro e w20 ⟨v287,rfl,ho0,hb⟩;have n0_:=Aside0.mk (Kd.R_elder' (by (with_reducible repeat (first|apply Kd.R_alloc|apply Kd.R_drewN|apply Kd.R_drew));exact (Kd.R_mono (Kd.R_far (p:=⟨gb285,2,none⟩) (Kd.R_far (p:=⟨gb285,1,none⟩) (Kd.R_far (p:=⟨gb285,0,none⟩) (Kd.R_types HO280.out BK285.out (by decide)) (fun _ hk => hk.2) (.int .i64 t282)) (fun _ hk => hk.2) (.int .i64 t283)) (fun _ hk => hk.2) (.int .i64 t284)) (fun _ h_ => h_.1))) (Kd.R_base ho0) hb);have n1_:=Aside0.mk (Kd.R_lower (Kd.R_new' ho0 (Kd.R_lt (by (with_reducible repeat (first|apply Kd.R_alloc|apply Kd.R_drewN|apply Kd.R_drew));exact (Kd.R_mono (Kd.R_far (p:=⟨gb285,2,none⟩) (Kd.R_far (p:=⟨gb285,1,none⟩) (Kd.R_far (p:=⟨gb285,0,none⟩) (Kd.R_types HO280.out BK285.out (by decide)) (fun _ hk => hk.2) (.int .i64 t282)) (fun _ hk => hk.2) (.int .i64 t283)) (fun _ hk => hk.2) (.int .i64 t284)) (fun _ h_ => h_.1))))) (below_size (by repeat (first|(with_reducible first|exact HB.out|apply below_alloc|apply pw_below_drewN|apply below_drew1|refine below_set ?_ GE285.out)|exact HB.out))));have n2_:=Aside0.mk (blk_below (g:=gb285) (o:=.cells #[.int .i64 t282,.int .i64 t283,.int .i64 t284] 26 (0,0)) (by (with_reducible repeat (first|refine blk_drewN ?_ _|refine blk_drew ?_|refine blk_alloc ?_ _));refine blk_put (cs:=#[.int .i64 t282,.int .i64 t283,.int .i64 0]) ?_ 2 _ rfl;(with_reducible repeat (first|refine blk_drewN ?_ _|refine blk_drew ?_|refine blk_alloc ?_ _));refine blk_put (cs:=#[.int .i64 t282,.int .i64 0,.int .i64 0]) ?_ 1 _ rfl;(with_reducible repeat (first|refine blk_drewN ?_ _|refine blk_drew ?_|refine blk_alloc ?_ _));refine blk_put (cs:=#[.int .i64 0,.int .i64 0,.int .i64 0]) ?_ 0 _ rfl;(with_reducible repeat (first|refine blk_drewN ?_ _|refine blk_drew ?_|refine blk_alloc ?_ _));exact BK285.out) hb);have n3_:=Aside0.mk (below_step (by repeat (first|(with_reducible first|exact HB.out|apply below_alloc|apply pw_below_drewN|apply below_drew1|refine below_set ?_ GE285.out)|exact HB.out)) hb);clear HO280;clear BK285;clear HB;have HO280:=n0_;have HO288:=n1_;have BK285:=n2_;have HB:=n3_;clear n0_ n1_ n2_ n3_;(try clear hb);(try clear hb2);(try clear hk);(try clear hi);(try clear ho0))|((with_reducible refine gate_dst (N:=12) rfl ?_);(try (refine gate_guard (by rfl) ?_;dsimp only));refine box_event ?hg (N:=12) ?hd (cs:=#[.int .i64 0,.int .i64 0,.int .i64 0]) (t:=26) ?hr ?_;(case hd => rfl);(case hg => rfl);(case hr => first|(go_simp;done)|(go_simp;rfl));intro gb293 hg w21 hbox hb;have n0_:=Aside0.mk (Kd.R_below (by (with_reducible repeat (first|apply Kd.R_alloc|apply Kd.R_drewN|apply Kd.R_drew));exact HO280.out) hb);have n1_:=Aside0.mk (Kd.R_below (by (with_reducible repeat (first|apply Kd.R_alloc|apply Kd.R_drewN|apply Kd.R_drew));exact HO288.out) hb);have n2_:=Aside0.mk (blk_below (g:=gb285) (o:=.cells #[.int .i64 t282,.int .i64 t283,.int .i64 t284] 26 (0,0)) (by (with_reducible repeat (first|refine blk_drewN ?_ _|refine blk_drew ?_|refine blk_alloc ?_ _));exact BK285.out) hb);have n3_:=Aside0.mk (below_step (by repeat (first|(with_reducible first|exact HB.out|apply below_alloc|apply pw_below_drewN|apply below_drew1|refine below_set ?_ GE285.out)|exact HB.out)) hb);have n4_:=Aside0.mk (hbox);have n5_:=Aside0.mk ((by rw [hg];exact (below_size (by repeat (first|(with_reducible first|exact HB.out|apply below_alloc|apply pw_below_drewN|apply below_drew1|refine below_set ?_ GE285.out)|exact HB.out))) : w.heap.size ≤ gb293));have n6_:=Aside0.mk ((by rw [hg];exact (below_size (by repeat (first|(with_reducible first|exact HB.out|apply below_alloc|apply pw_below_drewN|apply below_drew1|refine below_set ?_ GE285.out)|exact HB.out))) : w.heap.size ≤ gb293));have n7_:=Aside0.mk ((by rw [hg];exact Nat.ne_of_lt (blk_lt (g:=gb285) (o:=.cells #[.int .i64 t282,.int .i64 t283,.int .i64 t284] 26 (0,0)) (by (with_reducible repeat (first|refine blk_drewN ?_ _|refine blk_drew ?_|refine blk_alloc ?_ _));exact BK285.out)) : gb285 ≠ gb293));have n8_:=Aside0.mk ((by rw [hg];exact Nat.ne_of_gt (blk_lt (g:=gb285) (o:=.cells #[.int .i64 t282,.int .i64 t283,.int .i64 t284] 26 (0,0)) (by (with_reducible repeat (first|refine blk_drewN ?_ _|refine blk_drew ?_|refine blk_alloc ?_ _));exact BK285.out)) : gb293 ≠ gb285));clear HO280;clear HO288;clear BK285;clear HB;have HO280:=n0_;have HO288:=n1_;have BK285:=n2_;have HB:=n3_;have BK293:=n4_;have GW293:=n5_;have GE293:=n6_;have NB285_293:=n7_;have NB293_285:=n8_;clear n0_ n1_ n2_ n3_ n4_ n5_ n6_ n7_ n8_;clear hb hbox hg;have hnb22:=NB293_285.out;have hnc22:=NB285_293.out;have hcz23_0 : w21.cell? ⟨gb293,0,none⟩ = some (.int .i64 0):=(blk_cell BK293.out 0).trans rfl;have hcz23_1 : w21.cell? ⟨gb293,1,none⟩ = some (.int .i64 0):=(blk_cell BK293.out 1).trans rfl;have hcz23_2 : w21.cell? ⟨gb293,2,none⟩ = some (.int .i64 0):=(blk_cell BK293.out 2).trans rfl;have hfz23_0:=blk_frozen BK293.out 0;have hfz23_1:=blk_frozen BK293.out 1;have hfz23_2:=blk_frozen BK293.out 2)))
         (try simp only [Act.put, List.setIfInBounds_toArray, List.set_cons_zero, List.set_cons_succ])
         go_cut [57] (fun v57 wc => ∃ (kq : Nat) (x57_15 : Bool), v57 = .bool x57_15 ∧ Aside0 (colophonlaw10_ScanBegins.j2 kq t278 t286 x57_15 = some r) ∧ Aside0 (kq ≤ kj7) ∧ Aside0 (Kd.R k35 35 wc w.heap.size (fun k_ => some k_ ≠ (v287 : Value).ownBlock) v279 t278) ∧ Aside0 (Kd.R k35 35 wc w.heap.size (fun k_ => some k_ ≠ (v279 : Value).ownBlock) v287 t286) ∧ Aside0 (wc.heap[gb285]? = some (.cells #[.int .i64 t282, .int .i64 t283, .int .i64 t284] 26 (0, 0))) ∧ Aside0 (wc.heap[gb293]? = some (.cells #[.int .i64 t290, .int .i64 t291, .int .i64 t292] 26 (0, 0))) ∧ Aside0 (Below w.heap.size w wc))
         case first =>
          have H := HC16.out
          clear HC16
          by_cases c24 : t281 = 0
          ·rw [if_pos c24] at H
           have c24b0 : (t281 == 0) = true := beq_iff_eq.mpr c24
           have c24b1 : (t281 != 0) = false := bne_eq_false_iff_eq.mpr c24
           clear c24
           (first|rw [c24b0]|(simp only [i64_w, i32_w]; rw [c24b0])|skip)
           by_cases c25 : t289 = 0
           ·rw [if_pos c25] at H
            have c25b0 : (t289 == 0) = true := beq_iff_eq.mpr c25
            have c25b1 : (t289 != 0) = false := bne_eq_false_iff_eq.mpr c25
            clear c25
            have H' := Aside0.mk H
            clear H
            obtain ⟨Ao26, co26, eo26⟩ := Kd.R_slice HO280.out
            subst eo26
            go_wp2
            repeat (go_quiet (fail); try go_wp2)
            go_meet
            case rel => exact ⟨_,(((t278.length : Int) == 0)),(by first|rfl|(simp;done)|(simp [*];done)),H',⟨by have:=HJ3.out;have:=HJ7.out;first|omega|exact Nat.le_refl _⟩,⟨by (with_reducible repeat (first|apply Kd.R_alloc|apply Kd.R_drewN|apply Kd.R_drew));exact Kd.R_mono (Kd.R_far (p:=⟨gb293,2,none⟩) (Kd.R_far (p:=⟨gb293,1,none⟩) (Kd.R_far (p:=⟨gb293,0,none⟩) (Kd.R_types HO280.out BK293.out (by decide)) (fun _ hk => hk.2) (.int .i64 t290)) (fun _ hk => hk.2) (.int .i64 t291)) (fun _ hk => hk.2) (.int .i64 t292)) (fun _ hk => hk.1.2)⟩,⟨by (with_reducible repeat (first|apply Kd.R_alloc|apply Kd.R_drewN|apply Kd.R_drew));exact Kd.R_mono (Kd.R_far (p:=⟨gb293,2,none⟩) (Kd.R_far (p:=⟨gb293,1,none⟩) (Kd.R_far (p:=⟨gb293,0,none⟩) (Kd.R_types HO288.out BK293.out (by decide)) (fun _ hk => hk.2) (.int .i64 t290)) (fun _ hk => hk.2) (.int .i64 t291)) (fun _ hk => hk.2) (.int .i64 t292)) (fun _ hk => hk.1.2)⟩,⟨by (with_reducible repeat (first|refine blk_drewN ?_ _|refine blk_drew ?_|refine blk_alloc ?_ _));refine blk_far ?_ NB285_293.out _;(with_reducible repeat (first|refine blk_drewN ?_ _|refine blk_drew ?_|refine blk_alloc ?_ _));refine blk_far ?_ NB285_293.out _;(with_reducible repeat (first|refine blk_drewN ?_ _|refine blk_drew ?_|refine blk_alloc ?_ _));refine blk_far ?_ NB285_293.out _;(with_reducible repeat (first|refine blk_drewN ?_ _|refine blk_drew ?_|refine blk_alloc ?_ _));exact BK285.out⟩,⟨by (with_reducible repeat (first|refine blk_drewN ?_ _|refine blk_drew ?_|refine blk_alloc ?_ _));refine blk_put (cs:=#[.int .i64 t290,.int .i64 t291,.int .i64 0]) ?_ 2 _ rfl;(with_reducible repeat (first|refine blk_drewN ?_ _|refine blk_drew ?_|refine blk_alloc ?_ _));refine blk_put (cs:=#[.int .i64 t290,.int .i64 0,.int .i64 0]) ?_ 1 _ rfl;(with_reducible repeat (first|refine blk_drewN ?_ _|refine blk_drew ?_|refine blk_alloc ?_ _));refine blk_put (cs:=#[.int .i64 0,.int .i64 0,.int .i64 0]) ?_ 0 _ rfl;(with_reducible repeat (first|refine blk_drewN ?_ _|refine blk_drew ?_|refine blk_alloc ?_ _));exact BK293.out⟩,⟨by repeat (first|(with_reducible first|exact HB.out|apply below_alloc|apply pw_below_drewN|apply below_drew1|refine below_set ?_ GE285.out|refine below_set ?_ GE293.out)|exact HB.out)⟩⟩
           ·rw [if_neg c25] at H
            have c25b0 : (t289 == 0) = false := beq_eq_false_iff_ne.mpr c25
            have c25b1 : (t289 != 0) = true := bne_iff_ne.mpr c25
            have H' := Aside0.mk H
            clear H
            go_wp2
            repeat (go_quiet (fail); try go_wp2)
            go_meet
            case rel => exact ⟨_,(true),(by first|rfl|(simp;done)|(simp [*];done)),H',⟨by have:=HJ3.out;have:=HJ7.out;first|omega|exact Nat.le_refl _⟩,⟨by (with_reducible repeat (first|apply Kd.R_alloc|apply Kd.R_drewN|apply Kd.R_drew));exact Kd.R_mono (Kd.R_far (p:=⟨gb293,2,none⟩) (Kd.R_far (p:=⟨gb293,1,none⟩) (Kd.R_far (p:=⟨gb293,0,none⟩) (Kd.R_types HO280.out BK293.out (by decide)) (fun _ hk => hk.2) (.int .i64 t290)) (fun _ hk => hk.2) (.int .i64 t291)) (fun _ hk => hk.2) (.int .i64 t292)) (fun _ hk => hk.1.2)⟩,⟨by (with_reducible repeat (first|apply Kd.R_alloc|apply Kd.R_drewN|apply Kd.R_drew));exact Kd.R_mono (Kd.R_far (p:=⟨gb293,2,none⟩) (Kd.R_far (p:=⟨gb293,1,none⟩) (Kd.R_far (p:=⟨gb293,0,none⟩) (Kd.R_types HO288.out BK293.out (by decide)) (fun _ hk => hk.2) (.int .i64 t290)) (fun _ hk => hk.2) (.int .i64 t291)) (fun _ hk => hk.2) (.int .i64 t292)) (fun _ hk => hk.1.2)⟩,⟨by (with_reducible repeat (first|refine blk_drewN ?_ _|refine blk_drew ?_|refine blk_alloc ?_ _));refine blk_far ?_ NB285_293.out _;(with_reducible repeat (first|refine blk_drewN ?_ _|refine blk_drew ?_|refine blk_alloc ?_ _));refine blk_far ?_ NB285_293.out _;(with_reducible repeat (first|refine blk_drewN ?_ _|refine blk_drew ?_|refine blk_alloc ?_ _));refine blk_far ?_ NB285_293.out _;(with_reducible repeat (first|refine blk_drewN ?_ _|refine blk_drew ?_|refine blk_alloc ?_ _));exact BK285.out⟩,⟨by (with_reducible repeat (first|refine blk_drewN ?_ _|refine blk_drew ?_|refine blk_alloc ?_ _));refine blk_put (cs:=#[.int .i64 t290,.int .i64 t291,.int .i64 0]) ?_ 2 _ rfl;(with_reducible repeat (first|refine blk_drewN ?_ _|refine blk_drew ?_|refine blk_alloc ?_ _));refine blk_put (cs:=#[.int .i64 t290,.int .i64 0,.int .i64 0]) ?_ 1 _ rfl;(with_reducible repeat (first|refine blk_drewN ?_ _|refine blk_drew ?_|refine blk_alloc ?_ _));refine blk_put (cs:=#[.int .i64 0,.int .i64 0,.int .i64 0]) ?_ 0 _ rfl;(with_reducible repeat (first|refine blk_drewN ?_ _|refine blk_drew ?_|refine blk_alloc ?_ _));exact BK293.out⟩,⟨by repeat (first|(with_reducible first|exact HB.out|apply below_alloc|apply pw_below_drewN|apply below_drew1|refine below_set ?_ GE285.out|refine below_set ?_ GE293.out)|exact HB.out)⟩⟩
          ·rw [if_neg c24] at H
           have c24b0 : (t281 == 0) = false := beq_eq_false_iff_ne.mpr c24
           have c24b1 : (t281 != 0) = true := bne_iff_ne.mpr c24
           (first|rw [c24b0]|(simp only [i64_w, i32_w]; rw [c24b0])|skip)
           have H' := Aside0.mk H
           clear H
           go_wp2
           repeat (go_quiet (fail); try go_wp2)
           go_meet
           case rel => exact ⟨_,(true),(by first|rfl|(simp;done)|(simp [*];done)),H',⟨by have:=HJ3.out;have:=HJ7.out;first|omega|exact Nat.le_refl _⟩,⟨by (with_reducible repeat (first|apply Kd.R_alloc|apply Kd.R_drewN|apply Kd.R_drew));exact Kd.R_mono (Kd.R_far (p:=⟨gb293,2,none⟩) (Kd.R_far (p:=⟨gb293,1,none⟩) (Kd.R_far (p:=⟨gb293,0,none⟩) (Kd.R_types HO280.out BK293.out (by decide)) (fun _ hk => hk.2) (.int .i64 t290)) (fun _ hk => hk.2) (.int .i64 t291)) (fun _ hk => hk.2) (.int .i64 t292)) (fun _ hk => hk.1.2)⟩,⟨by (with_reducible repeat (first|apply Kd.R_alloc|apply Kd.R_drewN|apply Kd.R_drew));exact Kd.R_mono (Kd.R_far (p:=⟨gb293,2,none⟩) (Kd.R_far (p:=⟨gb293,1,none⟩) (Kd.R_far (p:=⟨gb293,0,none⟩) (Kd.R_types HO288.out BK293.out (by decide)) (fun _ hk => hk.2) (.int .i64 t290)) (fun _ hk => hk.2) (.int .i64 t291)) (fun _ hk => hk.2) (.int .i64 t292)) (fun _ hk => hk.1.2)⟩,⟨by (with_reducible repeat (first|refine blk_drewN ?_ _|refine blk_drew ?_|refine blk_alloc ?_ _));refine blk_far ?_ NB285_293.out _;(with_reducible repeat (first|refine blk_drewN ?_ _|refine blk_drew ?_|refine blk_alloc ?_ _));refine blk_far ?_ NB285_293.out _;(with_reducible repeat (first|refine blk_drewN ?_ _|refine blk_drew ?_|refine blk_alloc ?_ _));refine blk_far ?_ NB285_293.out _;(with_reducible repeat (first|refine blk_drewN ?_ _|refine blk_drew ?_|refine blk_alloc ?_ _));exact BK285.out⟩,⟨by (with_reducible repeat (first|refine blk_drewN ?_ _|refine blk_drew ?_|refine blk_alloc ?_ _));refine blk_put (cs:=#[.int .i64 t290,.int .i64 t291,.int .i64 0]) ?_ 2 _ rfl;(with_reducible repeat (first|refine blk_drewN ?_ _|refine blk_drew ?_|refine blk_alloc ?_ _));refine blk_put (cs:=#[.int .i64 t290,.int .i64 0,.int .i64 0]) ?_ 1 _ rfl;(with_reducible repeat (first|refine blk_drewN ?_ _|refine blk_drew ?_|refine blk_alloc ?_ _));refine blk_put (cs:=#[.int .i64 0,.int .i64 0,.int .i64 0]) ?_ 0 _ rfl;(with_reducible repeat (first|refine blk_drewN ?_ _|refine blk_drew ?_|refine blk_alloc ?_ _));exact BK293.out⟩,⟨by repeat (first|(with_reducible first|exact HB.out|apply below_alloc|apply pw_below_drewN|apply below_drew1|refine below_set ?_ GE285.out|refine below_set ?_ GE293.out)|exact HB.out)⟩⟩
         case rest =>
          clear HC16
          try clear c1
          try clear c2
          try clear p2
          try clear c4
          try clear c6
          try clear p6
          try clear c7
          try clear c9
          try clear c9b0
          try clear c10
          try clear c10b0
          try clear c10b1
          try clear c12
          try clear c12b0
          try clear c12b1
          try clear c13
          try clear c13b0
          try clear c13b1
          try clear c22
          try clear c24
          try clear c24b0
          try clear c24b1
          try clear c25
          try clear c25b0
          try clear c25b1
          try clear hcz19_0
          try clear hcz19_1
          try clear hcz19_2
          try clear hcz23_0
          try clear hcz23_1
          try clear hcz23_2
          try clear hfz19_0
          try clear hfz19_1
          try clear hfz19_2
          try clear hfz23_0
          try clear hfz23_1
          try clear hfz23_2
          try clear p2
          try clear p6
          obtain ⟨kq, x57_15, rfl, HA, HJ15, HO_7, HO_10, BK285, BK293, HB⟩ := hcut
          cases kq with
          | zero => exact absurd HA.out (by simp [colophonlaw10_ScanBegins.j2])
          | succ kj15 =>
           have H := HA.out
           clear HA
           simp only [colophonlaw10_ScanBegins.j2] at H
           by_cases c27 : x57_15 = true
           ·subst c27
            have H1 : (some true) = some r := by rw [if_pos rfl] at H; exact H
            clear H
            have H := H1
            clear H1
            obtain rfl := Option.some.inj H
            go_wp2
            repeat (go_quiet (fail); try go_wp2)
            go_ret
            exact ⟨by first|rfl|(simp [errW_none, errW_some] <;> rfl)|(simp only [← hji11]; first|rfl|(simp [errW_none, errW_some] <;> rfl))|(simp [*, errW_none, errW_some] <;> rfl), by repeat (first|(with_reducible first|exact HB.out|apply below_alloc|apply pw_below_drewN|apply below_drew1|refine below_set ?_ GE285.out|refine below_set ?_ GE293.out)|exact HB.out)⟩
           ·replace c27 := Bool.eq_false_iff.mpr c27
            subst c27
            have H1 : (if (wrap64 ((t278.length : Int) - 1)) > (t286.length : Int) then (none) else (if 0 ≤ (wrap64 ((t278.length : Int) - 1)) then (if (wrap64 ((t278.length : Int) - 1)) ≤ (t278.length : Int) then (if (wrap64 ((t278.length : Int) - 1)) ≤ (t286.length : Int) then ((colophonlaw10_same.f kj15 (t278.take ((wrap64 ((t278.length : Int) - 1)) : Int).toNat) (t286.take ((wrap64 ((t278.length : Int) - 1)) : Int).toNat)).bind fun t302 => (some t302)) else (none)) else (none)) else (none))) = some r := by rw [if_neg (show ¬ (false = true) by decide)] at H; exact H
            clear H
            have H := H1
            clear H1
            by_cases c28 : (wrap64 ((t278.length : Int) - 1)) > (t286.length : Int)
            ·rw [if_pos c28] at H
             exact absurd H (by simp)
            ·rw [if_neg c28] at H
             have c28b0 : decide ((t286.length : Int) < (wrap64 ((t278.length : Int) - 1))) = false := decide_eq_false c28
             clear c28
             obtain ⟨ji29, hji29⟩ : ∃ j_ : Int, (wrap64 ((t278.length : Int) - 1)) = j_ := ⟨_, rfl⟩
             replace H : (if 0 ≤ (ji29) then (if (ji29) ≤ (t278.length : Int) then (if (ji29) ≤ (t286.length : Int) then ((colophonlaw10_same.f kj15 (t278.take ((ji29) : Int).toNat) (t286.take ((ji29) : Int).toNat)).bind fun t302 => (some t302)) else (none)) else (none)) else (none)) = some r := by first|(rw [hji29] at H; exact H)|(simp only [hji29] at H ⊢; exact H)
             (try rw [hji29] at c28b0)
             have hji29w : (IntKind.i64.wrap ((t278.length : Int) - 1)) = ji29 := (i64_w _).trans hji29
             by_cases c30 : 0 ≤ (ji29)
             ·rw [if_pos c30] at H
              have c30b0 := eq_true c30
              have c30b1 : decide (0 ≤ (ji29)) = true := decide_eq_true c30
              clear c30
              by_cases c31 : (ji29) ≤ (t278.length : Int)
              ·rw [if_pos c31] at H
               have c31b0 := eq_true c31
               have c31b1 : decide ((ji29) ≤ (t278.length : Int)) = true := decide_eq_true c31
               clear c31
               obtain ⟨y294, hy294⟩ : ∃ y_ : List (S35), y_ = (t278.take ((ji29) : Int).toNat) := ⟨_, rfl⟩
               replace H : (if (ji29) ≤ (t286.length : Int) then ((colophonlaw10_same.f kj15 y294 (t286.take ((ji29) : Int).toNat)).bind fun t302 => (some t302)) else (none)) = some r := by first|(rw [hy294]; with_reducible exact H)|(have H2_ := (Option.bind_some _ _).symm.trans H; rw [hy294]; with_reducible exact H2_)|(have H2_ := (Option.bind_some _ _).symm.trans H; with_reducible exact H2_)|with_reducible exact H|(rw [hy294]; exact H)|exact H
               have Ny294 := Aside0.mk hy294
               clear hy294
               have c32b0 := eq_true (of_decide_eq_true (by first|(with_reducible assumption)|assumption) : 0 ≤ (ji29))
               by_cases c33 : (ji29) ≤ (t286.length : Int)
               ·rw [if_pos c33] at H
                have c33b0 := eq_true c33
                have c33b1 : decide ((ji29) ≤ (t286.length : Int)) = true := decide_eq_true c33
                clear c33
                obtain ⟨y298, hy298⟩ : ∃ y_ : List (S35), y_ = (t286.take ((ji29) : Int).toNat) := ⟨_, rfl⟩
                replace H : ((colophonlaw10_same.f kj15 y294 y298).bind fun t302 => (some t302)) = some r := by first|(rw [hy298]; with_reducible exact H)|(have H2_ := (Option.bind_some _ _).symm.trans H; rw [hy298]; with_reducible exact H2_)|(have H2_ := (Option.bind_some _ _).symm.trans H; with_reducible exact H2_)|with_reducible exact H|(rw [hy298]; exact H)|exact H
                have Ny298 := Aside0.mk hy298
                clear hy298
                replace H := Option.bind_eq_some_iff.mp H
                obtain ⟨t302, A340, H⟩ := H
                replace H : (some t302) = some r := H
                have A34 := Aside0.mk A340
                clear A340
                obtain rfl := Option.some.inj H
                obtain ⟨Ao35, co35, eo35⟩ := Kd.R_slice HO_7.out
                subst eo35
                obtain ⟨Ao36, co36, eo36⟩ := Kd.R_slice HO_10.out
                subst eo36
                have q37 : ((ji29) : Int) ≤ ((t278.length : Int) : Int) := of_decide_eq_true (by first|(with_reducible assumption)|assumption)
                obtain ⟨i037, hi037, _, hsz37, _⟩ := info_parts info35
                have hroom37 : t278.length ≤ co35 := (Kd.R_reads' HO_7.out).2.1
                have hC37 : Kd.C k35 _ Ao35 t278.length t278 := (Kd.R_reads' HO_7.out).2.2
                have hcut37 := cut_to (P := Tryd.prog) 23 35 .i64 Tryd.underlying23 hi037 Ao35 t278.length co35 (ji29) (of_decide_eq_true (by first|(with_reducible assumption)|assumption)) q37 hroom37
                have hr37 := Kd.C_take (m := ((ji29) : Int).toNat) hC37 (by omega)
                have hy37 : y294.length = ((ji29) : Int).toNat := (by rw [Ny294.out, List.length_take]; omega)
                rw [← Ny294.out] at hr37
                rw [← hy37] at hcut37
                have HR297 := Aside0.mk hr37
                have HC297 := Aside0.mk (show y294.length ≤ co35 from by omega)
                clear hr37 hC37 hroom37 hi037 hsz37
                have KY37 := Aside0.mk hy37
                clear hy37
                have KL37 := Aside0.mk (show ((ji29) : Int).toNat ≤ t278.length from by omega)
                replace q37 := eq_true q37
                have q38 : ((ji29) : Int) ≤ ((t286.length : Int) : Int) := of_decide_eq_true (by first|(with_reducible assumption)|assumption)
                obtain ⟨i038, hi038, _, hsz38, _⟩ := info_parts info35
                have hroom38 : t286.length ≤ co36 := (Kd.R_reads' HO_10.out).2.1
                have hC38 : Kd.C k35 _ Ao36 t286.length t286 := (Kd.R_reads' HO_10.out).2.2
                have hcut38 := cut_to (P := Tryd.prog) 23 35 .i64 Tryd.underlying23 hi038 Ao36 t286.length co36 (ji29) (of_decide_eq_true (by first|(with_reducible assumption)|assumption)) q38 hroom38
                have hr38 := Kd.C_take (m := ((ji29) : Int).toNat) hC38 (by omega)
                have hy38 : y298.length = ((ji29) : Int).toNat := (by rw [Ny298.out, List.length_take]; omega)
                rw [← Ny298.out] at hr38
                rw [← hy38] at hcut38
                have HR301 := Aside0.mk hr38
                have HC301 := Aside0.mk (show y298.length ≤ co36 from by omega)
                clear hr38 hC38 hroom38 hi038 hsz38
                have KY38 := Aside0.mk hy38
                clear hy38
                have KL38 := Aside0.mk (show ((ji29) : Int).toNat ≤ t286.length from by omega)
                replace q38 := eq_true q38
                go_wp2_with (first|(go_at_call 10; (with_reducible refine (colophonlaw10_same.calls kj15 _ _ y294 _ _ y298 t302 _ ?side1 ?side2 ?side3 ?side4 A34.out).mono ?_); (case side1 => repeat (first|exact (by repeat (first|(with_reducible exact HR297.out)|(with_reducible refine Kd.C_alloc ?_ _)|(with_reducible refine Kd.C_drewN ?_ _)|(with_reducible refine Kd.C_drew ?_)|exact HR297.out))|(with_reducible refine Kd.C_alloc ?_ _)|(with_reducible refine Kd.C_drewN ?_ _)|(with_reducible refine Kd.C_drew ?_))); (case side2 => exact HC297.out); (case side3 => repeat (first|exact (by repeat (first|(with_reducible exact HR301.out)|(with_reducible refine Kd.C_alloc ?_ _)|(with_reducible refine Kd.C_drewN ?_ _)|(with_reducible refine Kd.C_drew ?_)|exact HR301.out))|(with_reducible refine Kd.C_alloc ?_ _)|(with_reducible refine Kd.C_drewN ?_ _)|(with_reducible refine Kd.C_drew ?_))); (case side4 => exact HC301.out); rintro e w' ⟨rfl, ⟨nd, rfl⟩⟩; (try first|exact ⟨rfl, _, World.drewN_drewN _ _ _⟩|exact ⟨rfl, _, Eq.trans (World.drewN_drewN _ _ _) (congrArg (World.drewN _) (Nat.add_assoc _ _ _))⟩)))
                repeat (go_quiet (first|(go_at_call 10;(with_reducible refine (colophonlaw10_same.calls kj15 _ _ y294 _ _ y298 t302 _ ?side1 ?side2 ?side3 ?side4 A34.out).mono ?_);(case side1 => repeat (first|exact (by repeat (first|(with_reducible exact HR297.out)|(with_reducible refine Kd.C_alloc ?_ _)|(with_reducible refine Kd.C_drewN ?_ _)|(with_reducible refine Kd.C_drew ?_)|exact HR297.out))|(with_reducible refine Kd.C_alloc ?_ _)|(with_reducible refine Kd.C_drewN ?_ _)|(with_reducible refine Kd.C_drew ?_)));(case side2 => exact HC297.out);(case side3 => repeat (first|exact (by repeat (first|(with_reducible exact HR301.out)|(with_reducible refine Kd.C_alloc ?_ _)|(with_reducible refine Kd.C_drewN ?_ _)|(with_reducible refine Kd.C_drew ?_)|exact HR301.out))|(with_reducible refine Kd.C_alloc ?_ _)|(with_reducible refine Kd.C_drewN ?_ _)|(with_reducible refine Kd.C_drew ?_)));(case side4 => exact HC301.out);rintro e w' ⟨rfl,⟨nd,rfl⟩⟩;(try first|exact ⟨rfl,_,World.drewN_drewN _ _ _⟩|exact ⟨rfl,_,Eq.trans (World.drewN_drewN _ _ _) (congrArg (World.drewN _) (Nat.add_assoc _ _ _))⟩)));try go_wp2_with (first|(go_at_call 10;(with_reducible refine (colophonlaw10_same.calls kj15 _ _ y294 _ _ y298 t302 _ ?side1 ?side2 ?side3 ?side4 A34.out).mono ?_);(case side1 => repeat (first|exact (by repeat (first|(with_reducible exact HR297.out)|(with_reducible refine Kd.C_alloc ?_ _)|(with_reducible refine Kd.C_drewN ?_ _)|(with_reducible refine Kd.C_drew ?_)|exact HR297.out))|(with_reducible refine Kd.C_alloc ?_ _)|(with_reducible refine Kd.C_drewN ?_ _)|(with_reducible refine Kd.C_drew ?_)));(case side2 => exact HC297.out);(case side3 => repeat (first|exact (by repeat (first|(with_reducible exact HR301.out)|(with_reducible refine Kd.C_alloc ?_ _)|(with_reducible refine Kd.C_drewN ?_ _)|(with_reducible refine Kd.C_drew ?_)|exact HR301.out))|(with_reducible refine Kd.C_alloc ?_ _)|(with_reducible refine Kd.C_drewN ?_ _)|(with_reducible refine Kd.C_drew ?_)));(case side4 => exact HC301.out);rintro e w' ⟨rfl,⟨nd,rfl⟩⟩;(try first|exact ⟨rfl,_,World.drewN_drewN _ _ _⟩|exact ⟨rfl,_,Eq.trans (World.drewN_drewN _ _ _) (congrArg (World.drewN _) (Nat.add_assoc _ _ _))⟩))))
                go_ret
                exact ⟨by first|rfl|(simp [errW_none, errW_some] <;> rfl)|(simp only [← hji11, ← hji29]; first|rfl|(simp [errW_none, errW_some] <;> rfl))|(simp [*, errW_none, errW_some] <;> rfl), by repeat (first|(with_reducible first|exact HB.out|apply below_alloc|apply pw_below_drewN|apply below_drew1|refine below_set ?_ GE285.out|refine below_set ?_ GE293.out)|exact HB.out)⟩
               ·rw [if_neg c33] at H
                exact absurd H (by simp)
              ·rw [if_neg c31] at H
               exact absurd H (by simp)
             ·rw [if_neg c30] at H
              exact absurd H (by simp)
        ·rw [if_neg c13] at H
         exact absurd H (by simp)
       ·rw [if_neg c12] at H
        exact absurd H (by simp)

/-! ### place_Start: function 13 -/
def place_Start.f  : Option (Int × Int × Int) := some (0, 1, 1)
set_option maxHeartbeats 8000000 in
set_option maxRecDepth 100000 in
theorem place_Start.calls  (r1 : Int) (r2 : Int) (r3 : Int) (w : World) (h : place_Start.f  = some (r1, r2, r3)) :
  Calls Tryd.prog 13 #[] w fun e w' => e = .returned (.agg #[.int .i64 r1, .int .i64 r2, .int .i64 r3]) ∧ Below w.heap.size w w' := by
 have hu26 := Tryd.underlying26
 have HB := Aside0.mk (Below.refl w.heap.size w)
 have H : (some (0, 1, 1)) = some (r1, r2, r3) := h
 clear h
 simp only [Option.some.injEq, Prod.mk.injEq] at H
 obtain ⟨rfl, rfl, rfl⟩ := H
 go_enter Tryd.func13, Tryd.ntmps13
 go_wp2_with (first|((with_reducible refine gate_dst (N := 0) rfl ?_); refine box_event ?hg (N := 0) ?hd (cs := #[.int .i64 0, .int .i64 0, .int .i64 0]) (t := 26) ?hr ?_; (case hd => rfl); (case hg => rfl); (case hr => first|(go_simp; done)|(go_simp; rfl)); intro gb303 hg w1 hbox hb; have n0_ := Aside0.mk (below_step (by repeat (first|(with_reducible first|exact HB.out|apply below_alloc|apply pw_below_drewN|apply below_drew1)|exact HB.out)) hb); have n1_ := Aside0.mk (hbox); have n2_ := Aside0.mk ((by rw [hg]; exact (below_size (by repeat (first|(with_reducible first|exact HB.out|apply below_alloc|apply pw_below_drewN|apply below_drew1)|exact HB.out))) : w.heap.size ≤ gb303)); have n3_ := Aside0.mk ((by rw [hg]; exact (below_size (by repeat (first|(with_reducible first|exact HB.out|apply below_alloc|apply pw_below_drewN|apply below_drew1)|exact HB.out))) : w.heap.size ≤ gb303)); clear HB; have HB := n0_; have BK303 := n1_; have GW303 := n2_; have GE303 := n3_; clear n0_ n1_ n2_ n3_; clear hb hbox hg; have hcz2_0 : w1.cell? ⟨gb303, 0, none⟩ = some (.int .i64 0) := (blk_cell BK303.out 0).trans rfl; have hcz2_1 : w1.cell? ⟨gb303, 1, none⟩ = some (.int .i64 0) := (blk_cell BK303.out 1).trans rfl; have hcz2_2 : w1.cell? ⟨gb303, 2, none⟩ = some (.int .i64 0) := (blk_cell BK303.out 2).trans rfl; have hfz2_0 := blk_frozen BK303.out 0; have hfz2_1 := blk_frozen BK303.out 1; have hfz2_2 := blk_frozen BK303.out 2))
 refine bodyPost_ret (results_cell_row rfl _ _ gb303 26 #[.int .i64 0, .int .i64 1, .int .i64 1] (0, 0) _ rfl (by (with_reducible repeat (first|refine blk_drewN ?_ _|refine blk_drew ?_|refine blk_alloc ?_ _)); refine blk_put (cs := #[.int .i64 0, .int .i64 1, .int .i64 0]) ?_ 2 _ rfl; (with_reducible repeat (first|refine blk_drewN ?_ _|refine blk_drew ?_|refine blk_alloc ?_ _)); refine blk_put (cs := #[.int .i64 0, .int .i64 0, .int .i64 0]) ?_ 1 _ rfl; (with_reducible repeat (first|refine blk_drewN ?_ _|refine blk_drew ?_|refine blk_alloc ?_ _)); refine blk_put (cs := #[.int .i64 0, .int .i64 0, .int .i64 0]) ?_ 0 _ rfl; (with_reducible repeat (first|refine blk_drewN ?_ _|refine blk_drew ?_|refine blk_alloc ?_ _)); exact BK303.out) Tryd.underlying26 rfl (by kernel_rfl)) rfl ?_
 exact ⟨by first|rfl|(simp [errW_none, errW_some] <;> rfl)|(simp [*, errW_none, errW_some] <;> rfl), by repeat (first|(with_reducible first|exact HB.out|apply below_alloc|apply pw_below_drewN|apply below_drew1|refine below_set ?_ GE303.out)|exact HB.out)⟩

/-! ### colophonlaw10_blank: function 22 -/
def colophonlaw10_blank.f (a0 : Int) : Option (Bool) := if a0 = 32 then (some true) else (if a0 = 9 then (some true) else (some (a0 == 13)))
set_option maxHeartbeats 8000000 in
set_option maxRecDepth 100000 in
theorem colophonlaw10_blank.calls (a0 : Int) (r : Bool) (w : World) (h : colophonlaw10_blank.f a0 = some r) :
  Calls Tryd.prog 22 #[.int .u8 a0] w fun e w' => e = .returned (.bool r) ∧ Drawn0 w w' := by
 have H : (if a0 = 32 then (some true) else (if a0 = 9 then (some true) else (some (a0 == 13)))) = some r := h
 clear h
 by_cases c2 : a0 = 32
 ·rw [if_pos c2] at H
  have c2b0 : (a0 == 32) = true := beq_iff_eq.mpr c2
  have c2b1 : (a0 != 32) = false := bne_eq_false_iff_eq.mpr c2
  clear c2
  obtain rfl := Option.some.inj H
  go_enter Tryd.func22, Tryd.ntmps22
  go_wp2
  go_ret
  exact ⟨by first|rfl|(simp; done)|(simp [*]; done), by repeat (first|exact Drawn0.refl _|apply Drawn0.step)⟩
 ·rw [if_neg c2] at H
  have c2b0 : (a0 == 32) = false := beq_eq_false_iff_ne.mpr c2
  have c2b1 : (a0 != 32) = true := bne_iff_ne.mpr c2
  by_cases c3 : a0 = 9
  ·rw [if_pos c3] at H
   have c3b0 : (a0 == 9) = true := beq_iff_eq.mpr c3
   have c3b1 : (a0 != 9) = false := bne_eq_false_iff_eq.mpr c3
   clear c3
   obtain rfl := Option.some.inj H
   go_enter Tryd.func22, Tryd.ntmps22
   go_wp2
   go_ret
   exact ⟨by first|rfl|(simp; done)|(simp [*]; done), by repeat (first|exact Drawn0.refl _|apply Drawn0.step)⟩
  ·rw [if_neg c3] at H
   have c3b0 : (a0 == 9) = false := beq_eq_false_iff_ne.mpr c3
   have c3b1 : (a0 != 9) = true := bne_iff_ne.mpr c3
   obtain rfl := Option.some.inj H
   go_enter Tryd.func22, Tryd.ntmps22
   go_wp2
   go_ret
   exact ⟨by first|rfl|(simp; done)|(simp [*]; done), by repeat (first|exact Drawn0.refl _|apply Drawn0.step)⟩

/-! ### colophonlaw10_between: function 14 -/
mutual
def colophonlaw10_between.j0 : Nat → ByteArray → Int → Int → Bool → Option (Int)
 | 0, _, _, _, _ => none
 | k + 1, x0, x1, x2, x17 => if x17 = true then (some (-1)) else (colophonlaw10_between.l0 k x0 x2 0 x1)
def colophonlaw10_between.l0 : Nat → ByteArray → Int → Int → Int → Option (Int)
 | 0, _, _, _, _ => none
 | k + 1, x0, x2, x7, x8 => if x8 < x2 then (if 0 ≤ x8 then (if x8 < (x0.size : Int) then (if (bt x0 x8) = 10 then (colophonlaw10_between.l0 k x0 x2 (wrap64 (x7 + 1)) (wrap64 (x8 + 1))) else ((colophonlaw10_blank.f (bt x0 x8)).bind fun t304 => (if t304 = true then (colophonlaw10_between.l0 k x0 x2 x7 (wrap64 (x8 + 1))) else (some (-1))))) else (none)) else (none)) else (some x7)
end
def colophonlaw10_between.f (k : Nat) (a0 : ByteArray) (a1 : Int) (a2 : Int) : Option (Int) := if a1 > a2 then (colophonlaw10_between.j0 k a0 a1 a2 true) else (colophonlaw10_between.j0 k a0 a1 a2 (decide (a2 > (a0.size : Int))))
theorem colophonlaw10_between.mono_l : ∀ k, (∀ y0 y1 y2 y3, LeO (colophonlaw10_between.j0 k y0 y1 y2 y3) (colophonlaw10_between.j0 (k + 1) y0 y1 y2 y3)) ∧ (∀ y0 y1 y2 y3, LeO (colophonlaw10_between.l0 k y0 y1 y2 y3) (colophonlaw10_between.l0 (k + 1) y0 y1 y2 y3))
 | 0 => ⟨fun _ _ _ _ r h => by simp [colophonlaw10_between.j0] at h, fun _ _ _ _ r h => by simp [colophonlaw10_between.l0] at h⟩
 | k + 1 => by
  obtain ⟨ih0, ih1⟩ := colophonlaw10_between.mono_l k
  refine ⟨?_, ?_⟩
  ·intro y0 y1 y2 y3
   unfold colophonlaw10_between.j0
   repeat' first
   | (with_reducible exact ih0 _ _ _ _)
   | (with_reducible exact ih1 _ _ _ _)
   | (with_reducible exact LeO.refl _)
   | (with_reducible exact LeO.none _)
   | (with_reducible refine LeO.ite ?_ ?_)
   | (with_reducible refine LeO.bind ?_ (fun _ => ?_))
   | exact ih0 _ _ _ _
   | exact ih1 _ _ _ _
   | exact LeO.none _
   | refine LeO.ite ?_ ?_
   | refine LeO.bind ?_ (fun _ => ?_)
  ·intro y0 y1 y2 y3
   unfold colophonlaw10_between.l0
   repeat' first
   | (with_reducible exact ih0 _ _ _ _)
   | (with_reducible exact ih1 _ _ _ _)
   | (with_reducible exact LeO.refl _)
   | (with_reducible exact LeO.none _)
   | (with_reducible refine LeO.ite ?_ ?_)
   | (with_reducible refine LeO.bind ?_ (fun _ => ?_))
   | exact ih0 _ _ _ _
   | exact ih1 _ _ _ _
   | exact LeO.none _
   | refine LeO.ite ?_ ?_
   | refine LeO.bind ?_ (fun _ => ?_)
theorem colophonlaw10_between.mono : ∀ a0 a1 a2 k, LeO (colophonlaw10_between.f k a0 a1 a2) (colophonlaw10_between.f (k + 1) a0 a1 a2) := by
 intro a0 a1 a2 k
 obtain ⟨ih0, ih1⟩ := colophonlaw10_between.mono_l k
 unfold colophonlaw10_between.f
 repeat' first
   | (with_reducible exact ih0 _ _ _ _)
   | (with_reducible exact ih1 _ _ _ _)
   | (with_reducible exact LeO.refl _)
   | (with_reducible exact LeO.none _)
   | (with_reducible refine LeO.ite ?_ ?_)
   | (with_reducible refine LeO.bind ?_ (fun _ => ?_))
   | exact ih0 _ _ _ _
   | exact ih1 _ _ _ _
   | exact LeO.none _
   | refine LeO.ite ?_ ?_
   | refine LeO.bind ?_ (fun _ => ?_)
set_option maxHeartbeats 8000000 in
set_option maxRecDepth 100000 in
theorem colophonlaw10_between.calls (k : Nat) (a0 : ByteArray) (a1 : Int) (a2 : Int) (r : Int) (w : World) (h : colophonlaw10_between.f k a0 a1 a2 = some r) :
  Calls Tryd.prog 14 #[.string a0, .int .i64 a1, .int .i64 a2] w fun e w' => e = .returned (.int .i64 r) ∧ Below w.heap.size w w' := by
 have HB := Aside0.mk (Below.refl w.heap.size w)
 have H : (if a1 > a2 then (colophonlaw10_between.j0 k a0 a1 a2 true) else (colophonlaw10_between.j0 k a0 a1 a2 (decide (a2 > (a0.size : Int))))) = some r := h
 clear h
 have HC4 := Aside0.mk H
 clear H
 go_enter Tryd.func14, Tryd.ntmps14
 go_upto_region 1 with (fail)
 go_cut [17] (fun v17 wc => ∃ (kq : Nat) (x17_3 : Bool), v17 = .bool x17_3 ∧ Aside0 (colophonlaw10_between.j0 kq a0 a1 a2 x17_3 = some r) ∧ Aside0 (kq ≤ k) ∧ Aside0 (Below w.heap.size w wc))
 case first =>
  have H := HC4.out
  clear HC4
  by_cases c5 : a1 > a2
  ·rw [if_pos c5] at H
   have c5b0 : decide (a2 < a1) = true := decide_eq_true c5
   clear c5
   (first|rw [c5b0]|(simp only [i64_w, i32_w]; rw [c5b0])|skip)
   have H' := Aside0.mk H
   clear H
   go_wp2
   go_meet
   case rel => exact ⟨_, (true), (by first|rfl|(simp; done)|(simp [*]; done)), H', ⟨by first|omega|exact Nat.le_refl _⟩, ⟨by repeat (first|(with_reducible first|exact HB.out|apply below_alloc|apply pw_below_drewN|apply below_drew1)|exact HB.out)⟩⟩
  ·rw [if_neg c5] at H
   have c5b0 : decide (a2 < a1) = false := decide_eq_false c5
   clear c5
   (first|rw [c5b0]|(simp only [i64_w, i32_w]; rw [c5b0])|skip)
   have H' := Aside0.mk H
   clear H
   go_wp2
   go_meet
   case rel => exact ⟨_, (decide (a2 > (a0.size : Int))), (by first|rfl|(simp; done)|(simp [*]; done)), H', ⟨by first|omega|exact Nat.le_refl _⟩, ⟨by repeat (first|(with_reducible first|exact HB.out|apply below_alloc|apply pw_below_drewN|apply below_drew1)|exact HB.out)⟩⟩
 case rest =>
  clear HC4
  try clear c1
  try clear p2
  try clear c5
  try clear c5b0
  obtain ⟨kq, x17_3, rfl, HA, HJ3, HB⟩ := hcut
  cases kq with
  | zero => exact absurd HA.out (by simp [colophonlaw10_between.j0])
  | succ kj3 =>
   have H := HA.out
   clear HA
   simp only [colophonlaw10_between.j0] at H
   by_cases c6 : x17_3 = true
   ·subst c6
    have H1 : (some (-1)) = some r := by rw [if_pos rfl] at H; exact H
    clear H
    have H := H1
    clear H1
    obtain rfl := Option.some.inj H
    go_wp2
    go_ret
    exact ⟨by first|rfl|(simp [errW_none, errW_some] <;> rfl)|(simp [*, errW_none, errW_some] <;> rfl), by repeat (first|(with_reducible first|exact HB.out|apply below_alloc|apply pw_below_drewN|apply below_drew1)|exact HB.out)⟩
   ·replace c6 := Bool.eq_false_iff.mpr c6
    subst c6
    have H1 : (colophonlaw10_between.l0 kj3 a0 a2 0 a1) = some r := by rw [if_neg (show ¬ (false = true) by decide)] at H; exact H
    clear H
    have H := H1
    clear H1
    have H' := Aside0.mk H
    clear H
    go_wp2
    go_loopg [7, 8] kj3 (fun kq v7 v8 w' => ∃ (x7_2 : Int) (x8_2 : Int), v7 = .int .i64 x7_2 ∧ v8 = .int .i64 x8_2 ∧ Aside0 (colophonlaw10_between.l0 kq a0 a2 x7_2 x8_2 = some r) ∧ Aside0 (kq ≤ kj3) ∧ Aside0 (Below w.heap.size w w'))
    case atStart => exact ⟨(0), (a1), (by first|rfl|(simp; done)|(simp [*]; done)), (by first|rfl|(simp; done)|(simp [*]; done)), H', ⟨Nat.le_refl _⟩, ⟨by repeat (first|(with_reducible first|exact HB.out|apply below_alloc|apply pw_below_drewN|apply below_drew1)|exact HB.out)⟩⟩
    case round =>
     clear H'
     try clear c1
     try clear p2
     try clear c5
     try clear c5b0
     try clear c6
     try clear p2
     obtain ⟨x7_2, x8_2, rfl, rfl, HA, HK2, HB⟩ := hrel
     cases gk with
     | zero => exact absurd HA.out (by simp [colophonlaw10_between.l0])
     | succ k2 =>
      have H := HA.out
      clear HA
      simp only [colophonlaw10_between.l0] at H
      by_cases c7 : x8_2 < a2
      ·rw [if_pos c7] at H
       have c7b0 : decide (x8_2 < a2) = true := decide_eq_true c7
       clear c7
       by_cases c8 : 0 ≤ x8_2
       ·rw [if_pos c8] at H
        have c8b0 : decide (0 ≤ x8_2) = true := decide_eq_true c8
        clear c8
        by_cases c9 : x8_2 < (a0.size : Int)
        ·rw [if_pos c9] at H
         have c9b0 : decide (x8_2 < (a0.size : Int)) = true := decide_eq_true c9
         clear c9
         by_cases c11 : (bt a0 x8_2) = 10
         ·rw [if_pos c11] at H
          have c11b0 : ((bt a0 x8_2) == 10) = true := beq_iff_eq.mpr c11
          have c11b1 : ((bt a0 x8_2) != 10) = false := bne_eq_false_iff_eq.mpr c11
          clear c11
          have H' := Aside0.mk H
          clear H
          have p10 : 0 ≤ (x8_2 : Int) := of_decide_eq_true (by first|(with_reducible assumption)|assumption)
          have q10 : x8_2 < (a0.size : Int) := of_decide_eq_true (by first|(with_reducible assumption)|assumption)
          have hx10 := bt_at a0 x8_2
          replace p10 := eq_true p10
          replace q10 := eq_true q10
          go_wp2
          go_roundg k2
          case measure => have := HJ3.out; have := HK2.out; omega
          case rel => exact ⟨(wrap64 (x7_2 + 1)), (wrap64 (x8_2 + 1)), (by first|rfl|(simp; done)|(simp [*]; done)), (by first|rfl|(simp; done)|(simp [*]; done)), H', ⟨by have := HJ3.out; have := HK2.out; omega⟩, ⟨by repeat (first|(with_reducible first|exact HB.out|apply below_alloc|apply pw_below_drewN|apply below_drew1)|exact HB.out)⟩⟩
         ·rw [if_neg c11] at H
          have c11b0 : ((bt a0 x8_2) == 10) = false := beq_eq_false_iff_ne.mpr c11
          have c11b1 : ((bt a0 x8_2) != 10) = true := bne_iff_ne.mpr c11
          replace H := Option.bind_eq_some_iff.mp H
          obtain ⟨t304, A130, H⟩ := H
          replace H : (if t304 = true then (colophonlaw10_between.l0 k2 a0 a2 x7_2 (wrap64 (x8_2 + 1))) else (some (-1))) = some r := H
          have A13 := Aside0.mk A130
          clear A130
          by_cases c14 : t304 = true
          ·subst c14
           have H1 : (colophonlaw10_between.l0 k2 a0 a2 x7_2 (wrap64 (x8_2 + 1))) = some r := by rw [if_pos rfl] at H; exact H
           clear H
           have H := H1
           clear H1
           have H' := Aside0.mk H
           clear H
           have p10 : 0 ≤ (x8_2 : Int) := of_decide_eq_true (by first|(with_reducible assumption)|assumption)
           have q10 : x8_2 < (a0.size : Int) := of_decide_eq_true (by first|(with_reducible assumption)|assumption)
           have hx10 := bt_at a0 x8_2
           replace p10 := eq_true p10
           replace q10 := eq_true q10
           have p12 : 0 ≤ (x8_2 : Int) := of_decide_eq_true (by first|(with_reducible assumption)|assumption)
           have q12 : x8_2 < (a0.size : Int) := of_decide_eq_true (by first|(with_reducible assumption)|assumption)
           have hx12 := bt_at a0 x8_2
           replace p12 := eq_true p12
           replace q12 := eq_true q12
           go_wp2_with (first|((with_reducible refine gate_callee (f := 22) rfl ?_); refine goesL_ (some 33) rfl rfl Tryd.func22 (by kernel_rfl) rfl #[.int .u8 (bt a0 x8_2)] rfl (by (try simp only [List.map_toArray, List.map_cons, List.map_nil]); first|done|rfl|(simp only [List.length_drop, List.length_take]; rfl)) ?_; (with_reducible refine (colophonlaw10_blank.calls (bt a0 x8_2) true _ A13.out).mono ?_); rintro e w' ⟨rfl, ⟨nd, rfl⟩⟩; refine ⟨_, rfl, ?_⟩))
           go_roundg k2
           case measure => have := HJ3.out; have := HK2.out; omega
           case rel => exact ⟨(x7_2), (wrap64 (x8_2 + 1)), (by first|rfl|(simp; done)|(simp [*]; done)), (by first|rfl|(simp; done)|(simp [*]; done)), H', ⟨by have := HJ3.out; have := HK2.out; omega⟩, ⟨by repeat (first|(with_reducible first|exact HB.out|apply below_alloc|apply pw_below_drewN|apply below_drew1)|exact HB.out)⟩⟩
          ·replace c14 := Bool.eq_false_iff.mpr c14
           subst c14
           have H1 : (some (-1)) = some r := by rw [if_neg (show ¬ (false = true) by decide)] at H; exact H
           clear H
           have H := H1
           clear H1
           obtain rfl := Option.some.inj H
           have p10 : 0 ≤ (x8_2 : Int) := of_decide_eq_true (by first|(with_reducible assumption)|assumption)
           have q10 : x8_2 < (a0.size : Int) := of_decide_eq_true (by first|(with_reducible assumption)|assumption)
           have hx10 := bt_at a0 x8_2
           replace p10 := eq_true p10
           replace q10 := eq_true q10
           have p12 : 0 ≤ (x8_2 : Int) := of_decide_eq_true (by first|(with_reducible assumption)|assumption)
           have q12 : x8_2 < (a0.size : Int) := of_decide_eq_true (by first|(with_reducible assumption)|assumption)
           have hx12 := bt_at a0 x8_2
           replace p12 := eq_true p12
           replace q12 := eq_true q12
           go_wp2_with (first|((with_reducible refine gate_callee (f := 22) rfl ?_); refine goesL_ (some 33) rfl rfl Tryd.func22 (by kernel_rfl) rfl #[.int .u8 (bt a0 x8_2)] rfl (by (try simp only [List.map_toArray, List.map_cons, List.map_nil]); first|done|rfl|(simp only [List.length_drop, List.length_take]; rfl)) ?_; (with_reducible refine (colophonlaw10_blank.calls (bt a0 x8_2) false _ A13.out).mono ?_); rintro e w' ⟨rfl, ⟨nd, rfl⟩⟩; refine ⟨_, rfl, ?_⟩))
           go_ret
           exact ⟨by first|rfl|(simp [errW_none, errW_some] <;> rfl)|(simp [*, errW_none, errW_some] <;> rfl), by repeat (first|(with_reducible first|exact HB.out|apply below_alloc|apply pw_below_drewN|apply below_drew1)|exact HB.out)⟩
        ·rw [if_neg c9] at H
         exact absurd H (by simp)
       ·rw [if_neg c8] at H
        exact absurd H (by simp)
      ·rw [if_neg c7] at H
       have c7b0 : decide (x8_2 < a2) = false := decide_eq_false c7
       clear c7
       obtain rfl := Option.some.inj H
       go_wp2
       go_ret
       exact ⟨by first|rfl|(simp [errW_none, errW_some] <;> rfl)|(simp [*, errW_none, errW_some] <;> rfl), by repeat (first|(with_reducible first|exact HB.out|apply below_alloc|apply pw_below_drewN|apply below_drew1)|exact HB.out)⟩

end Go.Proofs.YtgfloplakjmncaaDoor.PScan
