-- Printed by the prover's own program (wip/xprint.py) over the kit's print. Not trusted: Lean checks it.
import Derived.Test.YtgfloplakjmncaaDoorPScanx0
import Derived.Test.YtgfloplakjmncaaDoorPScanx3
namespace Go.Proofs.YtgfloplakjmncaaDoor.PScan
open Go.RowKit Go.Proofs.YtgfloplakjmncaaDoorW.PrintWords Go.Proofs.YtgfloplakjmncaaDoorW.PrintLast Go.Proofs.YtgfloplakjmncaaDoorW.PrintMore
attribute [local go_sem] max2_int min2_int max_two min_two max_three min_three max_four min_four   -- for this text's walks alone
set_option linter.unusedVariables false
set_option linter.unusedSimpArgs false
/-! ### colophonref01_Next: function 61 -/
mutual
def colophonref01_Next.j0 : Nat → ByteArray → Int → Bool → Option (Int × Int × Bool)
 | 0, _, _, _ => none
 | k + 1, x0, x1, x18 => if x18 = true then (some (0, 0, false)) else (if 0 ≤ x1 then (if x1 < (x0.size : Int) then ((colophonref01_Long.f k (wrap64 (bt x0 x1))).bind fun t124 => (if t124 = 0 then (colophonref01_Next.j1 k x0 x1 (wrap64 (bt x0 x1)) t124 true) else (if (wrap64 (x1 + t124)) > (x0.size : Int) then (colophonref01_Next.j1 k x0 x1 (wrap64 (bt x0 x1)) t124 true) else ((colophonref01_fits.f k x0 x1 t124).bind fun t125 => (colophonref01_Next.j1 k x0 x1 (wrap64 (bt x0 x1)) t124 (!t125)))))) else (none)) else (none))
def colophonref01_Next.j1 : Nat → ByteArray → Int → Int → Int → Bool → Option (Int × Int × Bool)
 | 0, _, _, _, _, _ => none
 | k + 1, x0, x1, x7, x8, x41 => if x41 = true then (some (65533, 1, false)) else (if x8 = 1 then (some (x7, 1, true)) else (if x8 = 3 then (colophonref01_Next.j2 k x0 x1 x7 x8 (Int.tmod x7 16)) else (colophonref01_Next.j2 k x0 x1 x7 x8 (Int.tmod x7 32))))
def colophonref01_Next.j2 : Nat → ByteArray → Int → Int → Int → Int → Option (Int × Int × Bool)
 | 0, _, _, _, _, _ => none
 | k + 1, x0, x1, x7, x8, x9 => if x8 = 4 then (colophonref01_Next.j3 k x0 x1 x8 (Int.tmod x7 8)) else (colophonref01_Next.j3 k x0 x1 x8 x9)
def colophonref01_Next.j3 : Nat → ByteArray → Int → Int → Int → Option (Int × Int × Bool)
 | 0, _, _, _, _ => none
 | k + 1, x0, x1, x8, x9 => colophonref01_Next.l0 k x0 x1 x8 x9 1
def colophonref01_Next.l0 : Nat → ByteArray → Int → Int → Int → Int → Option (Int × Int × Bool)
 | 0, _, _, _, _, _ => none
 | k + 1, x0, x1, x8, x9, x10 => if x10 < x8 then (if 0 ≤ (wrap64 (x1 + x10)) then (if (wrap64 (x1 + x10)) < (x0.size : Int) then (colophonref01_Next.l0 k x0 x1 x8 (wrap64 ((wrap64 (64 * x9)) + (Int.tmod (wrap64 (bt x0 (wrap64 (x1 + x10)))) 64))) (wrap64 (x10 + 1))) else (none)) else (none)) else (some (x9, x8, true))
end
def colophonref01_Next.f (k : Nat) (a0 : ByteArray) (a1 : Int) : Option (Int × Int × Bool) := if a1 < 0 then (colophonref01_Next.j0 k a0 a1 true) else (colophonref01_Next.j0 k a0 a1 (decide (a1 ≥ (a0.size : Int))))
theorem colophonref01_Next.mono_l : ∀ k, (∀ y0 y1 y2, LeO (colophonref01_Next.j0 k y0 y1 y2) (colophonref01_Next.j0 (k + 1) y0 y1 y2)) ∧ (∀ y0 y1 y2 y3 y4, LeO (colophonref01_Next.j1 k y0 y1 y2 y3 y4) (colophonref01_Next.j1 (k + 1) y0 y1 y2 y3 y4)) ∧ (∀ y0 y1 y2 y3 y4, LeO (colophonref01_Next.j2 k y0 y1 y2 y3 y4) (colophonref01_Next.j2 (k + 1) y0 y1 y2 y3 y4)) ∧ (∀ y0 y1 y2 y3, LeO (colophonref01_Next.j3 k y0 y1 y2 y3) (colophonref01_Next.j3 (k + 1) y0 y1 y2 y3)) ∧ (∀ y0 y1 y2 y3 y4, LeO (colophonref01_Next.l0 k y0 y1 y2 y3 y4) (colophonref01_Next.l0 (k + 1) y0 y1 y2 y3 y4))
 | 0 => ⟨fun _ _ _ r h => by simp [colophonref01_Next.j0] at h, fun _ _ _ _ _ r h => by simp [colophonref01_Next.j1] at h, fun _ _ _ _ _ r h => by simp [colophonref01_Next.j2] at h, fun _ _ _ _ r h => by simp [colophonref01_Next.j3] at h, fun _ _ _ _ _ r h => by simp [colophonref01_Next.l0] at h⟩
 | k + 1 => by
  obtain ⟨ih0, ih1, ih2, ih3, ih4⟩ := colophonref01_Next.mono_l k
  refine ⟨?_, ?_, ?_, ?_, ?_⟩
  ·intro y0 y1 y2
   unfold colophonref01_Next.j0
   repeat' first
   | (with_reducible exact ih0 _ _ _)
   | (with_reducible exact ih1 _ _ _ _ _)
   | (with_reducible exact ih2 _ _ _ _ _)
   | (with_reducible exact ih3 _ _ _ _)
   | (with_reducible exact ih4 _ _ _ _ _)
   | (with_reducible exact colophonref01_Long.mono _ _)
   | (with_reducible exact colophonref01_fits.mono _ _ _ _)
   | (with_reducible exact LeO.refl _)
   | (with_reducible exact LeO.none _)
   | (with_reducible refine LeO.ite ?_ ?_)
   | (with_reducible refine LeO.bind ?_ (fun _ => ?_))
   | exact ih0 _ _ _
   | exact ih1 _ _ _ _ _
   | exact ih2 _ _ _ _ _
   | exact ih3 _ _ _ _
   | exact ih4 _ _ _ _ _
   | exact colophonref01_Long.mono _ _
   | exact colophonref01_fits.mono _ _ _ _
   | exact LeO.none _
   | refine LeO.ite ?_ ?_
   | refine LeO.bind ?_ (fun _ => ?_)
  ·intro y0 y1 y2 y3 y4
   unfold colophonref01_Next.j1
   repeat' first
   | (with_reducible exact ih0 _ _ _)
   | (with_reducible exact ih1 _ _ _ _ _)
   | (with_reducible exact ih2 _ _ _ _ _)
   | (with_reducible exact ih3 _ _ _ _)
   | (with_reducible exact ih4 _ _ _ _ _)
   | (with_reducible exact colophonref01_Long.mono _ _)
   | (with_reducible exact colophonref01_fits.mono _ _ _ _)
   | (with_reducible exact LeO.refl _)
   | (with_reducible exact LeO.none _)
   | (with_reducible refine LeO.ite ?_ ?_)
   | (with_reducible refine LeO.bind ?_ (fun _ => ?_))
   | exact ih0 _ _ _
   | exact ih1 _ _ _ _ _
   | exact ih2 _ _ _ _ _
   | exact ih3 _ _ _ _
   | exact ih4 _ _ _ _ _
   | exact colophonref01_Long.mono _ _
   | exact colophonref01_fits.mono _ _ _ _
   | exact LeO.none _
   | refine LeO.ite ?_ ?_
   | refine LeO.bind ?_ (fun _ => ?_)
  ·intro y0 y1 y2 y3 y4
   unfold colophonref01_Next.j2
   repeat' first
   | (with_reducible exact ih0 _ _ _)
   | (with_reducible exact ih1 _ _ _ _ _)
   | (with_reducible exact ih2 _ _ _ _ _)
   | (with_reducible exact ih3 _ _ _ _)
   | (with_reducible exact ih4 _ _ _ _ _)
   | (with_reducible exact colophonref01_Long.mono _ _)
   | (with_reducible exact colophonref01_fits.mono _ _ _ _)
   | (with_reducible exact LeO.refl _)
   | (with_reducible exact LeO.none _)
   | (with_reducible refine LeO.ite ?_ ?_)
   | (with_reducible refine LeO.bind ?_ (fun _ => ?_))
   | exact ih0 _ _ _
   | exact ih1 _ _ _ _ _
   | exact ih2 _ _ _ _ _
   | exact ih3 _ _ _ _
   | exact ih4 _ _ _ _ _
   | exact colophonref01_Long.mono _ _
   | exact colophonref01_fits.mono _ _ _ _
   | exact LeO.none _
   | refine LeO.ite ?_ ?_
   | refine LeO.bind ?_ (fun _ => ?_)
  ·intro y0 y1 y2 y3
   unfold colophonref01_Next.j3
   repeat' first
   | (with_reducible exact ih0 _ _ _)
   | (with_reducible exact ih1 _ _ _ _ _)
   | (with_reducible exact ih2 _ _ _ _ _)
   | (with_reducible exact ih3 _ _ _ _)
   | (with_reducible exact ih4 _ _ _ _ _)
   | (with_reducible exact colophonref01_Long.mono _ _)
   | (with_reducible exact colophonref01_fits.mono _ _ _ _)
   | (with_reducible exact LeO.refl _)
   | (with_reducible exact LeO.none _)
   | (with_reducible refine LeO.ite ?_ ?_)
   | (with_reducible refine LeO.bind ?_ (fun _ => ?_))
   | exact ih0 _ _ _
   | exact ih1 _ _ _ _ _
   | exact ih2 _ _ _ _ _
   | exact ih3 _ _ _ _
   | exact ih4 _ _ _ _ _
   | exact colophonref01_Long.mono _ _
   | exact colophonref01_fits.mono _ _ _ _
   | exact LeO.none _
   | refine LeO.ite ?_ ?_
   | refine LeO.bind ?_ (fun _ => ?_)
  ·intro y0 y1 y2 y3 y4
   unfold colophonref01_Next.l0
   repeat' first
   | (with_reducible exact ih0 _ _ _)
   | (with_reducible exact ih1 _ _ _ _ _)
   | (with_reducible exact ih2 _ _ _ _ _)
   | (with_reducible exact ih3 _ _ _ _)
   | (with_reducible exact ih4 _ _ _ _ _)
   | (with_reducible exact colophonref01_Long.mono _ _)
   | (with_reducible exact colophonref01_fits.mono _ _ _ _)
   | (with_reducible exact LeO.refl _)
   | (with_reducible exact LeO.none _)
   | (with_reducible refine LeO.ite ?_ ?_)
   | (with_reducible refine LeO.bind ?_ (fun _ => ?_))
   | exact ih0 _ _ _
   | exact ih1 _ _ _ _ _
   | exact ih2 _ _ _ _ _
   | exact ih3 _ _ _ _
   | exact ih4 _ _ _ _ _
   | exact colophonref01_Long.mono _ _
   | exact colophonref01_fits.mono _ _ _ _
   | exact LeO.none _
   | refine LeO.ite ?_ ?_
   | refine LeO.bind ?_ (fun _ => ?_)
theorem colophonref01_Next.mono : ∀ a0 a1 k, LeO (colophonref01_Next.f k a0 a1) (colophonref01_Next.f (k + 1) a0 a1) := by
 intro a0 a1 k
 obtain ⟨ih0, ih1, ih2, ih3, ih4⟩ := colophonref01_Next.mono_l k
 unfold colophonref01_Next.f
 repeat' first
   | (with_reducible exact ih0 _ _ _)
   | (with_reducible exact ih1 _ _ _ _ _)
   | (with_reducible exact ih2 _ _ _ _ _)
   | (with_reducible exact ih3 _ _ _ _)
   | (with_reducible exact ih4 _ _ _ _ _)
   | (with_reducible exact colophonref01_Long.mono _ _)
   | (with_reducible exact colophonref01_fits.mono _ _ _ _)
   | (with_reducible exact LeO.refl _)
   | (with_reducible exact LeO.none _)
   | (with_reducible refine LeO.ite ?_ ?_)
   | (with_reducible refine LeO.bind ?_ (fun _ => ?_))
   | exact ih0 _ _ _
   | exact ih1 _ _ _ _ _
   | exact ih2 _ _ _ _ _
   | exact ih3 _ _ _ _
   | exact ih4 _ _ _ _ _
   | exact colophonref01_Long.mono _ _
   | exact colophonref01_fits.mono _ _ _ _
   | exact LeO.none _
   | refine LeO.ite ?_ ?_
   | refine LeO.bind ?_ (fun _ => ?_)
set_option maxHeartbeats 8000000 in
set_option maxRecDepth 100000 in
theorem colophonref01_Next.calls (k : Nat) (a0 : ByteArray) (a1 : Int) (r1 : Int) (r2 : Int) (r3 : Bool) (w : World) (h : colophonref01_Next.f k a0 a1 = some (r1, r2, r3)) :
  Calls Tryd.prog 61 #[.string a0, .int .i64 a1] w fun e w' => e = .returned (.tuple #[.int .i64 r1, .int .i64 r2, .bool r3]) ∧ Drawn0 w w' := by
 have H : (if a1 < 0 then (colophonref01_Next.j0 k a0 a1 true) else (colophonref01_Next.j0 k a0 a1 (decide (a1 ≥ (a0.size : Int))))) = some (r1, r2, r3) := h
 clear h
 have HC3 := Aside0.mk H
 clear H
 go_enter Tryd.func61, Tryd.ntmps61
 go_upto_region 1 with (fail)
 go_cut [18] (fun v18 wc => ∃ (kq : Nat) (x18_2 : Bool), v18 = .bool x18_2 ∧ Aside0 (colophonref01_Next.j0 kq a0 a1 x18_2 = some (r1, r2, r3)) ∧ Aside0 (kq ≤ k) ∧ Drawn0 w wc)
 case first =>
  have H := HC3.out
  clear HC3
  by_cases c4 : a1 < 0
  ·rw [if_pos c4] at H
   have c4b0 : decide (a1 < 0) = true := decide_eq_true c4
   clear c4
   (first|rw [c4b0]|(simp only [i64_w, i32_w]; rw [c4b0])|skip)
   have H' := Aside0.mk H
   clear H
   go_wp2
   go_meet
   case rel => exact ⟨_, (true), (by first|rfl|(simp; done)|(simp [*]; done)), H', ⟨by first|omega|exact Nat.le_refl _⟩, by repeat (first|exact Drawn0.refl _|apply Drawn0.step)⟩
  ·rw [if_neg c4] at H
   have c4b0 : decide (a1 < 0) = false := decide_eq_false c4
   clear c4
   (first|rw [c4b0]|(simp only [i64_w, i32_w]; rw [c4b0])|skip)
   have H' := Aside0.mk H
   clear H
   go_wp2
   go_meet
   case rel => exact ⟨_, (decide (a1 ≥ (a0.size : Int))), (by first|rfl|(simp; done)|(simp [*]; done)), H', ⟨by first|omega|exact Nat.le_refl _⟩, by repeat (first|exact Drawn0.refl _|apply Drawn0.step)⟩
 case rest =>
  clear HC3
  try clear p2
  try clear c4
  try clear c4b0
  obtain ⟨kq, x18_2, rfl, HA, HJ2, ⟨mc2, rfl⟩⟩ := hcut
  cases kq with
  | zero => exact absurd HA.out (by simp [colophonref01_Next.j0])
  | succ kj2 =>
   have H := HA.out
   clear HA
   simp only [colophonref01_Next.j0] at H
   by_cases c5 : x18_2 = true
   ·subst c5
    have H1 : (some (0, 0, false)) = some (r1, r2, r3) := by rw [if_pos rfl] at H; exact H
    clear H
    have H := H1
    clear H1
    simp only [Option.some.injEq, Prod.mk.injEq] at H
    obtain ⟨rfl, rfl, rfl⟩ := H
    go_wp2
    go_ret3
    exact ⟨by first|rfl|(simp; done)|(simp [*]; done), by repeat (first|exact Drawn0.refl _|apply Drawn0.step)⟩
   ·replace c5 := Bool.eq_false_iff.mpr c5
    subst c5
    have H1 : (if 0 ≤ a1 then (if a1 < (a0.size : Int) then ((colophonref01_Long.f kj2 (wrap64 (bt a0 a1))).bind fun t124 => (if t124 = 0 then (colophonref01_Next.j1 kj2 a0 a1 (wrap64 (bt a0 a1)) t124 true) else (if (wrap64 (a1 + t124)) > (a0.size : Int) then (colophonref01_Next.j1 kj2 a0 a1 (wrap64 (bt a0 a1)) t124 true) else ((colophonref01_fits.f kj2 a0 a1 t124).bind fun t125 => (colophonref01_Next.j1 kj2 a0 a1 (wrap64 (bt a0 a1)) t124 (!t125)))))) else (none)) else (none)) = some (r1, r2, r3) := by rw [if_neg (show ¬ (false = true) by decide)] at H; exact H
    clear H
    have H := H1
    clear H1
    by_cases c6 : 0 ≤ a1
    ·rw [if_pos c6] at H
     have c6b0 : decide (0 ≤ a1) = true := decide_eq_true c6
     clear c6
     by_cases c7 : a1 < (a0.size : Int)
     ·rw [if_pos c7] at H
      have c7b0 : decide (a1 < (a0.size : Int)) = true := decide_eq_true c7
      clear c7
      replace H := Option.bind_eq_some_iff.mp H
      obtain ⟨t124, A90, H⟩ := H
      replace H : (if t124 = 0 then (colophonref01_Next.j1 kj2 a0 a1 (wrap64 (bt a0 a1)) t124 true) else (if (wrap64 (a1 + t124)) > (a0.size : Int) then (colophonref01_Next.j1 kj2 a0 a1 (wrap64 (bt a0 a1)) t124 true) else ((colophonref01_fits.f kj2 a0 a1 t124).bind fun t125 => (colophonref01_Next.j1 kj2 a0 a1 (wrap64 (bt a0 a1)) t124 (!t125))))) = some (r1, r2, r3) := H
      have A9 := Aside0.mk A90
      clear A90
      have HC10 := Aside0.mk H
      clear H
      have p8 : 0 ≤ (a1 : Int) := of_decide_eq_true (by first|(with_reducible assumption)|assumption)
      have q8 : a1 < (a0.size : Int) := of_decide_eq_true (by first|(with_reducible assumption)|assumption)
      have hx8 := bt_at a0 a1
      replace p8 := eq_true p8
      replace q8 := eq_true q8
      go_upto_region 5 with (first|((with_reducible refine gate_callee (f := 80) rfl ?_); refine goesL_ (some 24) rfl rfl Tryd.func80 (by kernel_rfl) rfl #[.int .i64 (wrap64 (bt a0 a1))] rfl (by (try simp only [List.map_toArray, List.map_cons, List.map_nil]); first|done|rfl|(simp only [List.length_drop, List.length_take]; rfl)) ?_; (with_reducible refine (colophonref01_Long.calls kj2 (wrap64 (bt a0 a1)) t124 _ A9.out).mono ?_); rintro e w' ⟨rfl, ⟨nd, rfl⟩⟩; refine ⟨_, rfl, ?_⟩))
      (try simp only [Act.put, List.setIfInBounds_toArray, List.set_cons_zero, List.set_cons_succ])
      go_cut [41] (fun v41 wc => ∃ (kq : Nat) (x41_9 : Bool), v41 = .bool x41_9 ∧ Aside0 (colophonref01_Next.j1 kq a0 a1 (wrap64 (bt a0 a1)) t124 x41_9 = some (r1, r2, r3)) ∧ Aside0 (kq ≤ kj2) ∧ Drawn0 w wc)
      case first =>
       have H := HC10.out
       clear HC10
       by_cases c11 : t124 = 0
       ·rw [if_pos c11] at H
        have c11b0 : (t124 == 0) = true := beq_iff_eq.mpr c11
        have c11b1 : (t124 != 0) = false := bne_eq_false_iff_eq.mpr c11
        clear c11
        (first|rw [c11b0]|(simp only [i64_w, i32_w]; rw [c11b0])|skip)
        have H' := Aside0.mk H
        clear H
        go_wp2
        go_meet
        case rel => exact ⟨_, (true), (by first|rfl|(simp; done)|(simp [*]; done)), H', ⟨by have := HJ2.out; first|omega|exact Nat.le_refl _⟩, by repeat (first|exact Drawn0.refl _|apply Drawn0.step)⟩
       ·rw [if_neg c11] at H
        have c11b0 : (t124 == 0) = false := beq_eq_false_iff_ne.mpr c11
        have c11b1 : (t124 != 0) = true := bne_iff_ne.mpr c11
        (first|rw [c11b0]|(simp only [i64_w, i32_w]; rw [c11b0])|skip)
        by_cases c12 : (wrap64 (a1 + t124)) > (a0.size : Int)
        ·rw [if_pos c12] at H
         have c12b0 : decide ((a0.size : Int) < (wrap64 (a1 + t124))) = true := decide_eq_true c12
         clear c12
         have H' := Aside0.mk H
         clear H
         go_wp2
         go_meet
         case rel => exact ⟨_, (true), (by first|rfl|(simp; done)|(simp [*]; done)), H', ⟨by have := HJ2.out; first|omega|exact Nat.le_refl _⟩, by repeat (first|exact Drawn0.refl _|apply Drawn0.step)⟩
        ·rw [if_neg c12] at H
         have c12b0 : decide ((a0.size : Int) < (wrap64 (a1 + t124))) = false := decide_eq_false c12
         clear c12
         replace H := Option.bind_eq_some_iff.mp H
         obtain ⟨t125, A130, H⟩ := H
         replace H : (colophonref01_Next.j1 kj2 a0 a1 (wrap64 (bt a0 a1)) t124 (!t125)) = some (r1, r2, r3) := H
         have A13 := Aside0.mk A130
         clear A130
         have H' := Aside0.mk H
         clear H
         go_wp2_with (first|(go_at_call 81; (with_reducible refine (colophonref01_fits.calls kj2 a0 a1 t124 t125 _ A13.out).mono ?_); rintro e w' ⟨rfl, ⟨nd, rfl⟩⟩))
         go_meet
         case rel => exact ⟨_, (!t125), (by first|rfl|(simp; done)|(simp [*]; done)), H', ⟨by have := HJ2.out; first|omega|exact Nat.le_refl _⟩, by repeat (first|exact Drawn0.refl _|apply Drawn0.step)⟩
      case rest =>
       clear HC10
       try clear c1
       try clear c2
       try clear p2
       try clear c4
       try clear c4b0
       try clear c5
       try clear c6
       try clear c6b0
       try clear p6
       try clear c7
       try clear c7b0
       try clear c8
       try clear p8
       try clear q8
       try clear hx8
       try clear c11
       try clear c11b0
       try clear c11b1
       try clear c12
       try clear c12b0
       try clear p2
       try clear p8
       try clear q8
       obtain ⟨kq, x41_9, rfl, HA, HJ9, ⟨mc9, rfl⟩⟩ := hcut
       cases kq with
       | zero => exact absurd HA.out (by simp [colophonref01_Next.j1])
       | succ kj9 =>
        have H := HA.out
        clear HA
        simp only [colophonref01_Next.j1] at H
        by_cases c14 : x41_9 = true
        ·subst c14
         have H1 : (some (65533, 1, false)) = some (r1, r2, r3) := by rw [if_pos rfl] at H; exact H
         clear H
         have H := H1
         clear H1
         simp only [Option.some.injEq, Prod.mk.injEq] at H
         obtain ⟨rfl, rfl, rfl⟩ := H
         go_wp2
         go_ret3
         exact ⟨by first|rfl|(simp; done)|(simp [*]; done), by repeat (first|exact Drawn0.refl _|apply Drawn0.step)⟩
        ·replace c14 := Bool.eq_false_iff.mpr c14
         subst c14
         have H1 : (if t124 = 1 then (some ((wrap64 (bt a0 a1)), 1, true)) else (if t124 = 3 then (colophonref01_Next.j2 kj9 a0 a1 (wrap64 (bt a0 a1)) t124 (Int.tmod (wrap64 (bt a0 a1)) 16)) else (colophonref01_Next.j2 kj9 a0 a1 (wrap64 (bt a0 a1)) t124 (Int.tmod (wrap64 (bt a0 a1)) 32)))) = some (r1, r2, r3) := by rw [if_neg (show ¬ (false = true) by decide)] at H; exact H
         clear H
         have H := H1
         clear H1
         by_cases c15 : t124 = 1
         ·rw [if_pos c15] at H
          have c15b0 : (t124 == 1) = true := beq_iff_eq.mpr c15
          have c15b1 : (t124 != 1) = false := bne_eq_false_iff_eq.mpr c15
          clear c15
          simp only [Option.some.injEq, Prod.mk.injEq] at H
          obtain ⟨rfl, rfl, rfl⟩ := H
          go_wp2
          go_ret3
          exact ⟨by first|rfl|(simp; done)|(simp [*]; done), by repeat (first|exact Drawn0.refl _|apply Drawn0.step)⟩
         ·rw [if_neg c15] at H
          have c15b0 : (t124 == 1) = false := beq_eq_false_iff_ne.mpr c15
          have c15b1 : (t124 != 1) = true := bne_iff_ne.mpr c15
          have HC16 := Aside0.mk H
          clear H
          go_upto_if 48 with (fail)
          go_cut [9] (fun v9 wc => ∃ (kq : Nat) (x9_15 : Int), v9 = .int .i64 x9_15 ∧ Aside0 (colophonref01_Next.j2 kq a0 a1 (wrap64 (bt a0 a1)) t124 x9_15 = some (r1, r2, r3)) ∧ Aside0 (kq ≤ kj9) ∧ Drawn0 w wc)
          case first =>
           have H := HC16.out
           clear HC16
           by_cases c17 : t124 = 3
           ·rw [if_pos c17] at H
            have c17b0 : (t124 == 3) = true := beq_iff_eq.mpr c17
            have c17b1 : (t124 != 3) = false := bne_eq_false_iff_eq.mpr c17
            clear c17
            (first|rw [c17b0]|(simp only [i64_w, i32_w]; rw [c17b0])|skip)
            have H' := Aside0.mk H
            clear H
            go_wp2
            go_meet
            case rel => exact ⟨_, (Int.tmod (wrap64 (bt a0 a1)) 16), (by first|rfl|(simp; done)|(simp [*]; done)), H', ⟨by have := HJ2.out; have := HJ9.out; first|omega|exact Nat.le_refl _⟩, by repeat (first|exact Drawn0.refl _|apply Drawn0.step)⟩
           ·rw [if_neg c17] at H
            have c17b0 : (t124 == 3) = false := beq_eq_false_iff_ne.mpr c17
            have c17b1 : (t124 != 3) = true := bne_iff_ne.mpr c17
            (first|rw [c17b0]|(simp only [i64_w, i32_w]; rw [c17b0])|skip)
            have H' := Aside0.mk H
            clear H
            go_wp2
            go_meet
            case rel => exact ⟨_, (Int.tmod (wrap64 (bt a0 a1)) 32), (by first|rfl|(simp; done)|(simp [*]; done)), H', ⟨by have := HJ2.out; have := HJ9.out; first|omega|exact Nat.le_refl _⟩, by repeat (first|exact Drawn0.refl _|apply Drawn0.step)⟩
          case rest =>
           clear HC16
           try clear c1
           try clear c2
           try clear p2
           try clear c4
           try clear c4b0
           try clear c5
           try clear c6
           try clear c6b0
           try clear p6
           try clear c7
           try clear c7b0
           try clear c8
           try clear p8
           try clear q8
           try clear hx8
           try clear c9
           try clear c11
           try clear c11b0
           try clear c11b1
           try clear c12
           try clear c12b0
           try clear c14
           try clear c15
           try clear c15b0
           try clear c15b1
           try clear c17
           try clear c17b0
           try clear c17b1
           try clear p2
           try clear p6
           try clear p8
           try clear q8
           obtain ⟨kq, x9_15, rfl, HA, HJ15, ⟨mc15, rfl⟩⟩ := hcut
           cases kq with
           | zero => exact absurd HA.out (by simp [colophonref01_Next.j2])
           | succ kj15 =>
            have H := HA.out
            clear HA
            simp only [colophonref01_Next.j2] at H
            have HC18 := Aside0.mk H
            clear H
            go_upto_if 52 with (fail)
            go_cut [9] (fun v9 wc => ∃ (kq : Nat) (x9_17 : Int), v9 = .int .i64 x9_17 ∧ Aside0 (colophonref01_Next.j3 kq a0 a1 t124 x9_17 = some (r1, r2, r3)) ∧ Aside0 (kq ≤ kj15) ∧ Drawn0 w wc)
            case first =>
             have H := HC18.out
             clear HC18
             by_cases c19 : t124 = 4
             ·rw [if_pos c19] at H
              have c19b0 : (t124 == 4) = true := beq_iff_eq.mpr c19
              have c19b1 : (t124 != 4) = false := bne_eq_false_iff_eq.mpr c19
              clear c19
              (first|rw [c19b0]|(simp only [i64_w, i32_w]; rw [c19b0])|skip)
              have H' := Aside0.mk H
              clear H
              go_wp2
              go_meet
              case rel => exact ⟨_, (Int.tmod (wrap64 (bt a0 a1)) 8), (by first|rfl|(simp; done)|(simp [*]; done)), H', ⟨by have := HJ2.out; have := HJ9.out; have := HJ15.out; first|omega|exact Nat.le_refl _⟩, by repeat (first|exact Drawn0.refl _|apply Drawn0.step)⟩
             ·rw [if_neg c19] at H
              have c19b0 : (t124 == 4) = false := beq_eq_false_iff_ne.mpr c19
              have c19b1 : (t124 != 4) = true := bne_iff_ne.mpr c19
              (first|rw [c19b0]|(simp only [i64_w, i32_w]; rw [c19b0])|skip)
              have H' := Aside0.mk H
              clear H
              go_wp2
              go_meet
              case rel => exact ⟨_, (x9_15), (by first|rfl|(simp; done)|(simp [*]; done)), H', ⟨by have := HJ2.out; have := HJ9.out; have := HJ15.out; first|omega|exact Nat.le_refl _⟩, by repeat (first|exact Drawn0.refl _|apply Drawn0.step)⟩
            case rest =>
             clear HC18
             try clear c1
             try clear c2
             try clear p2
             try clear c4
             try clear c4b0
             try clear c5
             try clear c6
             try clear c6b0
             try clear p6
             try clear c7
             try clear c7b0
             try clear c8
             try clear p8
             try clear q8
             try clear hx8
             try clear c9
             try clear c11
             try clear c11b0
             try clear c11b1
             try clear c12
             try clear c12b0
             try clear c14
             try clear c15
             try clear c15b0
             try clear c15b1
             try clear c17
             try clear c17b0
             try clear c17b1
             try clear c19
             try clear c19b0
             try clear c19b1
             try clear p2
             try clear p6
             try clear p8
             try clear q8
             obtain ⟨kq, x9_17, rfl, HA, HJ17, ⟨mc17, rfl⟩⟩ := hcut
             cases kq with
             | zero => exact absurd HA.out (by simp [colophonref01_Next.j3])
             | succ kj17 =>
              have H := HA.out
              clear HA
              simp only [colophonref01_Next.j3] at H
              have H' := Aside0.mk H
              clear H
              go_wp2
              go_loopg [9, 10] kj17 (fun kq v9 v10 w' => ∃ (x9_5 : Int) (x10_5 : Int), v9 = .int .i64 x9_5 ∧ v10 = .int .i64 x10_5 ∧ Aside0 (colophonref01_Next.l0 kq a0 a1 t124 x9_5 x10_5 = some (r1, r2, r3)) ∧ Aside0 (kq ≤ kj17) ∧ Drawn0 w w')
              case atStart => exact ⟨(x9_17), (1), (by first|rfl|(simp; done)|(simp [*]; done)), (by first|rfl|(simp; done)|(simp [*]; done)), H', ⟨Nat.le_refl _⟩, by repeat (first|exact Drawn0.refl _|apply Drawn0.step)⟩
              case round =>
               clear H'
               try clear c1
               try clear c2
               try clear p2
               try clear c4
               try clear c4b0
               try clear c5
               try clear c6
               try clear c6b0
               try clear p6
               try clear c7
               try clear c7b0
               try clear c8
               try clear p8
               try clear q8
               try clear hx8
               try clear c9
               try clear c11
               try clear c11b0
               try clear c11b1
               try clear c12
               try clear c12b0
               try clear c14
               try clear c15
               try clear c15b0
               try clear c15b1
               try clear c17
               try clear c17b0
               try clear c17b1
               try clear c19
               try clear c19b0
               try clear c19b1
               try clear p2
               try clear p6
               try clear p8
               try clear q8
               obtain ⟨x9_5, x10_5, rfl, rfl, HA, HK5, ⟨m5, rfl⟩⟩ := hrel
               cases gk with
               | zero => exact absurd HA.out (by simp [colophonref01_Next.l0])
               | succ k5 =>
                have H := HA.out
                clear HA
                simp only [colophonref01_Next.l0] at H
                by_cases c20 : x10_5 < t124
                ·rw [if_pos c20] at H
                 have c20b0 : decide (x10_5 < t124) = true := decide_eq_true c20
                 clear c20
                 obtain ⟨ji21, hji21⟩ : ∃ j_ : Int, (wrap64 (a1 + x10_5)) = j_ := ⟨_, rfl⟩
                 replace H : (if 0 ≤ (ji21) then (if (ji21) < (a0.size : Int) then (colophonref01_Next.l0 k5 a0 a1 t124 (wrap64 ((wrap64 (64 * x9_5)) + (Int.tmod (wrap64 (bt a0 (ji21))) 64))) (wrap64 (x10_5 + 1))) else (none)) else (none)) = some (r1, r2, r3) := by first|(rw [hji21] at H; exact H)|(simp only [hji21] at H ⊢; exact H)
                 have hji21w : (IntKind.i64.wrap (a1 + x10_5)) = ji21 := (i64_w _).trans hji21
                 by_cases c22 : 0 ≤ (ji21)
                 ·rw [if_pos c22] at H
                  have c22b0 : decide (0 ≤ (ji21)) = true := decide_eq_true c22
                  clear c22
                  by_cases c23 : (ji21) < (a0.size : Int)
                  ·rw [if_pos c23] at H
                   have c23b0 : decide ((ji21) < (a0.size : Int)) = true := decide_eq_true c23
                   clear c23
                   have H' := Aside0.mk H
                   clear H
                   have p24 : 0 ≤ ((ji21) : Int) := of_decide_eq_true (by first|(with_reducible assumption)|assumption)
                   have q24 : (ji21) < (a0.size : Int) := of_decide_eq_true (by first|(with_reducible assumption)|assumption)
                   have hx24 := bt_at a0 (ji21)
                   replace p24 := eq_true p24
                   replace q24 := eq_true q24
                   go_wp2
                   go_roundg k5
                   case measure => have := HJ2.out; have := HJ9.out; have := HJ15.out; have := HJ17.out; have := HK5.out; omega
                   case rel => exact ⟨(wrap64 ((wrap64 (64 * x9_5)) + (Int.tmod (wrap64 (bt a0 (ji21))) 64))), (wrap64 (x10_5 + 1)), (by first|rfl|(simp; done)|(simp only [← hji21] <;> (first|rfl|simp))|(simp [*]; done)), (by first|rfl|(simp; done)|(simp [*]; done)), H', ⟨by have := HJ2.out; have := HJ9.out; have := HJ15.out; have := HJ17.out; have := HK5.out; omega⟩, by repeat (first|exact Drawn0.refl _|apply Drawn0.step)⟩
                  ·rw [if_neg c23] at H
                   exact absurd H (by simp)
                 ·rw [if_neg c22] at H
                  exact absurd H (by simp)
                ·rw [if_neg c20] at H
                 have c20b0 : decide (x10_5 < t124) = false := decide_eq_false c20
                 clear c20
                 simp only [Option.some.injEq, Prod.mk.injEq] at H
                 obtain ⟨rfl, rfl, rfl⟩ := H
                 go_wp2
                 go_ret3
                 exact ⟨by first|rfl|(simp; done)|(simp [*]; done), by repeat (first|exact Drawn0.refl _|apply Drawn0.step)⟩
     ·rw [if_neg c7] at H
      exact absurd H (by simp)
    ·rw [if_neg c6] at H
     exact absurd H (by simp)
/-! ### colophonref01_Places: function 69 -/
def colophonref01_Places.l0 : Nat → ByteArray → List Int → Int → Option (List Int)
 | 0, _, _, _ => none
 | k + 1, x0, x3, x4 => if x4 < (x0.size : Int) then (if x3.length < 17592186044416 then ((colophonref01_Next.f k x0 x4).bind fun bt129 => (colophonref01_Places.l0 k x0 (x3 ++ [x4]) (wrap64 (x4 + bt129.2.1)))) else (none)) else (some x3)
def colophonref01_Places.f (k : Nat) (a0 : ByteArray) : Option (List Int) := colophonref01_Places.l0 k a0 ([] : List Int) 0
theorem colophonref01_Places.mono_l : ∀ k, (∀ y0 y1 y2, LeO (colophonref01_Places.l0 k y0 y1 y2) (colophonref01_Places.l0 (k + 1) y0 y1 y2))
 | 0 => fun _ _ _ r h => by simp [colophonref01_Places.l0] at h
 | k + 1 => by
  have ih0 := colophonref01_Places.mono_l k
  ·intro y0 y1 y2
   unfold colophonref01_Places.l0
   repeat' first
   | (with_reducible exact ih0 _ _ _)
   | (with_reducible exact colophonref01_Next.mono _ _ _)
   | (with_reducible exact LeO.refl _)
   | (with_reducible exact LeO.none _)
   | (with_reducible refine LeO.ite ?_ ?_)
   | (with_reducible refine LeO.bind ?_ (fun _ => ?_))
   | exact ih0 _ _ _
   | exact colophonref01_Next.mono _ _ _
   | exact LeO.none _
   | refine LeO.ite ?_ ?_
   | refine LeO.bind ?_ (fun _ => ?_)
theorem colophonref01_Places.mono : ∀ a0 k, LeO (colophonref01_Places.f k a0) (colophonref01_Places.f (k + 1) a0) := by
 intro a0 k
 have ih0 := colophonref01_Places.mono_l k
 unfold colophonref01_Places.f
 repeat' first
   | (with_reducible exact ih0 _ _ _)
   | (with_reducible exact colophonref01_Next.mono _ _ _)
   | (with_reducible exact LeO.refl _)
   | (with_reducible exact LeO.none _)
   | (with_reducible refine LeO.ite ?_ ?_)
   | (with_reducible refine LeO.bind ?_ (fun _ => ?_))
   | exact ih0 _ _ _
   | exact colophonref01_Next.mono _ _ _
   | exact LeO.none _
   | refine LeO.ite ?_ ?_
   | refine LeO.bind ?_ (fun _ => ?_)
set_option maxHeartbeats 8000000 in
set_option maxRecDepth 100000 in
theorem colophonref01_Places.calls (k : Nat) (a0 : ByteArray) (r : List Int) (w : World) (h : colophonref01_Places.f k a0 = some r) :
  Calls Tryd.prog 69 #[.string a0] w fun e w' => ∃ v0_ : Value, e = .returned (v0_) ∧ Kd.R (Kd.int .i64) 3 w' w.heap.size (fun _ => True) v0_ r ∧ Below w.heap.size w w' := by
 have HB := Aside0.mk (Below.refl w.heap.size w)
 have H : (colophonref01_Places.l0 k a0 ([] : List Int) 0) = some r := h
 clear h
 have H' := Aside0.mk H
 clear H
 go_enter Tryd.func69, Tryd.ntmps69
 go_wp2
 go_loopg [3, 4] k (fun kq v3 v4 w' => ∃ (x3_1 : List Int) (x4_1 : Int), v4 = .int .i64 x4_1 ∧ Aside0 (colophonref01_Places.l0 kq a0 x3_1 x4_1 = some r) ∧ Aside0 (kq ≤ k) ∧ Aside0 (Kd.R (Kd.int .i64) 3 w' w.heap.size (fun _ => True) v3 x3_1) ∧ Aside0 (Below w.heap.size w w'))
 case atStart => exact ⟨(([] : List Int)), (0), (by first|rfl|(simp; done)|(simp [*]; done)), H', ⟨Nat.le_refl _⟩, ⟨by first|exact Kd.R_nil _ _ _ _ _|exact Kd.N_nil _ _ _ _ _|exact Kd.V_nil _ _ _ _ _|exact Kd.Q_nil _ _ _ _ _|exact Kd.S_nil _ _ _ _ _⟩, ⟨by repeat (first|(with_reducible first|exact HB.out|apply below_alloc|apply pw_below_drewN|apply below_drew1)|exact HB.out)⟩⟩
 case round =>
  clear H'
  obtain ⟨x3_1, x4_1, rfl, HA, HK1, HO_3, HB⟩ := hrel
  cases gk with
  | zero => exact absurd HA.out (by simp [colophonref01_Places.l0])
  | succ k1 =>
   have H := HA.out
   clear HA
   simp only [colophonref01_Places.l0] at H
   by_cases c2 : x4_1 < (a0.size : Int)
   ·rw [if_pos c2] at H
    have c2b0 : decide (x4_1 < (a0.size : Int)) = true := decide_eq_true c2
    clear c2
    by_cases c3 : x3_1.length < 17592186044416
    ·rw [if_pos c3] at H
     have LMc3 := Aside0.mk c3
     clear c3
     obtain ⟨y126, hy126⟩ : ∃ y_ : List Int, y_ = (x3_1 ++ [x4_1]) := ⟨_, rfl⟩
     replace H : ((colophonref01_Next.f k1 a0 x4_1).bind fun bt129 => (colophonref01_Places.l0 k1 a0 y126 (wrap64 (x4_1 + bt129.2.1)))) = some r := by first|(rw [hy126]; with_reducible exact H)|(have H2_ := (Option.bind_some _ _).symm.trans H; rw [hy126]; with_reducible exact H2_)|(have H2_ := (Option.bind_some _ _).symm.trans H; with_reducible exact H2_)|with_reducible exact H|(rw [hy126]; exact H)|exact H
     have Ny126 := Aside0.mk hy126
     clear hy126
     replace H := Option.bind_eq_some_iff.mp H
     obtain ⟨⟨t129, t130, t131⟩, A40, H⟩ := H
     replace H : (colophonref01_Places.l0 k1 a0 y126 (wrap64 (x4_1 + t130))) = some r := H
     have A4 := Aside0.mk A40
     clear A40
     have H' := Aside0.mk H
     clear H
     go_wp2_with (first|((with_reducible refine gate_builtin (b:=.append) (xs:=#[.tmp 12,.tmp 14]) rfl ?_);at_builtin;refine Kd.R_append (Kd.int .i64) (w0:=w) w.heap.size rfl (.tmp 12) (.tmp 14) 81 3 (.int .i64 0) 8 rfl Tryd.underlying81 info3 rfl (by decide) (by omega) u3 x3_1 x4_1 [.int .i64 x4_1] (fun _ => True) (fun _ => False) rfl rfl ?aP (fun _ hk => hk.elim) ?aF ?aO ?aB ?aS ?aL ?_;(case aP => exact rfl);(case aB => exact (by repeat (first|(with_reducible first|exact HB.out|apply below_alloc|apply pw_below_drewN|apply below_drew1)|exact HB.out)));(case aF => exact (fun _ _ => trivial));(case aO => exact (by (with_reducible repeat (first|apply Kd.R_alloc|apply Kd.R_drewN|apply Kd.R_drew));exact HO_3.out));(case aS => exact (below_size (by repeat (first|(with_reducible first|exact HB.out|apply below_alloc|apply pw_below_drewN|apply below_drew1)|exact HB.out))));(case aL => have:=LMc3.out;omega);intro v127 w5 ho hb hg hat;rw [← Ny126.out] at ho;have n0_:=Aside0.mk (hb);have n1_:=Aside0.mk (ho);clear HB;clear HO_3;have HB:=n0_;have HO128:=n1_;clear n0_ n1_;clear ho hb hg hat)|((with_reducible refine gate_callee (f:=61) rfl ?_);refine goesL_ (some 19) rfl rfl Tryd.func61 (by kernel_rfl) rfl #[.string a0,.int .i64 x4_1] rfl (by (try simp only [List.map_toArray,List.map_cons,List.map_nil]);first|done|rfl|(simp only [List.length_drop,List.length_take];rfl)) ?_;(with_reducible refine (colophonref01_Next.calls k1 a0 x4_1 t129 t130 t131 _ A4.out).mono ?_);rintro e w' ⟨rfl,⟨nd,rfl⟩⟩;refine ⟨_,rfl,?_⟩))
     go_roundg k1
     case measure => have := HK1.out; omega
     case rel => exact ⟨(y126), (wrap64 (x4_1 + t130)), (by first|rfl|(simp; done)|(simp [*]; done)), H', ⟨by have := HK1.out; omega⟩, ⟨by (with_reducible repeat (first|apply Kd.R_alloc|apply Kd.R_drewN|apply Kd.R_drew)); exact HO128.out⟩, ⟨by repeat (first|(with_reducible first|exact HB.out|apply below_alloc|apply pw_below_drewN|apply below_drew1)|exact HB.out)⟩⟩
    ·rw [if_neg c3] at H
     exact absurd H (by simp)
   ·rw [if_neg c2] at H
    have c2b0 : decide (x4_1 < (a0.size : Int)) = false := decide_eq_false c2
    clear c2
    obtain rfl := Option.some.inj H
    go_wp2
    go_ret
    exact ⟨_, by first|rfl|(simp [errW_none, errW_some] <;> rfl)|(simp [*, errW_none, errW_some] <;> rfl), by (with_reducible repeat (first|apply Kd.R_alloc|apply Kd.R_drewN|apply Kd.R_drew)); exact HO_3.out, by repeat (first|(with_reducible first|exact HB.out|apply below_alloc|apply pw_below_drewN|apply below_drew1)|exact HB.out)⟩
/-! ### colophonref01_Count: function 48 -/
def colophonref01_Count.f (k : Nat) (a0 : ByteArray) : Option (Int) := (colophonref01_Places.f k a0).bind fun t132 => (some (t132.length : Int))
theorem colophonref01_Count.mono : ∀ a0 k, LeO (colophonref01_Count.f k a0) (colophonref01_Count.f (k + 1) a0) := by
 intro a0 k
 unfold colophonref01_Count.f
 repeat' first
   | (with_reducible exact colophonref01_Places.mono _ _)
   | (with_reducible exact LeO.refl _)
   | (with_reducible exact LeO.none _)
   | (with_reducible refine LeO.ite ?_ ?_)
   | (with_reducible refine LeO.bind ?_ (fun _ => ?_))
   | exact colophonref01_Places.mono _ _
   | exact LeO.none _
   | refine LeO.ite ?_ ?_
   | refine LeO.bind ?_ (fun _ => ?_)
set_option maxHeartbeats 8000000 in
set_option maxRecDepth 100000 in
theorem colophonref01_Count.calls (k : Nat) (a0 : ByteArray) (r : Int) (w : World) (h : colophonref01_Count.f k a0 = some r) :
  Calls Tryd.prog 48 #[.string a0] w fun e w' => e = .returned (.int .i64 r) ∧ Below w.heap.size w w' := by
 have HB := Aside0.mk (Below.refl w.heap.size w)
 have H : ((colophonref01_Places.f k a0).bind fun t132 => (some (t132.length : Int))) = some r := h
 clear h
 replace H := Option.bind_eq_some_iff.mp H
 obtain ⟨t132, A20, H⟩ := H
 replace H : (some (t132.length : Int)) = some r := H
 have A2 := Aside0.mk A20
 clear A20
 obtain rfl := Option.some.inj H
 go_enter Tryd.func48, Tryd.ntmps48
 go_wp2_with (first|((with_reducible refine gate_callee (f := 69) rfl ?_); refine goesL_ (some 5) rfl rfl Tryd.func69 (by kernel_rfl) rfl #[.string a0] rfl (by (try simp only [List.map_toArray, List.map_cons, List.map_nil]); first|done|rfl|(simp only [List.length_drop, List.length_take]; rfl)) ?_; (with_reducible refine (colophonref01_Places.calls k a0 t132 _ A2.out).mono ?_); rintro e w3 ⟨v133, rfl, ho0, hb⟩; refine ⟨_, rfl, ?_⟩; have n0_ := Aside0.mk (Kd.R_lower ho0 (below_size (by repeat (first|(with_reducible first|exact HB.out|apply below_alloc|apply pw_below_drewN|apply below_drew1)|exact HB.out)))); have n1_ := Aside0.mk (below_step (by repeat (first|(with_reducible first|exact HB.out|apply below_alloc|apply pw_below_drewN|apply below_drew1)|exact HB.out)) hb); clear HB; have HO134 := n0_; have HB := n1_; clear n0_ n1_; (try clear hb); (try clear hb2); (try clear hk); (try clear hi); (try clear ho0); obtain ⟨Ao4, co4, eo4⟩ := Kd.R_slice HO134.out; subst eo4))
 go_ret
 exact ⟨by first|rfl|(simp [errW_none, errW_some] <;> rfl)|(simp [*, errW_none, errW_some] <;> rfl), by repeat (first|(with_reducible first|exact HB.out|apply below_alloc|apply pw_below_drewN|apply below_drew1)|exact HB.out)⟩
end Go.Proofs.YtgfloplakjmncaaDoor.PScan
