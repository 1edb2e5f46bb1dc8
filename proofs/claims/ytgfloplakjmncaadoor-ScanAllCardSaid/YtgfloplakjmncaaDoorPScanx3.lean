-- Printed by the prover's own program (wip/xprint.py) over the kit's print. Not trusted: Lean checks it.
import Derived.Test.YtgfloplakjmncaaDoorPScanx0
import Derived.Test.YtgfloplakjmncaaDoorPScanx1
import Derived.Test.YtgfloplakjmncaaDoorPScanx2
import Derived.Test.YtgfloplakjmncaaDoorXF
namespace Go.Proofs.YtgfloplakjmncaaDoor.PScan
open Go.RowKit Go.Proofs.YtgfloplakjmncaaDoorW.PrintWords Go.Proofs.YtgfloplakjmncaaDoorW.PrintLast Go.Proofs.YtgfloplakjmncaaDoorW.PrintMore
attribute [local go_sem] max2_int min2_int max_two min_two max_three min_three max_four min_four   -- for this text's walks alone
set_option linter.unusedVariables false
set_option linter.unusedSimpArgs false
attribute [local go_sem high] eqA26 eqA35
/-! ### colophonlaw10_same: function 10 -/
def colophonlaw10_same.l0 : Nat → List (S35) → List (S35) → Int → Option (Bool)
 | 0, _, _, _ => none
 | k + 1, x0, x1, x5 => if x5 < (x0.length : Int) then (if 0 ≤ x5 then (if x5 < (x1.length : Int) then (if (!(((rd_T35 x0 x5).f0) == ((rd_T35 x1 x5).f0)) || (!((((rd_T35 x0 x5).f1).toList) == (((rd_T35 x1 x5).f1).toList)) || ((!(((rd_T35 x0 x5).f2.f0) == ((rd_T35 x1 x5).f2.f0)) || (!(((rd_T35 x0 x5).f2.f1) == ((rd_T35 x1 x5).f2.f1)) || (!(((rd_T35 x0 x5).f2.f2) == ((rd_T35 x1 x5).f2.f2))))) || (!(((rd_T35 x0 x5).f3) == ((rd_T35 x1 x5).f3)))))) = true then (some false) else (colophonlaw10_same.l0 k x0 x1 (wrap64 (x5 + 1)))) else (none)) else (none)) else (some true)
def colophonlaw10_same.f (k : Nat) (l0 : List (S35)) (l1 : List (S35)) : Option (Bool) := if (l0.length : Int) = (l1.length : Int) then (colophonlaw10_same.l0 k l0 l1 0) else (some false)
theorem colophonlaw10_same.mono_l : ∀ k, (∀ y0 y1 y2, LeO (colophonlaw10_same.l0 k y0 y1 y2) (colophonlaw10_same.l0 (k + 1) y0 y1 y2))
 | 0 => fun _ _ _ r h => by simp [colophonlaw10_same.l0] at h
 | k + 1 => by
  have ih0 := colophonlaw10_same.mono_l k
  ·intro y0 y1 y2
   unfold colophonlaw10_same.l0
   repeat' first
   | (with_reducible exact ih0 _ _ _)
   | (with_reducible exact LeO.refl _)
   | (with_reducible exact LeO.none _)
   | (with_reducible refine LeO.ite ?_ ?_)
   | (with_reducible refine LeO.bind ?_ (fun _ => ?_))
   | exact ih0 _ _ _
   | exact LeO.none _
   | refine LeO.ite ?_ ?_
   | refine LeO.bind ?_ (fun _ => ?_)
theorem colophonlaw10_same.mono : ∀ a0 a1 k, LeO (colophonlaw10_same.f k a0 a1) (colophonlaw10_same.f (k + 1) a0 a1) := by
 intro a0 a1 k
 have ih0 := colophonlaw10_same.mono_l k
 unfold colophonlaw10_same.f
 repeat' first
   | (with_reducible exact ih0 _ _ _)
   | (with_reducible exact LeO.refl _)
   | (with_reducible exact LeO.none _)
   | (with_reducible refine LeO.ite ?_ ?_)
   | (with_reducible refine LeO.bind ?_ (fun _ => ?_))
   | exact ih0 _ _ _
   | exact LeO.none _
   | refine LeO.ite ?_ ?_
   | refine LeO.bind ?_ (fun _ => ?_)
set_option maxHeartbeats 8000000 in
set_option maxRecDepth 100000 in
theorem colophonlaw10_same.calls (k : Nat) (A0 : Option Addr) (c0 : Nat) (l0 : List (S35)) (A1 : Option Addr) (c1 : Nat) (l1 : List (S35)) (r : Bool) (w : World) (hr0 : Kd.C k35 w A0 l0.length l0) (hc0 : l0.length ≤ c0) (hr1 : Kd.C k35 w A1 l1.length l1) (hc1 : l1.length ≤ c1) (h : colophonlaw10_same.f k l0 l1 = some r) :
  Calls Tryd.prog 10 #[.slice A0 l0.length c0, .slice A1 l1.length c1] w fun e w' => e = .returned (.bool r) ∧ Drawn0 w w' := by
 have hu35 := Tryd.underlying35
 have HR0 := Aside0.mk hr0
 have HC0 := Aside0.mk hc0
 clear hr0 hc0
 have HR1 := Aside0.mk hr1
 have HC1 := Aside0.mk hc1
 clear hr1 hc1
 have H : (if (l0.length : Int) = (l1.length : Int) then (colophonlaw10_same.l0 k l0 l1 0) else (some false)) = some r := h
 clear h
 by_cases c3 : (l0.length : Int) = (l1.length : Int)
 ·rw [if_pos c3] at H
  have c3b0 : ((l0.length : Int) == (l1.length : Int)) = true := beq_iff_eq.mpr c3
  have c3b1 : ((l0.length : Int) != (l1.length : Int)) = false := bne_eq_false_iff_eq.mpr c3
  have c3b2 : (l0.length == l1.length) = true := by first|simpa using c3|(simp at c3 ⊢; omega)
  clear c3
  have H' := Aside0.mk H
  clear H
  go_enter Tryd.func10, Tryd.ntmps10
  go_wp2
  repeat (go_quiet (fail); try go_wp2)
  go_loopg [5] k (fun kq v5 w' => ∃ (x5_1 : Int), v5 = .int .i64 x5_1 ∧ Aside0 (colophonlaw10_same.l0 kq l0 l1 x5_1 = some r) ∧ Aside0 (kq ≤ k) ∧ Drawn0 w w')
  case atStart => exact ⟨(0), (by first|rfl|(simp; done)|(simp [*]; done)), H', ⟨Nat.le_refl _⟩, by repeat (first|exact Drawn0.refl _|apply Drawn0.step)⟩
  case round =>
   clear H'
   try clear c1
   try clear p2
   try clear c3
   try clear c3b0
   try clear c3b1
   try clear c3b2
   obtain ⟨x5_1, rfl, HA, HK1, ⟨m1, rfl⟩⟩ := hrel
   cases gk with
   | zero => exact absurd HA.out (by simp [colophonlaw10_same.l0])
   | succ k1 =>
    have H := HA.out
    clear HA
    simp only [colophonlaw10_same.l0] at H
    by_cases c4 : x5_1 < (l0.length : Int)
    ·rw [if_pos c4] at H
     have c4b0 : decide (x5_1 < (l0.length : Int)) = true := decide_eq_true c4
     clear c4
     by_cases c5 : 0 ≤ x5_1
     ·rw [if_pos c5] at H
      have c5b0 : decide (0 ≤ x5_1) = true := decide_eq_true c5
      clear c5
      by_cases c6 : x5_1 < (l1.length : Int)
      ·rw [if_pos c6] at H
       have c6b0 : decide (x5_1 < (l1.length : Int)) = true := decide_eq_true c6
       clear c6
       by_cases c7 : (!(((rd_T35 l0 x5_1).f0) == ((rd_T35 l1 x5_1).f0)) || (!((((rd_T35 l0 x5_1).f1).toList) == (((rd_T35 l1 x5_1).f1).toList)) || ((!(((rd_T35 l0 x5_1).f2.f0) == ((rd_T35 l1 x5_1).f2.f0)) || (!(((rd_T35 l0 x5_1).f2.f1) == ((rd_T35 l1 x5_1).f2.f1)) || (!(((rd_T35 l0 x5_1).f2.f2) == ((rd_T35 l1 x5_1).f2.f2))))) || (!(((rd_T35 l0 x5_1).f3) == ((rd_T35 l1 x5_1).f3)))))) = true
       ·rw [if_pos c7] at H
        have c7b0 : (!(((rd_T35 l0 x5_1).f0) == ((rd_T35 l1 x5_1).f0)) || (!((((rd_T35 l0 x5_1).f1).toList) == (((rd_T35 l1 x5_1).f1).toList)) || ((!(((rd_T35 l0 x5_1).f2.f0) == ((rd_T35 l1 x5_1).f2.f0)) || (!(((rd_T35 l0 x5_1).f2.f1) == ((rd_T35 l1 x5_1).f2.f1)) || (!(((rd_T35 l0 x5_1).f2.f2) == ((rd_T35 l1 x5_1).f2.f2))))) || (!(((rd_T35 l0 x5_1).f3) == ((rd_T35 l1 x5_1).f3)))))) = true := c7
        clear c7
        obtain rfl := Option.some.inj H
        have p101 : 0 ≤ (x5_1 : Int) := of_decide_eq_true (by first|(with_reducible assumption)|assumption)
        have q101 : x5_1 < (l0.length : Int) := of_decide_eq_true (by first|(with_reducible assumption)|assumption)
        obtain ⟨ad101, e101, hx101_0, hx101_1, hx101_2, hx101_3, hx101_4, hx101_5⟩ := at_T35 HR0.out x5_1 p101 q101
        cases e101
        replace p101 := eq_true p101
        replace q101 := eq_true q101
        have p102 : 0 ≤ (x5_1 : Int) := of_decide_eq_true (by first|(with_reducible assumption)|assumption)
        have q102 : x5_1 < (l1.length : Int) := of_decide_eq_true (by first|(with_reducible assumption)|assumption)
        obtain ⟨ad102, e102, hx102_0, hx102_1, hx102_2, hx102_3, hx102_4, hx102_5⟩ := at_T35 HR1.out x5_1 p102 q102
        cases e102
        replace p102 := eq_true p102
        replace q102 := eq_true q102
        go_wp2
        repeat (go_quiet (fail); try go_wp2)
        go_ret
        exact ⟨by first|rfl|(simp; done)|(simp [*]; done), by repeat (first|exact Drawn0.refl _|apply Drawn0.step)⟩
       ·rw [if_neg c7] at H
        have c7b0 : (!(((rd_T35 l0 x5_1).f0) == ((rd_T35 l1 x5_1).f0)) || (!((((rd_T35 l0 x5_1).f1).toList) == (((rd_T35 l1 x5_1).f1).toList)) || ((!(((rd_T35 l0 x5_1).f2.f0) == ((rd_T35 l1 x5_1).f2.f0)) || (!(((rd_T35 l0 x5_1).f2.f1) == ((rd_T35 l1 x5_1).f2.f1)) || (!(((rd_T35 l0 x5_1).f2.f2) == ((rd_T35 l1 x5_1).f2.f2))))) || (!(((rd_T35 l0 x5_1).f3) == ((rd_T35 l1 x5_1).f3)))))) = false := by simpa using c7
        clear c7
        have H' := Aside0.mk H
        clear H
        have p101 : 0 ≤ (x5_1 : Int) := of_decide_eq_true (by first|(with_reducible assumption)|assumption)
        have q101 : x5_1 < (l0.length : Int) := of_decide_eq_true (by first|(with_reducible assumption)|assumption)
        obtain ⟨ad101, e101, hx101_0, hx101_1, hx101_2, hx101_3, hx101_4, hx101_5⟩ := at_T35 HR0.out x5_1 p101 q101
        cases e101
        replace p101 := eq_true p101
        replace q101 := eq_true q101
        have p102 : 0 ≤ (x5_1 : Int) := of_decide_eq_true (by first|(with_reducible assumption)|assumption)
        have q102 : x5_1 < (l1.length : Int) := of_decide_eq_true (by first|(with_reducible assumption)|assumption)
        obtain ⟨ad102, e102, hx102_0, hx102_1, hx102_2, hx102_3, hx102_4, hx102_5⟩ := at_T35 HR1.out x5_1 p102 q102
        cases e102
        replace p102 := eq_true p102
        replace q102 := eq_true q102
        go_wp2
        repeat (go_quiet (fail); try go_wp2)
        go_roundg k1
        case measure => have := HK1.out; omega
        case rel => exact ⟨(wrap64 (x5_1 + 1)), (by first|rfl|(simp; done)|(simp [*]; done)), H', ⟨by have := HK1.out; omega⟩, by repeat (first|exact Drawn0.refl _|apply Drawn0.step)⟩
      ·rw [if_neg c6] at H
       exact absurd H (by simp)
     ·rw [if_neg c5] at H
      exact absurd H (by simp)
    ·rw [if_neg c4] at H
     have c4b0 : decide (x5_1 < (l0.length : Int)) = false := decide_eq_false c4
     clear c4
     obtain rfl := Option.some.inj H
     go_wp2
     repeat (go_quiet (fail); try go_wp2)
     go_ret
     exact ⟨by first|rfl|(simp; done)|(simp [*]; done), by repeat (first|exact Drawn0.refl _|apply Drawn0.step)⟩
 ·rw [if_neg c3] at H
  have c3b0 : ((l0.length : Int) == (l1.length : Int)) = false := beq_eq_false_iff_ne.mpr c3
  have c3b1 : ((l0.length : Int) != (l1.length : Int)) = true := bne_iff_ne.mpr c3
  have c3b2 : (l0.length == l1.length) = false := by first|simpa using c3|(simp at c3 ⊢; omega)
  obtain rfl := Option.some.inj H
  go_enter Tryd.func10, Tryd.ntmps10
  go_wp2
  repeat (go_quiet (fail); try go_wp2)
  go_ret
  exact ⟨by first|rfl|(simp; done)|(simp [*]; done), by repeat (first|exact Drawn0.refl _|apply Drawn0.step)⟩
/-! ### colophonlaw10_awake: function 7 -/
def colophonlaw10_awake.f (k : Nat)  : Option (Bool) := (scan_All.f (⟨#[97, 49, 32, 58, 61, 10, 39, 98, 39]⟩ : ByteArray)).bind fun bt103 => ((colophonlaw10_same.f k bt103.1 (([(⟨1, (⟨#[97, 49]⟩ : ByteArray), (⟨0, 1, 1⟩ : S26), 0⟩ : S35), (⟨6, (⟨#[58, 61]⟩ : ByteArray), (⟨3, 1, 4⟩ : S26), 0⟩ : S35), (⟨5, (⟨#[39, 98, 39]⟩ : ByteArray), (⟨6, 2, 1⟩ : S26), 1⟩ : S35)] : List (S35)))).bind fun t114 => ((scan_All.f (⟨#[97, 10, 32, 63]⟩ : ByteArray)).bind fun bt115 => (if t114 = true then (if bt103.2.1 = 0 then (if (bt103.2.2.1 == 0 && (bt103.2.2.2.1 == 0 && (bt103.2.2.2.2 == 0))) = true then (if (bt115.1.length : Int) = 1 then (if bt115.2.1 = 100 then (some (bt115.2.2.1 == 3 && (bt115.2.2.2.1 == 2 && (bt115.2.2.2.2 == 2)))) else (some false)) else (some false)) else (some false)) else (some false)) else (some false))))
theorem colophonlaw10_awake.mono : ∀ k, LeO (colophonlaw10_awake.f k ) (colophonlaw10_awake.f (k + 1) ) := by
 intro  k
 unfold colophonlaw10_awake.f
 repeat' first
   | (with_reducible exact colophonlaw10_same.mono _ _ _)
   | (with_reducible exact LeO.refl _)
   | (with_reducible exact LeO.none _)
   | (with_reducible refine LeO.ite ?_ ?_)
   | (with_reducible refine LeO.bind ?_ (fun _ => ?_))
   | exact colophonlaw10_same.mono _ _ _
   | exact LeO.none _
   | refine LeO.ite ?_ ?_
   | refine LeO.bind ?_ (fun _ => ?_)
set_option maxHeartbeats 8000000 in
set_option maxRecDepth 100000 in
theorem colophonlaw10_awake.calls (k : Nat)  (r : Bool) (w : World) (hLW : LW w) (h : colophonlaw10_awake.f k  = some r) :
  Calls Tryd.prog 7 #[] w fun e w' => e = .returned (.bool r) ∧ Below w.heap.size w w' := by
 have hu26 := Tryd.underlying26
 have hu35 := Tryd.underlying35
 have HB := Aside0.mk (Below.refl w.heap.size w)
 have HLW := Aside0.mk hLW
 clear hLW
 have H : ((scan_All.f (⟨#[97, 49, 32, 58, 61, 10, 39, 98, 39]⟩ : ByteArray)).bind fun bt103 => ((colophonlaw10_same.f k bt103.1 (([(⟨1, (⟨#[97, 49]⟩ : ByteArray), (⟨0, 1, 1⟩ : S26), 0⟩ : S35), (⟨6, (⟨#[58, 61]⟩ : ByteArray), (⟨3, 1, 4⟩ : S26), 0⟩ : S35), (⟨5, (⟨#[39, 98, 39]⟩ : ByteArray), (⟨6, 2, 1⟩ : S26), 1⟩ : S35)] : List (S35)))).bind fun t114 => ((scan_All.f (⟨#[97, 10, 32, 63]⟩ : ByteArray)).bind fun bt115 => (if t114 = true then (if bt103.2.1 = 0 then (if (bt103.2.2.1 == 0 && (bt103.2.2.2.1 == 0 && (bt103.2.2.2.2 == 0))) = true then (if (bt115.1.length : Int) = 1 then (if bt115.2.1 = 100 then (some (bt115.2.2.1 == 3 && (bt115.2.2.2.1 == 2 && (bt115.2.2.2.2 == 2)))) else (some false)) else (some false)) else (some false)) else (some false)) else (some false))))) = some r := h
 clear h
 replace H := Option.bind_eq_some_iff.mp H
 obtain ⟨⟨t103, t106, t107, t108, t109⟩, A10, H⟩ := H
 replace H : ((colophonlaw10_same.f k t103 (([(⟨1, (⟨#[97, 49]⟩ : ByteArray), (⟨0, 1, 1⟩ : S26), 0⟩ : S35), (⟨6, (⟨#[58, 61]⟩ : ByteArray), (⟨3, 1, 4⟩ : S26), 0⟩ : S35), (⟨5, (⟨#[39, 98, 39]⟩ : ByteArray), (⟨6, 2, 1⟩ : S26), 1⟩ : S35)] : List (S35)))).bind fun t114 => ((scan_All.f (⟨#[97, 10, 32, 63]⟩ : ByteArray)).bind fun bt115 => (if t114 = true then (if t106 = 0 then (if (t107 == 0 && (t108 == 0 && (t109 == 0))) = true then (if (bt115.1.length : Int) = 1 then (if bt115.2.1 = 100 then (some (bt115.2.2.1 == 3 && (bt115.2.2.2.1 == 2 && (bt115.2.2.2.2 == 2)))) else (some false)) else (some false)) else (some false)) else (some false)) else (some false)))) = some r := H
 have A1 := Aside0.mk A10
 clear A10
 obtain ⟨y111, hy111⟩ : ∃ y_ : List (S35), y_ = (([(⟨1, (⟨#[97, 49]⟩ : ByteArray), (⟨0, 1, 1⟩ : S26), 0⟩ : S35), (⟨6, (⟨#[58, 61]⟩ : ByteArray), (⟨3, 1, 4⟩ : S26), 0⟩ : S35), (⟨5, (⟨#[39, 98, 39]⟩ : ByteArray), (⟨6, 2, 1⟩ : S26), 1⟩ : S35)] : List (S35))) := ⟨_, rfl⟩
 replace H : ((colophonlaw10_same.f k t103 y111).bind fun t114 => ((scan_All.f (⟨#[97, 10, 32, 63]⟩ : ByteArray)).bind fun bt115 => (if t114 = true then (if t106 = 0 then (if (t107 == 0 && (t108 == 0 && (t109 == 0))) = true then (if (bt115.1.length : Int) = 1 then (if bt115.2.1 = 100 then (some (bt115.2.2.1 == 3 && (bt115.2.2.2.1 == 2 && (bt115.2.2.2.2 == 2)))) else (some false)) else (some false)) else (some false)) else (some false)) else (some false)))) = some r := by first|(rw [hy111]; with_reducible exact H)|(have H2_ := (Option.bind_some _ _).symm.trans H; rw [hy111]; with_reducible exact H2_)|(have H2_ := (Option.bind_some _ _).symm.trans H; with_reducible exact H2_)|with_reducible exact H|(rw [hy111]; exact H)|exact H
 have Ny111 := Aside0.mk hy111
 clear hy111
 replace H := Option.bind_eq_some_iff.mp H
 obtain ⟨t114, A20, H⟩ := H
 replace H : ((scan_All.f (⟨#[97, 10, 32, 63]⟩ : ByteArray)).bind fun bt115 => (if t114 = true then (if t106 = 0 then (if (t107 == 0 && (t108 == 0 && (t109 == 0))) = true then (if (bt115.1.length : Int) = 1 then (if bt115.2.1 = 100 then (some (bt115.2.2.1 == 3 && (bt115.2.2.2.1 == 2 && (bt115.2.2.2.2 == 2)))) else (some false)) else (some false)) else (some false)) else (some false)) else (some false))) = some r := H
 have A2 := Aside0.mk A20
 clear A20
 replace H := Option.bind_eq_some_iff.mp H
 obtain ⟨⟨t115, t118, t119, t120, t121⟩, A30, H⟩ := H
 replace H : (if t114 = true then (if t106 = 0 then (if (t107 == 0 && (t108 == 0 && (t109 == 0))) = true then (if (t115.length : Int) = 1 then (if t118 = 100 then (some (t119 == 3 && (t120 == 2 && (t121 == 2)))) else (some false)) else (some false)) else (some false)) else (some false)) else (some false)) = some r := H
 have A3 := Aside0.mk A30
 clear A30
 by_cases c4 : t114 = true
 ·subst c4
  have H1 : (if t106 = 0 then (if (t107 == 0 && (t108 == 0 && (t109 == 0))) = true then (if (t115.length : Int) = 1 then (if t118 = 100 then (some (t119 == 3 && (t120 == 2 && (t121 == 2)))) else (some false)) else (some false)) else (some false)) else (some false)) = some r := by rw [if_pos rfl] at H; exact H
  clear H
  have H := H1
  clear H1
  by_cases c5 : t106 = 0
  ·rw [if_pos c5] at H
   have c5b0 : (t106 == 0) = true := beq_iff_eq.mpr c5
   have c5b1 : (t106 != 0) = false := bne_eq_false_iff_eq.mpr c5
   clear c5
   by_cases c6 : (t107 == 0 && (t108 == 0 && (t109 == 0))) = true
   ·rw [if_pos c6] at H
    have c6b0 : (t107 == 0 && (t108 == 0 && (t109 == 0))) = true := c6
    (try (have c6b1 : decide (t107 = 0 && (t108 == 0 && (t109 == 0))) = true := by simpa using c6))
    (try (have c6b2 : (t107 == 0 && (t108 == 0 && (t109 == 0))) = true := by simpa using c6))
    clear c6
    by_cases c7 : (t115.length : Int) = 1
    ·rw [if_pos c7] at H
     have c7b0 : ((t115.length : Int) == 1) = true := beq_iff_eq.mpr c7
     have c7b1 : ((t115.length : Int) != 1) = false := bne_eq_false_iff_eq.mpr c7
     clear c7
     by_cases c8 : t118 = 100
     ·rw [if_pos c8] at H
      have c8b0 : (t118 == 100) = true := beq_iff_eq.mpr c8
      have c8b1 : (t118 != 100) = false := bne_eq_false_iff_eq.mpr c8
      clear c8
      obtain rfl := Option.some.inj H
      go_enter Tryd.func7, Tryd.ntmps7
      go_wp2_with (first|((with_reducible refine gate_callee (f:=8) rfl ?_);refine goesL_ (some 10) rfl rfl Tryd.func8 (by kernel_rfl) rfl #[.string (⟨#[97,49,32,58,61,10,39,98,39]⟩ : ByteArray)] rfl (by (try simp only [List.map_toArray,List.map_cons,List.map_nil]);first|done|rfl|(simp only [List.length_drop,List.length_take];rfl)) ?_;(with_reducible refine (scan_All.calls (⟨#[97,49,32,58,61,10,39,98,39]⟩ : ByteArray) t103 t106 t107 t108 t109 _ ?side1 A1.out).mono ?_);(case side1 => exact LW.below HLW.out (by repeat (first|(with_reducible first|exact HB.out|apply below_alloc|apply pw_below_drewN|apply below_drew1)|exact HB.out)));rintro e w9 ⟨v104,rfl,ho0,hb⟩;refine ⟨_,rfl,?_⟩;have n0_:=Aside0.mk (Kd.R_lower ho0 (below_size (by repeat (first|(with_reducible first|exact HB.out|apply below_alloc|apply pw_below_drewN|apply below_drew1)|exact HB.out))));have n1_:=Aside0.mk (below_step (by repeat (first|(with_reducible first|exact HB.out|apply below_alloc|apply pw_below_drewN|apply below_drew1)|exact HB.out)) hb);clear HB;have HO105:=n0_;have HB:=n1_;clear n0_ n1_;(try clear hb);(try clear hb2);(try clear hk);(try clear hi);(try clear ho0))|((with_reducible refine gate_dst (N:=3) rfl ?_);(try (refine gate_guard (by rfl) ?_;dsimp only));refine box_event ?hg (N:=3) ?hd (cs:=#[.int .i64 0,.int .i64 0,.int .i64 0]) (t:=26) ?hr ?_;(case hd => rfl);(case hg => rfl);(case hr => first|(go_simp;done)|(go_simp;rfl));intro gb110 hg w10 hbox hb;have n0_:=Aside0.mk (Kd.R_below (by (with_reducible repeat (first|apply Kd.R_alloc|apply Kd.R_drewN|apply Kd.R_drew));exact HO105.out) hb);have n1_:=Aside0.mk (below_step (by repeat (first|(with_reducible first|exact HB.out|apply below_alloc|apply pw_below_drewN|apply below_drew1)|exact HB.out)) hb);have n2_:=Aside0.mk (hbox);have n3_:=Aside0.mk ((by rw [hg];exact (below_size (by repeat (first|(with_reducible first|exact HB.out|apply below_alloc|apply pw_below_drewN|apply below_drew1)|exact HB.out))) : w.heap.size ≤ gb110));have n4_:=Aside0.mk ((by rw [hg];exact (below_size (by repeat (first|(with_reducible first|exact HB.out|apply below_alloc|apply pw_below_drewN|apply below_drew1)|exact HB.out))) : w.heap.size ≤ gb110));clear HO105;clear HB;have HO105:=n0_;have HB:=n1_;have BK110:=n2_;have GW110:=n3_;have GE110:=n4_;clear n0_ n1_ n2_ n3_ n4_;clear hb hbox hg;have hcz11_0 : w10.cell? ⟨gb110,0,none⟩ = some (.int .i64 0):=(blk_cell BK110.out 0).trans rfl;have hcz11_1 : w10.cell? ⟨gb110,1,none⟩ = some (.int .i64 0):=(blk_cell BK110.out 1).trans rfl;have hcz11_2 : w10.cell? ⟨gb110,2,none⟩ = some (.int .i64 0):=(blk_cell BK110.out 2).trans rfl;have hfz11_0:=blk_frozen BK110.out 0;have hfz11_1:=blk_frozen BK110.out 1;have hfz11_2:=blk_frozen BK110.out 2)|((with_reducible refine gate_dst (N:=20) rfl ?_);(try (refine gate_guard (by rfl) ?_;dsimp only));refine Kd.R_lit k35 _ 35 ?hg (N:=20) ?hd (xs:=([(⟨1,(⟨#[97,49]⟩ : ByteArray),(⟨0,1,1⟩ : S26),0⟩ : S35),(⟨6,(⟨#[58,61]⟩ : ByteArray),(⟨3,1,4⟩ : S26),0⟩ : S35),(⟨5,(⟨#[39,98,39]⟩ : ByteArray),(⟨6,2,1⟩ : S26),1⟩ : S35)] : List (S35))) (inner:=[.int .u8 1,.string (⟨#[97,49]⟩ : ByteArray),.int .i64 0,.int .i64 1,.int .i64 1,.int .i64 0,.int .u8 6,.string (⟨#[58,61]⟩ : ByteArray),.int .i64 3,.int .i64 1,.int .i64 4,.int .i64 0,.int .u8 5,.string (⟨#[39,98,39]⟩ : ByteArray),.int .i64 6,.int .i64 2,.int .i64 1,.int .i64 1]) (ok:=fun _ => True) (okp:=fun _ => True) ?hr ?hp (fun _ hk => hk) trivial (Below.refl _ _) (Nat.le_refl _) (by simp) ?_;(case hd => rfl);(case hg => rfl);(case hr => first|(go_simp;done)|(go_simp;rfl));(case hp => exact (Reps.c6 (show Kd.M k35 _ _ _ (⟨1,(⟨#[97,49]⟩ : ByteArray),(⟨0,1,1⟩ : S26),0⟩ : S35) [.int .u8 1,.string (⟨#[97,49]⟩ : ByteArray),.int .i64 0,.int .i64 1,.int .i64 1,.int .i64 0] from (k35_mkM _ _ _ (⟨1,(⟨#[97,49]⟩ : ByteArray),(⟨0,1,1⟩ : S26),0⟩ : S35) )) (Reps.c6 (show Kd.M k35 _ _ _ (⟨6,(⟨#[58,61]⟩ : ByteArray),(⟨3,1,4⟩ : S26),0⟩ : S35) [.int .u8 6,.string (⟨#[58,61]⟩ : ByteArray),.int .i64 3,.int .i64 1,.int .i64 4,.int .i64 0] from (k35_mkM _ _ _ (⟨6,(⟨#[58,61]⟩ : ByteArray),(⟨3,1,4⟩ : S26),0⟩ : S35) )) (Reps.c6 (show Kd.M k35 _ _ _ (⟨5,(⟨#[39,98,39]⟩ : ByteArray),(⟨6,2,1⟩ : S26),1⟩ : S35) [.int .u8 5,.string (⟨#[39,98,39]⟩ : ByteArray),.int .i64 6,.int .i64 2,.int .i64 1,.int .i64 1] from (k35_mkM _ _ _ (⟨5,(⟨#[39,98,39]⟩ : ByteArray),(⟨6,2,1⟩ : S26),1⟩ : S35) )) (Reps.none _ _)))));intro v112 w12 ho13 hb hg_ hnew_;clear hg_ hnew_;(first|rw [← Ny111.out] at ho13|(simp only [Int.reduceToNat] at ho13;rw [← Ny111.out] at ho13));have n0_:=Aside0.mk (Kd.R_elder' (by (with_reducible repeat (first|apply Kd.R_alloc|apply Kd.R_drewN|apply Kd.R_drew));exact (Kd.R_mono (Kd.R_far (p:=⟨gb110,2,none⟩) (Kd.R_far (p:=⟨gb110,1,none⟩) (Kd.R_far (p:=⟨gb110,0,none⟩) (Kd.R_types HO105.out BK110.out (by decide)) (fun _ hk => hk.2) (.int .i64 t107)) (fun _ hk => hk.2) (.int .i64 t108)) (fun _ hk => hk.2) (.int .i64 t109)) (fun _ h_ => h_.1))) (Kd.R_base ho13) hb);have n1_:=Aside0.mk (Kd.R_lower (Kd.R_new' ho13 (Kd.R_lt (by (with_reducible repeat (first|apply Kd.R_alloc|apply Kd.R_drewN|apply Kd.R_drew));exact (Kd.R_mono (Kd.R_far (p:=⟨gb110,2,none⟩) (Kd.R_far (p:=⟨gb110,1,none⟩) (Kd.R_far (p:=⟨gb110,0,none⟩) (Kd.R_types HO105.out BK110.out (by decide)) (fun _ hk => hk.2) (.int .i64 t107)) (fun _ hk => hk.2) (.int .i64 t108)) (fun _ hk => hk.2) (.int .i64 t109)) (fun _ h_ => h_.1))))) (below_size (by repeat (first|(with_reducible first|exact HB.out|apply below_alloc|apply pw_below_drewN|apply below_drew1|refine below_set ?_ GE110.out)|exact HB.out))));have n2_:=Aside0.mk (blk_below (g:=gb110) (o:=.cells #[.int .i64 t107,.int .i64 t108,.int .i64 t109] 26 (0,0)) (by (with_reducible repeat (first|refine blk_drewN ?_ _|refine blk_drew ?_|refine blk_alloc ?_ _));refine blk_put (cs:=#[.int .i64 t107,.int .i64 t108,.int .i64 0]) ?_ 2 _ rfl;(with_reducible repeat (first|refine blk_drewN ?_ _|refine blk_drew ?_|refine blk_alloc ?_ _));refine blk_put (cs:=#[.int .i64 t107,.int .i64 0,.int .i64 0]) ?_ 1 _ rfl;(with_reducible repeat (first|refine blk_drewN ?_ _|refine blk_drew ?_|refine blk_alloc ?_ _));refine blk_put (cs:=#[.int .i64 0,.int .i64 0,.int .i64 0]) ?_ 0 _ rfl;(with_reducible repeat (first|refine blk_drewN ?_ _|refine blk_drew ?_|refine blk_alloc ?_ _));exact BK110.out) hb);have n3_:=Aside0.mk (below_step (by repeat (first|(with_reducible first|exact HB.out|apply below_alloc|apply pw_below_drewN|apply below_drew1|refine below_set ?_ GE110.out)|exact HB.out)) hb);clear HO105;clear BK110;clear HB;have HO105:=n0_;have HO113:=n1_;have BK110:=n2_;have HB:=n3_;clear n0_ n1_ n2_ n3_;clear hb ho13;obtain ⟨Ao14,co14,eo14⟩:=Kd.R_slice HO105.out;subst eo14;obtain ⟨Ao15,co15,eo15⟩:=Kd.R_slice HO113.out;subst eo15)|((with_reducible refine gate_callee (f:=10) rfl ?_);refine goesL_ (some 23) rfl rfl Tryd.func10 (by kernel_rfl) rfl #[.slice Ao14 t103.length co14,.slice Ao15 y111.length co15] rfl (by (try simp only [List.map_toArray,List.map_cons,List.map_nil]);first|done|rfl|(simp only [List.length_drop,List.length_take];rfl)) ?_;(with_reducible refine (colophonlaw10_same.calls k _ _ t103 _ _ y111 true _ ?side1 ?side2 ?side3 ?side4 A2.out).mono ?_);(case side1 => repeat (first|exact (Kd.R_reads' HO105.out).2.2|(with_reducible refine Kd.C_alloc ?_ _)|(with_reducible refine Kd.C_drewN ?_ _)|(with_reducible refine Kd.C_drew ?_)));(case side2 => exact (Kd.R_reads' HO105.out).2.1);(case side3 => repeat (first|exact (Kd.R_reads' HO113.out).2.2|(with_reducible refine Kd.C_alloc ?_ _)|(with_reducible refine Kd.C_drewN ?_ _)|(with_reducible refine Kd.C_drew ?_)));(case side4 => exact (Kd.R_reads' HO113.out).2.1);rintro e w' ⟨rfl,⟨nd,rfl⟩⟩;refine ⟨_,rfl,?_⟩;(try (rw [drewN_self w12];generalize hq_ : World.drewN w12 _ = w12;have n0_ : Aside0 (Kd.R k35 35 w12 w.heap.size (fun k_ => some k_ ≠ (.slice Ao15 y111.length co15 : Value).ownBlock) (.slice Ao14 t103.length co14) t103):=⟨by rw [← hq_];exact (by (with_reducible repeat (first|apply Kd.R_alloc|apply Kd.R_drewN|apply Kd.R_drew));exact Kd.R_mono HO105.out (fun _ hk => hk.2))⟩;have n1_ : Aside0 (Kd.R k35 35 w12 w.heap.size (fun k_ => some k_ ≠ (.slice Ao14 t103.length co14 : Value).ownBlock) (.slice Ao15 y111.length co15) y111):=⟨by rw [← hq_];exact (by (with_reducible repeat (first|apply Kd.R_alloc|apply Kd.R_drewN|apply Kd.R_drew));exact Kd.R_mono HO113.out (fun _ hk => hk.2))⟩;have n2_ : Aside0 (w12.heap[gb110]? = some (.cells #[.int .i64 t107,.int .i64 t108,.int .i64 t109] 26 (0,0))):=⟨by rw [← hq_];exact (by (with_reducible repeat (first|refine blk_drewN ?_ _|refine blk_drew ?_|refine blk_alloc ?_ _));exact BK110.out)⟩;have n3_ : Aside0 (Below w.heap.size w w12):=⟨by rw [← hq_];exact (by repeat (first|(with_reducible first|exact HB.out|apply below_alloc|apply pw_below_drewN|apply below_drew1|refine below_set ?_ GE110.out)|exact HB.out))⟩;clear HO105 HO113 BK110 HB hq_;have HO105:=n0_;have HO113:=n1_;have BK110:=n2_;have HB:=n3_;clear n0_ n1_ n2_ n3_)))|((with_reducible refine gate_callee (f:=8) rfl ?_);refine goesL_ (some 25) rfl rfl Tryd.func8 (by kernel_rfl) rfl #[.string (⟨#[97,10,32,63]⟩ : ByteArray)] rfl (by (try simp only [List.map_toArray,List.map_cons,List.map_nil]);first|done|rfl|(simp only [List.length_drop,List.length_take];rfl)) ?_;(with_reducible refine (scan_All.calls (⟨#[97,10,32,63]⟩ : ByteArray) t115 t118 t119 t120 t121 _ ?side1 A3.out).mono ?_);(case side1 => exact LW.below HLW.out (by repeat (first|(with_reducible first|exact HB.out|apply below_alloc|apply pw_below_drewN|apply below_drew1|refine below_set ?_ GE110.out)|exact HB.out)));rintro e w16 ⟨v116,rfl,ho0,hb⟩;refine ⟨_,rfl,?_⟩;have n0_:=Aside0.mk (Kd.R_elder' (by (with_reducible repeat (first|apply Kd.R_alloc|apply Kd.R_drewN|apply Kd.R_drew));exact HO105.out) (Kd.R_base ho0) hb);have n1_:=Aside0.mk (Kd.R_elder' (by (with_reducible repeat (first|apply Kd.R_alloc|apply Kd.R_drewN|apply Kd.R_drew));exact HO113.out) (Kd.R_base ho0) hb);have n2_:=Aside0.mk (Kd.R_lower (Kd.R_new' (Kd.R_new' ho0 (Kd.R_lt (by (with_reducible repeat (first|apply Kd.R_alloc|apply Kd.R_drewN|apply Kd.R_drew));exact HO105.out))) (Kd.R_lt (by (with_reducible repeat (first|apply Kd.R_alloc|apply Kd.R_drewN|apply Kd.R_drew));exact HO113.out))) (below_size (by repeat (first|(with_reducible first|exact HB.out|apply below_alloc|apply pw_below_drewN|apply below_drew1|refine below_set ?_ GE110.out)|exact HB.out))));have n3_:=Aside0.mk (blk_below (g:=gb110) (o:=.cells #[.int .i64 t107,.int .i64 t108,.int .i64 t109] 26 (0,0)) (by (with_reducible repeat (first|refine blk_drewN ?_ _|refine blk_drew ?_|refine blk_alloc ?_ _));exact BK110.out) hb);have n4_:=Aside0.mk (below_step (by repeat (first|(with_reducible first|exact HB.out|apply below_alloc|apply pw_below_drewN|apply below_drew1|refine below_set ?_ GE110.out)|exact HB.out)) hb);clear HO105;clear HO113;clear BK110;clear HB;have HO105:=n0_;have HO113:=n1_;have HO117:=n2_;have BK110:=n3_;have HB:=n4_;clear n0_ n1_ n2_ n3_ n4_;(try clear hb);(try clear hb2);(try clear hk);(try clear hi);(try clear ho0))|((with_reducible refine gate_dst (N:=8) rfl ?_);(try (refine gate_guard (by rfl) ?_;dsimp only));refine box_event ?hg (N:=8) ?hd (cs:=#[.int .i64 0,.int .i64 0,.int .i64 0]) (t:=26) ?hr ?_;(case hd => rfl);(case hg => rfl);(case hr => first|(go_simp;done)|(go_simp;rfl));intro gb122 hg w17 hbox hb;have n0_:=Aside0.mk (Kd.R_below (by (with_reducible repeat (first|apply Kd.R_alloc|apply Kd.R_drewN|apply Kd.R_drew));exact HO105.out) hb);have n1_:=Aside0.mk (Kd.R_below (by (with_reducible repeat (first|apply Kd.R_alloc|apply Kd.R_drewN|apply Kd.R_drew));exact HO113.out) hb);have n2_:=Aside0.mk (Kd.R_below (by (with_reducible repeat (first|apply Kd.R_alloc|apply Kd.R_drewN|apply Kd.R_drew));exact HO117.out) hb);have n3_:=Aside0.mk (blk_below (g:=gb110) (o:=.cells #[.int .i64 t107,.int .i64 t108,.int .i64 t109] 26 (0,0)) (by (with_reducible repeat (first|refine blk_drewN ?_ _|refine blk_drew ?_|refine blk_alloc ?_ _));exact BK110.out) hb);have n4_:=Aside0.mk (below_step (by repeat (first|(with_reducible first|exact HB.out|apply below_alloc|apply pw_below_drewN|apply below_drew1|refine below_set ?_ GE110.out)|exact HB.out)) hb);have n5_:=Aside0.mk (hbox);have n6_:=Aside0.mk ((by rw [hg];exact (below_size (by repeat (first|(with_reducible first|exact HB.out|apply below_alloc|apply pw_below_drewN|apply below_drew1|refine below_set ?_ GE110.out)|exact HB.out))) : w.heap.size ≤ gb122));have n7_:=Aside0.mk ((by rw [hg];exact (below_size (by repeat (first|(with_reducible first|exact HB.out|apply below_alloc|apply pw_below_drewN|apply below_drew1|refine below_set ?_ GE110.out)|exact HB.out))) : w.heap.size ≤ gb122));have n8_:=Aside0.mk ((by rw [hg];exact Nat.ne_of_lt (blk_lt (g:=gb110) (o:=.cells #[.int .i64 t107,.int .i64 t108,.int .i64 t109] 26 (0,0)) (by (with_reducible repeat (first|refine blk_drewN ?_ _|refine blk_drew ?_|refine blk_alloc ?_ _));exact BK110.out)) : gb110 ≠ gb122));have n9_:=Aside0.mk ((by rw [hg];exact Nat.ne_of_gt (blk_lt (g:=gb110) (o:=.cells #[.int .i64 t107,.int .i64 t108,.int .i64 t109] 26 (0,0)) (by (with_reducible repeat (first|refine blk_drewN ?_ _|refine blk_drew ?_|refine blk_alloc ?_ _));exact BK110.out)) : gb122 ≠ gb110));clear HO105;clear HO113;clear HO117;clear BK110;clear HB;have HO105:=n0_;have HO113:=n1_;have HO117:=n2_;have BK110:=n3_;have HB:=n4_;have BK122:=n5_;have GW122:=n6_;have GE122:=n7_;have NB110_122:=n8_;have NB122_110:=n9_;clear n0_ n1_ n2_ n3_ n4_ n5_ n6_ n7_ n8_ n9_;clear hb hbox hg;have hnb18:=NB122_110.out;have hnc18:=NB110_122.out;have hcz19_0 : w17.cell? ⟨gb122,0,none⟩ = some (.int .i64 0):=(blk_cell BK122.out 0).trans rfl;have hcz19_1 : w17.cell? ⟨gb122,1,none⟩ = some (.int .i64 0):=(blk_cell BK122.out 1).trans rfl;have hcz19_2 : w17.cell? ⟨gb122,2,none⟩ = some (.int .i64 0):=(blk_cell BK122.out 2).trans rfl;have hfz19_0:=blk_frozen BK122.out 0;have hfz19_1:=blk_frozen BK122.out 1;have hfz19_2:=blk_frozen BK122.out 2;have hcz20_0 : w17.cell? ⟨gb110,0,none⟩ = some (.int .i64 t107):=(blk_cell BK110.out 0).trans rfl;have hcz20_1 : w17.cell? ⟨gb110,1,none⟩ = some (.int .i64 t108):=(blk_cell BK110.out 1).trans rfl;have hcz20_2 : w17.cell? ⟨gb110,2,none⟩ = some (.int .i64 t109):=(blk_cell BK110.out 2).trans rfl;have hfz20_0:=blk_frozen BK110.out 0;have hfz20_1:=blk_frozen BK110.out 1;have hfz20_2:=blk_frozen BK110.out 2;obtain ⟨Ao21,co21,eo21⟩:=Kd.R_slice HO117.out;subst eo21))
      go_ret
      exact ⟨by first|rfl|(simp [errW_none, errW_some] <;> rfl)|(simp [*, errW_none, errW_some] <;> rfl), by repeat (first|(with_reducible first|exact HB.out|apply below_alloc|apply pw_below_drewN|apply below_drew1|refine below_set ?_ GE110.out|refine below_set ?_ GE122.out)|exact HB.out)⟩
     ·rw [if_neg c8] at H
      have c8b0 : (t118 == 100) = false := beq_eq_false_iff_ne.mpr c8
      have c8b1 : (t118 != 100) = true := bne_iff_ne.mpr c8
      obtain rfl := Option.some.inj H
      go_enter Tryd.func7, Tryd.ntmps7
      go_wp2_with (first|((with_reducible refine gate_callee (f:=8) rfl ?_);refine goesL_ (some 10) rfl rfl Tryd.func8 (by kernel_rfl) rfl #[.string (⟨#[97,49,32,58,61,10,39,98,39]⟩ : ByteArray)] rfl (by (try simp only [List.map_toArray,List.map_cons,List.map_nil]);first|done|rfl|(simp only [List.length_drop,List.length_take];rfl)) ?_;(with_reducible refine (scan_All.calls (⟨#[97,49,32,58,61,10,39,98,39]⟩ : ByteArray) t103 t106 t107 t108 t109 _ ?side1 A1.out).mono ?_);(case side1 => exact LW.below HLW.out (by repeat (first|(with_reducible first|exact HB.out|apply below_alloc|apply pw_below_drewN|apply below_drew1)|exact HB.out)));rintro e w22 ⟨v104,rfl,ho0,hb⟩;refine ⟨_,rfl,?_⟩;have n0_:=Aside0.mk (Kd.R_lower ho0 (below_size (by repeat (first|(with_reducible first|exact HB.out|apply below_alloc|apply pw_below_drewN|apply below_drew1)|exact HB.out))));have n1_:=Aside0.mk (below_step (by repeat (first|(with_reducible first|exact HB.out|apply below_alloc|apply pw_below_drewN|apply below_drew1)|exact HB.out)) hb);clear HB;have HO105:=n0_;have HB:=n1_;clear n0_ n1_;(try clear hb);(try clear hb2);(try clear hk);(try clear hi);(try clear ho0))|((with_reducible refine gate_dst (N:=3) rfl ?_);(try (refine gate_guard (by rfl) ?_;dsimp only));refine box_event ?hg (N:=3) ?hd (cs:=#[.int .i64 0,.int .i64 0,.int .i64 0]) (t:=26) ?hr ?_;(case hd => rfl);(case hg => rfl);(case hr => first|(go_simp;done)|(go_simp;rfl));intro gb110 hg w23 hbox hb;have n0_:=Aside0.mk (Kd.R_below (by (with_reducible repeat (first|apply Kd.R_alloc|apply Kd.R_drewN|apply Kd.R_drew));exact HO105.out) hb);have n1_:=Aside0.mk (below_step (by repeat (first|(with_reducible first|exact HB.out|apply below_alloc|apply pw_below_drewN|apply below_drew1)|exact HB.out)) hb);have n2_:=Aside0.mk (hbox);have n3_:=Aside0.mk ((by rw [hg];exact (below_size (by repeat (first|(with_reducible first|exact HB.out|apply below_alloc|apply pw_below_drewN|apply below_drew1)|exact HB.out))) : w.heap.size ≤ gb110));have n4_:=Aside0.mk ((by rw [hg];exact (below_size (by repeat (first|(with_reducible first|exact HB.out|apply below_alloc|apply pw_below_drewN|apply below_drew1)|exact HB.out))) : w.heap.size ≤ gb110));clear HO105;clear HB;have HO105:=n0_;have HB:=n1_;have BK110:=n2_;have GW110:=n3_;have GE110:=n4_;clear n0_ n1_ n2_ n3_ n4_;clear hb hbox hg;have hcz24_0 : w23.cell? ⟨gb110,0,none⟩ = some (.int .i64 0):=(blk_cell BK110.out 0).trans rfl;have hcz24_1 : w23.cell? ⟨gb110,1,none⟩ = some (.int .i64 0):=(blk_cell BK110.out 1).trans rfl;have hcz24_2 : w23.cell? ⟨gb110,2,none⟩ = some (.int .i64 0):=(blk_cell BK110.out 2).trans rfl;have hfz24_0:=blk_frozen BK110.out 0;have hfz24_1:=blk_frozen BK110.out 1;have hfz24_2:=blk_frozen BK110.out 2)|((with_reducible refine gate_dst (N:=20) rfl ?_);(try (refine gate_guard (by rfl) ?_;dsimp only));refine Kd.R_lit k35 _ 35 ?hg (N:=20) ?hd (xs:=([(⟨1,(⟨#[97,49]⟩ : ByteArray),(⟨0,1,1⟩ : S26),0⟩ : S35),(⟨6,(⟨#[58,61]⟩ : ByteArray),(⟨3,1,4⟩ : S26),0⟩ : S35),(⟨5,(⟨#[39,98,39]⟩ : ByteArray),(⟨6,2,1⟩ : S26),1⟩ : S35)] : List (S35))) (inner:=[.int .u8 1,.string (⟨#[97,49]⟩ : ByteArray),.int .i64 0,.int .i64 1,.int .i64 1,.int .i64 0,.int .u8 6,.string (⟨#[58,61]⟩ : ByteArray),.int .i64 3,.int .i64 1,.int .i64 4,.int .i64 0,.int .u8 5,.string (⟨#[39,98,39]⟩ : ByteArray),.int .i64 6,.int .i64 2,.int .i64 1,.int .i64 1]) (ok:=fun _ => True) (okp:=fun _ => True) ?hr ?hp (fun _ hk => hk) trivial (Below.refl _ _) (Nat.le_refl _) (by simp) ?_;(case hd => rfl);(case hg => rfl);(case hr => first|(go_simp;done)|(go_simp;rfl));(case hp => exact (Reps.c6 (show Kd.M k35 _ _ _ (⟨1,(⟨#[97,49]⟩ : ByteArray),(⟨0,1,1⟩ : S26),0⟩ : S35) [.int .u8 1,.string (⟨#[97,49]⟩ : ByteArray),.int .i64 0,.int .i64 1,.int .i64 1,.int .i64 0] from (k35_mkM _ _ _ (⟨1,(⟨#[97,49]⟩ : ByteArray),(⟨0,1,1⟩ : S26),0⟩ : S35) )) (Reps.c6 (show Kd.M k35 _ _ _ (⟨6,(⟨#[58,61]⟩ : ByteArray),(⟨3,1,4⟩ : S26),0⟩ : S35) [.int .u8 6,.string (⟨#[58,61]⟩ : ByteArray),.int .i64 3,.int .i64 1,.int .i64 4,.int .i64 0] from (k35_mkM _ _ _ (⟨6,(⟨#[58,61]⟩ : ByteArray),(⟨3,1,4⟩ : S26),0⟩ : S35) )) (Reps.c6 (show Kd.M k35 _ _ _ (⟨5,(⟨#[39,98,39]⟩ : ByteArray),(⟨6,2,1⟩ : S26),1⟩ : S35) [.int .u8 5,.string (⟨#[39,98,39]⟩ : ByteArray),.int .i64 6,.int .i64 2,.int .i64 1,.int .i64 1] from (k35_mkM _ _ _ (⟨5,(⟨#[39,98,39]⟩ : ByteArray),(⟨6,2,1⟩ : S26),1⟩ : S35) )) (Reps.none _ _)))));intro v112 w25 ho26 hb hg_ hnew_;clear hg_ hnew_;(first|rw [← Ny111.out] at ho26|(simp only [Int.reduceToNat] at ho26;rw [← Ny111.out] at ho26));have n0_:=Aside0.mk (Kd.R_elder' (by (with_reducible repeat (first|apply Kd.R_alloc|apply Kd.R_drewN|apply Kd.R_drew));exact (Kd.R_mono (Kd.R_far (p:=⟨gb110,2,none⟩) (Kd.R_far (p:=⟨gb110,1,none⟩) (Kd.R_far (p:=⟨gb110,0,none⟩) (Kd.R_types HO105.out BK110.out (by decide)) (fun _ hk => hk.2) (.int .i64 t107)) (fun _ hk => hk.2) (.int .i64 t108)) (fun _ hk => hk.2) (.int .i64 t109)) (fun _ h_ => h_.1))) (Kd.R_base ho26) hb);have n1_:=Aside0.mk (Kd.R_lower (Kd.R_new' ho26 (Kd.R_lt (by (with_reducible repeat (first|apply Kd.R_alloc|apply Kd.R_drewN|apply Kd.R_drew));exact (Kd.R_mono (Kd.R_far (p:=⟨gb110,2,none⟩) (Kd.R_far (p:=⟨gb110,1,none⟩) (Kd.R_far (p:=⟨gb110,0,none⟩) (Kd.R_types HO105.out BK110.out (by decide)) (fun _ hk => hk.2) (.int .i64 t107)) (fun _ hk => hk.2) (.int .i64 t108)) (fun _ hk => hk.2) (.int .i64 t109)) (fun _ h_ => h_.1))))) (below_size (by repeat (first|(with_reducible first|exact HB.out|apply below_alloc|apply pw_below_drewN|apply below_drew1|refine below_set ?_ GE110.out)|exact HB.out))));have n2_:=Aside0.mk (blk_below (g:=gb110) (o:=.cells #[.int .i64 t107,.int .i64 t108,.int .i64 t109] 26 (0,0)) (by (with_reducible repeat (first|refine blk_drewN ?_ _|refine blk_drew ?_|refine blk_alloc ?_ _));refine blk_put (cs:=#[.int .i64 t107,.int .i64 t108,.int .i64 0]) ?_ 2 _ rfl;(with_reducible repeat (first|refine blk_drewN ?_ _|refine blk_drew ?_|refine blk_alloc ?_ _));refine blk_put (cs:=#[.int .i64 t107,.int .i64 0,.int .i64 0]) ?_ 1 _ rfl;(with_reducible repeat (first|refine blk_drewN ?_ _|refine blk_drew ?_|refine blk_alloc ?_ _));refine blk_put (cs:=#[.int .i64 0,.int .i64 0,.int .i64 0]) ?_ 0 _ rfl;(with_reducible repeat (first|refine blk_drewN ?_ _|refine blk_drew ?_|refine blk_alloc ?_ _));exact BK110.out) hb);have n3_:=Aside0.mk (below_step (by repeat (first|(with_reducible first|exact HB.out|apply below_alloc|apply pw_below_drewN|apply below_drew1|refine below_set ?_ GE110.out)|exact HB.out)) hb);clear HO105;clear BK110;clear HB;have HO105:=n0_;have HO113:=n1_;have BK110:=n2_;have HB:=n3_;clear n0_ n1_ n2_ n3_;clear hb ho26;obtain ⟨Ao27,co27,eo27⟩:=Kd.R_slice HO105.out;subst eo27;obtain ⟨Ao28,co28,eo28⟩:=Kd.R_slice HO113.out;subst eo28)|((with_reducible refine gate_callee (f:=10) rfl ?_);refine goesL_ (some 23) rfl rfl Tryd.func10 (by kernel_rfl) rfl #[.slice Ao27 t103.length co27,.slice Ao28 y111.length co28] rfl (by (try simp only [List.map_toArray,List.map_cons,List.map_nil]);first|done|rfl|(simp only [List.length_drop,List.length_take];rfl)) ?_;(with_reducible refine (colophonlaw10_same.calls k _ _ t103 _ _ y111 true _ ?side1 ?side2 ?side3 ?side4 A2.out).mono ?_);(case side1 => repeat (first|exact (Kd.R_reads' HO105.out).2.2|(with_reducible refine Kd.C_alloc ?_ _)|(with_reducible refine Kd.C_drewN ?_ _)|(with_reducible refine Kd.C_drew ?_)));(case side2 => exact (Kd.R_reads' HO105.out).2.1);(case side3 => repeat (first|exact (Kd.R_reads' HO113.out).2.2|(with_reducible refine Kd.C_alloc ?_ _)|(with_reducible refine Kd.C_drewN ?_ _)|(with_reducible refine Kd.C_drew ?_)));(case side4 => exact (Kd.R_reads' HO113.out).2.1);rintro e w' ⟨rfl,⟨nd,rfl⟩⟩;refine ⟨_,rfl,?_⟩;(try (rw [drewN_self w25];generalize hq_ : World.drewN w25 _ = w25;have n0_ : Aside0 (Kd.R k35 35 w25 w.heap.size (fun k_ => some k_ ≠ (.slice Ao28 y111.length co28 : Value).ownBlock) (.slice Ao27 t103.length co27) t103):=⟨by rw [← hq_];exact (by (with_reducible repeat (first|apply Kd.R_alloc|apply Kd.R_drewN|apply Kd.R_drew));exact Kd.R_mono HO105.out (fun _ hk => hk.2))⟩;have n1_ : Aside0 (Kd.R k35 35 w25 w.heap.size (fun k_ => some k_ ≠ (.slice Ao27 t103.length co27 : Value).ownBlock) (.slice Ao28 y111.length co28) y111):=⟨by rw [← hq_];exact (by (with_reducible repeat (first|apply Kd.R_alloc|apply Kd.R_drewN|apply Kd.R_drew));exact Kd.R_mono HO113.out (fun _ hk => hk.2))⟩;have n2_ : Aside0 (w25.heap[gb110]? = some (.cells #[.int .i64 t107,.int .i64 t108,.int .i64 t109] 26 (0,0))):=⟨by rw [← hq_];exact (by (with_reducible repeat (first|refine blk_drewN ?_ _|refine blk_drew ?_|refine blk_alloc ?_ _));exact BK110.out)⟩;have n3_ : Aside0 (Below w.heap.size w w25):=⟨by rw [← hq_];exact (by repeat (first|(with_reducible first|exact HB.out|apply below_alloc|apply pw_below_drewN|apply below_drew1|refine below_set ?_ GE110.out)|exact HB.out))⟩;clear HO105 HO113 BK110 HB hq_;have HO105:=n0_;have HO113:=n1_;have BK110:=n2_;have HB:=n3_;clear n0_ n1_ n2_ n3_)))|((with_reducible refine gate_callee (f:=8) rfl ?_);refine goesL_ (some 25) rfl rfl Tryd.func8 (by kernel_rfl) rfl #[.string (⟨#[97,10,32,63]⟩ : ByteArray)] rfl (by (try simp only [List.map_toArray,List.map_cons,List.map_nil]);first|done|rfl|(simp only [List.length_drop,List.length_take];rfl)) ?_;(with_reducible refine (scan_All.calls (⟨#[97,10,32,63]⟩ : ByteArray) t115 t118 t119 t120 t121 _ ?side1 A3.out).mono ?_);(case side1 => exact LW.below HLW.out (by repeat (first|(with_reducible first|exact HB.out|apply below_alloc|apply pw_below_drewN|apply below_drew1|refine below_set ?_ GE110.out)|exact HB.out)));rintro e w29 ⟨v116,rfl,ho0,hb⟩;refine ⟨_,rfl,?_⟩;have n0_:=Aside0.mk (Kd.R_elder' (by (with_reducible repeat (first|apply Kd.R_alloc|apply Kd.R_drewN|apply Kd.R_drew));exact HO105.out) (Kd.R_base ho0) hb);have n1_:=Aside0.mk (Kd.R_elder' (by (with_reducible repeat (first|apply Kd.R_alloc|apply Kd.R_drewN|apply Kd.R_drew));exact HO113.out) (Kd.R_base ho0) hb);have n2_:=Aside0.mk (Kd.R_lower (Kd.R_new' (Kd.R_new' ho0 (Kd.R_lt (by (with_reducible repeat (first|apply Kd.R_alloc|apply Kd.R_drewN|apply Kd.R_drew));exact HO105.out))) (Kd.R_lt (by (with_reducible repeat (first|apply Kd.R_alloc|apply Kd.R_drewN|apply Kd.R_drew));exact HO113.out))) (below_size (by repeat (first|(with_reducible first|exact HB.out|apply below_alloc|apply pw_below_drewN|apply below_drew1|refine below_set ?_ GE110.out)|exact HB.out))));have n3_:=Aside0.mk (blk_below (g:=gb110) (o:=.cells #[.int .i64 t107,.int .i64 t108,.int .i64 t109] 26 (0,0)) (by (with_reducible repeat (first|refine blk_drewN ?_ _|refine blk_drew ?_|refine blk_alloc ?_ _));exact BK110.out) hb);have n4_:=Aside0.mk (below_step (by repeat (first|(with_reducible first|exact HB.out|apply below_alloc|apply pw_below_drewN|apply below_drew1|refine below_set ?_ GE110.out)|exact HB.out)) hb);clear HO105;clear HO113;clear BK110;clear HB;have HO105:=n0_;have HO113:=n1_;have HO117:=n2_;have BK110:=n3_;have HB:=n4_;clear n0_ n1_ n2_ n3_ n4_;(try clear hb);(try clear hb2);(try clear hk);(try clear hi);(try clear ho0))|((with_reducible refine gate_dst (N:=8) rfl ?_);(try (refine gate_guard (by rfl) ?_;dsimp only));refine box_event ?hg (N:=8) ?hd (cs:=#[.int .i64 0,.int .i64 0,.int .i64 0]) (t:=26) ?hr ?_;(case hd => rfl);(case hg => rfl);(case hr => first|(go_simp;done)|(go_simp;rfl));intro gb122 hg w30 hbox hb;have n0_:=Aside0.mk (Kd.R_below (by (with_reducible repeat (first|apply Kd.R_alloc|apply Kd.R_drewN|apply Kd.R_drew));exact HO105.out) hb);have n1_:=Aside0.mk (Kd.R_below (by (with_reducible repeat (first|apply Kd.R_alloc|apply Kd.R_drewN|apply Kd.R_drew));exact HO113.out) hb);have n2_:=Aside0.mk (Kd.R_below (by (with_reducible repeat (first|apply Kd.R_alloc|apply Kd.R_drewN|apply Kd.R_drew));exact HO117.out) hb);have n3_:=Aside0.mk (blk_below (g:=gb110) (o:=.cells #[.int .i64 t107,.int .i64 t108,.int .i64 t109] 26 (0,0)) (by (with_reducible repeat (first|refine blk_drewN ?_ _|refine blk_drew ?_|refine blk_alloc ?_ _));exact BK110.out) hb);have n4_:=Aside0.mk (below_step (by repeat (first|(with_reducible first|exact HB.out|apply below_alloc|apply pw_below_drewN|apply below_drew1|refine below_set ?_ GE110.out)|exact HB.out)) hb);have n5_:=Aside0.mk (hbox);have n6_:=Aside0.mk ((by rw [hg];exact (below_size (by repeat (first|(with_reducible first|exact HB.out|apply below_alloc|apply pw_below_drewN|apply below_drew1|refine below_set ?_ GE110.out)|exact HB.out))) : w.heap.size ≤ gb122));have n7_:=Aside0.mk ((by rw [hg];exact (below_size (by repeat (first|(with_reducible first|exact HB.out|apply below_alloc|apply pw_below_drewN|apply below_drew1|refine below_set ?_ GE110.out)|exact HB.out))) : w.heap.size ≤ gb122));have n8_:=Aside0.mk ((by rw [hg];exact Nat.ne_of_lt (blk_lt (g:=gb110) (o:=.cells #[.int .i64 t107,.int .i64 t108,.int .i64 t109] 26 (0,0)) (by (with_reducible repeat (first|refine blk_drewN ?_ _|refine blk_drew ?_|refine blk_alloc ?_ _));exact BK110.out)) : gb110 ≠ gb122));have n9_:=Aside0.mk ((by rw [hg];exact Nat.ne_of_gt (blk_lt (g:=gb110) (o:=.cells #[.int .i64 t107,.int .i64 t108,.int .i64 t109] 26 (0,0)) (by (with_reducible repeat (first|refine blk_drewN ?_ _|refine blk_drew ?_|refine blk_alloc ?_ _));exact BK110.out)) : gb122 ≠ gb110));clear HO105;clear HO113;clear HO117;clear BK110;clear HB;have HO105:=n0_;have HO113:=n1_;have HO117:=n2_;have BK110:=n3_;have HB:=n4_;have BK122:=n5_;have GW122:=n6_;have GE122:=n7_;have NB110_122:=n8_;have NB122_110:=n9_;clear n0_ n1_ n2_ n3_ n4_ n5_ n6_ n7_ n8_ n9_;clear hb hbox hg;have hnb31:=NB122_110.out;have hnc31:=NB110_122.out;have hcz32_0 : w30.cell? ⟨gb122,0,none⟩ = some (.int .i64 0):=(blk_cell BK122.out 0).trans rfl;have hcz32_1 : w30.cell? ⟨gb122,1,none⟩ = some (.int .i64 0):=(blk_cell BK122.out 1).trans rfl;have hcz32_2 : w30.cell? ⟨gb122,2,none⟩ = some (.int .i64 0):=(blk_cell BK122.out 2).trans rfl;have hfz32_0:=blk_frozen BK122.out 0;have hfz32_1:=blk_frozen BK122.out 1;have hfz32_2:=blk_frozen BK122.out 2;have hcz33_0 : w30.cell? ⟨gb110,0,none⟩ = some (.int .i64 t107):=(blk_cell BK110.out 0).trans rfl;have hcz33_1 : w30.cell? ⟨gb110,1,none⟩ = some (.int .i64 t108):=(blk_cell BK110.out 1).trans rfl;have hcz33_2 : w30.cell? ⟨gb110,2,none⟩ = some (.int .i64 t109):=(blk_cell BK110.out 2).trans rfl;have hfz33_0:=blk_frozen BK110.out 0;have hfz33_1:=blk_frozen BK110.out 1;have hfz33_2:=blk_frozen BK110.out 2;obtain ⟨Ao34,co34,eo34⟩:=Kd.R_slice HO117.out;subst eo34))
      go_ret
      exact ⟨by first|rfl|(simp [errW_none, errW_some] <;> rfl)|(simp [*, errW_none, errW_some] <;> rfl), by repeat (first|(with_reducible first|exact HB.out|apply below_alloc|apply pw_below_drewN|apply below_drew1|refine below_set ?_ GE110.out|refine below_set ?_ GE122.out)|exact HB.out)⟩
    ·rw [if_neg c7] at H
     have c7b0 : ((t115.length : Int) == 1) = false := beq_eq_false_iff_ne.mpr c7
     have c7b1 : ((t115.length : Int) != 1) = true := bne_iff_ne.mpr c7
     obtain rfl := Option.some.inj H
     go_enter Tryd.func7, Tryd.ntmps7
     go_wp2_with (first|((with_reducible refine gate_callee (f:=8) rfl ?_);refine goesL_ (some 10) rfl rfl Tryd.func8 (by kernel_rfl) rfl #[.string (⟨#[97,49,32,58,61,10,39,98,39]⟩ : ByteArray)] rfl (by (try simp only [List.map_toArray,List.map_cons,List.map_nil]);first|done|rfl|(simp only [List.length_drop,List.length_take];rfl)) ?_;(with_reducible refine (scan_All.calls (⟨#[97,49,32,58,61,10,39,98,39]⟩ : ByteArray) t103 t106 t107 t108 t109 _ ?side1 A1.out).mono ?_);(case side1 => exact LW.below HLW.out (by repeat (first|(with_reducible first|exact HB.out|apply below_alloc|apply pw_below_drewN|apply below_drew1)|exact HB.out)));rintro e w35 ⟨v104,rfl,ho0,hb⟩;refine ⟨_,rfl,?_⟩;have n0_:=Aside0.mk (Kd.R_lower ho0 (below_size (by repeat (first|(with_reducible first|exact HB.out|apply below_alloc|apply pw_below_drewN|apply below_drew1)|exact HB.out))));have n1_:=Aside0.mk (below_step (by repeat (first|(with_reducible first|exact HB.out|apply below_alloc|apply pw_below_drewN|apply below_drew1)|exact HB.out)) hb);clear HB;have HO105:=n0_;have HB:=n1_;clear n0_ n1_;(try clear hb);(try clear hb2);(try clear hk);(try clear hi);(try clear ho0))|((with_reducible refine gate_dst (N:=3) rfl ?_);(try (refine gate_guard (by rfl) ?_;dsimp only));refine box_event ?hg (N:=3) ?hd (cs:=#[.int .i64 0,.int .i64 0,.int .i64 0]) (t:=26) ?hr ?_;(case hd => rfl);(case hg => rfl);(case hr => first|(go_simp;done)|(go_simp;rfl));intro gb110 hg w36 hbox hb;have n0_:=Aside0.mk (Kd.R_below (by (with_reducible repeat (first|apply Kd.R_alloc|apply Kd.R_drewN|apply Kd.R_drew));exact HO105.out) hb);have n1_:=Aside0.mk (below_step (by repeat (first|(with_reducible first|exact HB.out|apply below_alloc|apply pw_below_drewN|apply below_drew1)|exact HB.out)) hb);have n2_:=Aside0.mk (hbox);have n3_:=Aside0.mk ((by rw [hg];exact (below_size (by repeat (first|(with_reducible first|exact HB.out|apply below_alloc|apply pw_below_drewN|apply below_drew1)|exact HB.out))) : w.heap.size ≤ gb110));have n4_:=Aside0.mk ((by rw [hg];exact (below_size (by repeat (first|(with_reducible first|exact HB.out|apply below_alloc|apply pw_below_drewN|apply below_drew1)|exact HB.out))) : w.heap.size ≤ gb110));clear HO105;clear HB;have HO105:=n0_;have HB:=n1_;have BK110:=n2_;have GW110:=n3_;have GE110:=n4_;clear n0_ n1_ n2_ n3_ n4_;clear hb hbox hg;have hcz37_0 : w36.cell? ⟨gb110,0,none⟩ = some (.int .i64 0):=(blk_cell BK110.out 0).trans rfl;have hcz37_1 : w36.cell? ⟨gb110,1,none⟩ = some (.int .i64 0):=(blk_cell BK110.out 1).trans rfl;have hcz37_2 : w36.cell? ⟨gb110,2,none⟩ = some (.int .i64 0):=(blk_cell BK110.out 2).trans rfl;have hfz37_0:=blk_frozen BK110.out 0;have hfz37_1:=blk_frozen BK110.out 1;have hfz37_2:=blk_frozen BK110.out 2)|((with_reducible refine gate_dst (N:=20) rfl ?_);(try (refine gate_guard (by rfl) ?_;dsimp only));refine Kd.R_lit k35 _ 35 ?hg (N:=20) ?hd (xs:=([(⟨1,(⟨#[97,49]⟩ : ByteArray),(⟨0,1,1⟩ : S26),0⟩ : S35),(⟨6,(⟨#[58,61]⟩ : ByteArray),(⟨3,1,4⟩ : S26),0⟩ : S35),(⟨5,(⟨#[39,98,39]⟩ : ByteArray),(⟨6,2,1⟩ : S26),1⟩ : S35)] : List (S35))) (inner:=[.int .u8 1,.string (⟨#[97,49]⟩ : ByteArray),.int .i64 0,.int .i64 1,.int .i64 1,.int .i64 0,.int .u8 6,.string (⟨#[58,61]⟩ : ByteArray),.int .i64 3,.int .i64 1,.int .i64 4,.int .i64 0,.int .u8 5,.string (⟨#[39,98,39]⟩ : ByteArray),.int .i64 6,.int .i64 2,.int .i64 1,.int .i64 1]) (ok:=fun _ => True) (okp:=fun _ => True) ?hr ?hp (fun _ hk => hk) trivial (Below.refl _ _) (Nat.le_refl _) (by simp) ?_;(case hd => rfl);(case hg => rfl);(case hr => first|(go_simp;done)|(go_simp;rfl));(case hp => exact (Reps.c6 (show Kd.M k35 _ _ _ (⟨1,(⟨#[97,49]⟩ : ByteArray),(⟨0,1,1⟩ : S26),0⟩ : S35) [.int .u8 1,.string (⟨#[97,49]⟩ : ByteArray),.int .i64 0,.int .i64 1,.int .i64 1,.int .i64 0] from (k35_mkM _ _ _ (⟨1,(⟨#[97,49]⟩ : ByteArray),(⟨0,1,1⟩ : S26),0⟩ : S35) )) (Reps.c6 (show Kd.M k35 _ _ _ (⟨6,(⟨#[58,61]⟩ : ByteArray),(⟨3,1,4⟩ : S26),0⟩ : S35) [.int .u8 6,.string (⟨#[58,61]⟩ : ByteArray),.int .i64 3,.int .i64 1,.int .i64 4,.int .i64 0] from (k35_mkM _ _ _ (⟨6,(⟨#[58,61]⟩ : ByteArray),(⟨3,1,4⟩ : S26),0⟩ : S35) )) (Reps.c6 (show Kd.M k35 _ _ _ (⟨5,(⟨#[39,98,39]⟩ : ByteArray),(⟨6,2,1⟩ : S26),1⟩ : S35) [.int .u8 5,.string (⟨#[39,98,39]⟩ : ByteArray),.int .i64 6,.int .i64 2,.int .i64 1,.int .i64 1] from (k35_mkM _ _ _ (⟨5,(⟨#[39,98,39]⟩ : ByteArray),(⟨6,2,1⟩ : S26),1⟩ : S35) )) (Reps.none _ _)))));intro v112 w38 ho39 hb hg_ hnew_;clear hg_ hnew_;(first|rw [← Ny111.out] at ho39|(simp only [Int.reduceToNat] at ho39;rw [← Ny111.out] at ho39));have n0_:=Aside0.mk (Kd.R_elder' (by (with_reducible repeat (first|apply Kd.R_alloc|apply Kd.R_drewN|apply Kd.R_drew));exact (Kd.R_mono (Kd.R_far (p:=⟨gb110,2,none⟩) (Kd.R_far (p:=⟨gb110,1,none⟩) (Kd.R_far (p:=⟨gb110,0,none⟩) (Kd.R_types HO105.out BK110.out (by decide)) (fun _ hk => hk.2) (.int .i64 t107)) (fun _ hk => hk.2) (.int .i64 t108)) (fun _ hk => hk.2) (.int .i64 t109)) (fun _ h_ => h_.1))) (Kd.R_base ho39) hb);have n1_:=Aside0.mk (Kd.R_lower (Kd.R_new' ho39 (Kd.R_lt (by (with_reducible repeat (first|apply Kd.R_alloc|apply Kd.R_drewN|apply Kd.R_drew));exact (Kd.R_mono (Kd.R_far (p:=⟨gb110,2,none⟩) (Kd.R_far (p:=⟨gb110,1,none⟩) (Kd.R_far (p:=⟨gb110,0,none⟩) (Kd.R_types HO105.out BK110.out (by decide)) (fun _ hk => hk.2) (.int .i64 t107)) (fun _ hk => hk.2) (.int .i64 t108)) (fun _ hk => hk.2) (.int .i64 t109)) (fun _ h_ => h_.1))))) (below_size (by repeat (first|(with_reducible first|exact HB.out|apply below_alloc|apply pw_below_drewN|apply below_drew1|refine below_set ?_ GE110.out)|exact HB.out))));have n2_:=Aside0.mk (blk_below (g:=gb110) (o:=.cells #[.int .i64 t107,.int .i64 t108,.int .i64 t109] 26 (0,0)) (by (with_reducible repeat (first|refine blk_drewN ?_ _|refine blk_drew ?_|refine blk_alloc ?_ _));refine blk_put (cs:=#[.int .i64 t107,.int .i64 t108,.int .i64 0]) ?_ 2 _ rfl;(with_reducible repeat (first|refine blk_drewN ?_ _|refine blk_drew ?_|refine blk_alloc ?_ _));refine blk_put (cs:=#[.int .i64 t107,.int .i64 0,.int .i64 0]) ?_ 1 _ rfl;(with_reducible repeat (first|refine blk_drewN ?_ _|refine blk_drew ?_|refine blk_alloc ?_ _));refine blk_put (cs:=#[.int .i64 0,.int .i64 0,.int .i64 0]) ?_ 0 _ rfl;(with_reducible repeat (first|refine blk_drewN ?_ _|refine blk_drew ?_|refine blk_alloc ?_ _));exact BK110.out) hb);have n3_:=Aside0.mk (below_step (by repeat (first|(with_reducible first|exact HB.out|apply below_alloc|apply pw_below_drewN|apply below_drew1|refine below_set ?_ GE110.out)|exact HB.out)) hb);clear HO105;clear BK110;clear HB;have HO105:=n0_;have HO113:=n1_;have BK110:=n2_;have HB:=n3_;clear n0_ n1_ n2_ n3_;clear hb ho39;obtain ⟨Ao40,co40,eo40⟩:=Kd.R_slice HO105.out;subst eo40;obtain ⟨Ao41,co41,eo41⟩:=Kd.R_slice HO113.out;subst eo41)|((with_reducible refine gate_callee (f:=10) rfl ?_);refine goesL_ (some 23) rfl rfl Tryd.func10 (by kernel_rfl) rfl #[.slice Ao40 t103.length co40,.slice Ao41 y111.length co41] rfl (by (try simp only [List.map_toArray,List.map_cons,List.map_nil]);first|done|rfl|(simp only [List.length_drop,List.length_take];rfl)) ?_;(with_reducible refine (colophonlaw10_same.calls k _ _ t103 _ _ y111 true _ ?side1 ?side2 ?side3 ?side4 A2.out).mono ?_);(case side1 => repeat (first|exact (Kd.R_reads' HO105.out).2.2|(with_reducible refine Kd.C_alloc ?_ _)|(with_reducible refine Kd.C_drewN ?_ _)|(with_reducible refine Kd.C_drew ?_)));(case side2 => exact (Kd.R_reads' HO105.out).2.1);(case side3 => repeat (first|exact (Kd.R_reads' HO113.out).2.2|(with_reducible refine Kd.C_alloc ?_ _)|(with_reducible refine Kd.C_drewN ?_ _)|(with_reducible refine Kd.C_drew ?_)));(case side4 => exact (Kd.R_reads' HO113.out).2.1);rintro e w' ⟨rfl,⟨nd,rfl⟩⟩;refine ⟨_,rfl,?_⟩;(try (rw [drewN_self w38];generalize hq_ : World.drewN w38 _ = w38;have n0_ : Aside0 (Kd.R k35 35 w38 w.heap.size (fun k_ => some k_ ≠ (.slice Ao41 y111.length co41 : Value).ownBlock) (.slice Ao40 t103.length co40) t103):=⟨by rw [← hq_];exact (by (with_reducible repeat (first|apply Kd.R_alloc|apply Kd.R_drewN|apply Kd.R_drew));exact Kd.R_mono HO105.out (fun _ hk => hk.2))⟩;have n1_ : Aside0 (Kd.R k35 35 w38 w.heap.size (fun k_ => some k_ ≠ (.slice Ao40 t103.length co40 : Value).ownBlock) (.slice Ao41 y111.length co41) y111):=⟨by rw [← hq_];exact (by (with_reducible repeat (first|apply Kd.R_alloc|apply Kd.R_drewN|apply Kd.R_drew));exact Kd.R_mono HO113.out (fun _ hk => hk.2))⟩;have n2_ : Aside0 (w38.heap[gb110]? = some (.cells #[.int .i64 t107,.int .i64 t108,.int .i64 t109] 26 (0,0))):=⟨by rw [← hq_];exact (by (with_reducible repeat (first|refine blk_drewN ?_ _|refine blk_drew ?_|refine blk_alloc ?_ _));exact BK110.out)⟩;have n3_ : Aside0 (Below w.heap.size w w38):=⟨by rw [← hq_];exact (by repeat (first|(with_reducible first|exact HB.out|apply below_alloc|apply pw_below_drewN|apply below_drew1|refine below_set ?_ GE110.out)|exact HB.out))⟩;clear HO105 HO113 BK110 HB hq_;have HO105:=n0_;have HO113:=n1_;have BK110:=n2_;have HB:=n3_;clear n0_ n1_ n2_ n3_)))|((with_reducible refine gate_callee (f:=8) rfl ?_);refine goesL_ (some 25) rfl rfl Tryd.func8 (by kernel_rfl) rfl #[.string (⟨#[97,10,32,63]⟩ : ByteArray)] rfl (by (try simp only [List.map_toArray,List.map_cons,List.map_nil]);first|done|rfl|(simp only [List.length_drop,List.length_take];rfl)) ?_;(with_reducible refine (scan_All.calls (⟨#[97,10,32,63]⟩ : ByteArray) t115 t118 t119 t120 t121 _ ?side1 A3.out).mono ?_);(case side1 => exact LW.below HLW.out (by repeat (first|(with_reducible first|exact HB.out|apply below_alloc|apply pw_below_drewN|apply below_drew1|refine below_set ?_ GE110.out)|exact HB.out)));rintro e w42 ⟨v116,rfl,ho0,hb⟩;refine ⟨_,rfl,?_⟩;have n0_:=Aside0.mk (Kd.R_elder' (by (with_reducible repeat (first|apply Kd.R_alloc|apply Kd.R_drewN|apply Kd.R_drew));exact HO105.out) (Kd.R_base ho0) hb);have n1_:=Aside0.mk (Kd.R_elder' (by (with_reducible repeat (first|apply Kd.R_alloc|apply Kd.R_drewN|apply Kd.R_drew));exact HO113.out) (Kd.R_base ho0) hb);have n2_:=Aside0.mk (Kd.R_lower (Kd.R_new' (Kd.R_new' ho0 (Kd.R_lt (by (with_reducible repeat (first|apply Kd.R_alloc|apply Kd.R_drewN|apply Kd.R_drew));exact HO105.out))) (Kd.R_lt (by (with_reducible repeat (first|apply Kd.R_alloc|apply Kd.R_drewN|apply Kd.R_drew));exact HO113.out))) (below_size (by repeat (first|(with_reducible first|exact HB.out|apply below_alloc|apply pw_below_drewN|apply below_drew1|refine below_set ?_ GE110.out)|exact HB.out))));have n3_:=Aside0.mk (blk_below (g:=gb110) (o:=.cells #[.int .i64 t107,.int .i64 t108,.int .i64 t109] 26 (0,0)) (by (with_reducible repeat (first|refine blk_drewN ?_ _|refine blk_drew ?_|refine blk_alloc ?_ _));exact BK110.out) hb);have n4_:=Aside0.mk (below_step (by repeat (first|(with_reducible first|exact HB.out|apply below_alloc|apply pw_below_drewN|apply below_drew1|refine below_set ?_ GE110.out)|exact HB.out)) hb);clear HO105;clear HO113;clear BK110;clear HB;have HO105:=n0_;have HO113:=n1_;have HO117:=n2_;have BK110:=n3_;have HB:=n4_;clear n0_ n1_ n2_ n3_ n4_;(try clear hb);(try clear hb2);(try clear hk);(try clear hi);(try clear ho0))|((with_reducible refine gate_dst (N:=8) rfl ?_);(try (refine gate_guard (by rfl) ?_;dsimp only));refine box_event ?hg (N:=8) ?hd (cs:=#[.int .i64 0,.int .i64 0,.int .i64 0]) (t:=26) ?hr ?_;(case hd => rfl);(case hg => rfl);(case hr => first|(go_simp;done)|(go_simp;rfl));intro gb122 hg w43 hbox hb;have n0_:=Aside0.mk (Kd.R_below (by (with_reducible repeat (first|apply Kd.R_alloc|apply Kd.R_drewN|apply Kd.R_drew));exact HO105.out) hb);have n1_:=Aside0.mk (Kd.R_below (by (with_reducible repeat (first|apply Kd.R_alloc|apply Kd.R_drewN|apply Kd.R_drew));exact HO113.out) hb);have n2_:=Aside0.mk (Kd.R_below (by (with_reducible repeat (first|apply Kd.R_alloc|apply Kd.R_drewN|apply Kd.R_drew));exact HO117.out) hb);have n3_:=Aside0.mk (blk_below (g:=gb110) (o:=.cells #[.int .i64 t107,.int .i64 t108,.int .i64 t109] 26 (0,0)) (by (with_reducible repeat (first|refine blk_drewN ?_ _|refine blk_drew ?_|refine blk_alloc ?_ _));exact BK110.out) hb);have n4_:=Aside0.mk (below_step (by repeat (first|(with_reducible first|exact HB.out|apply below_alloc|apply pw_below_drewN|apply below_drew1|refine below_set ?_ GE110.out)|exact HB.out)) hb);have n5_:=Aside0.mk (hbox);have n6_:=Aside0.mk ((by rw [hg];exact (below_size (by repeat (first|(with_reducible first|exact HB.out|apply below_alloc|apply pw_below_drewN|apply below_drew1|refine below_set ?_ GE110.out)|exact HB.out))) : w.heap.size ≤ gb122));have n7_:=Aside0.mk ((by rw [hg];exact (below_size (by repeat (first|(with_reducible first|exact HB.out|apply below_alloc|apply pw_below_drewN|apply below_drew1|refine below_set ?_ GE110.out)|exact HB.out))) : w.heap.size ≤ gb122));have n8_:=Aside0.mk ((by rw [hg];exact Nat.ne_of_lt (blk_lt (g:=gb110) (o:=.cells #[.int .i64 t107,.int .i64 t108,.int .i64 t109] 26 (0,0)) (by (with_reducible repeat (first|refine blk_drewN ?_ _|refine blk_drew ?_|refine blk_alloc ?_ _));exact BK110.out)) : gb110 ≠ gb122));have n9_:=Aside0.mk ((by rw [hg];exact Nat.ne_of_gt (blk_lt (g:=gb110) (o:=.cells #[.int .i64 t107,.int .i64 t108,.int .i64 t109] 26 (0,0)) (by (with_reducible repeat (first|refine blk_drewN ?_ _|refine blk_drew ?_|refine blk_alloc ?_ _));exact BK110.out)) : gb122 ≠ gb110));clear HO105;clear HO113;clear HO117;clear BK110;clear HB;have HO105:=n0_;have HO113:=n1_;have HO117:=n2_;have BK110:=n3_;have HB:=n4_;have BK122:=n5_;have GW122:=n6_;have GE122:=n7_;have NB110_122:=n8_;have NB122_110:=n9_;clear n0_ n1_ n2_ n3_ n4_ n5_ n6_ n7_ n8_ n9_;clear hb hbox hg;have hnb44:=NB122_110.out;have hnc44:=NB110_122.out;have hcz45_0 : w43.cell? ⟨gb122,0,none⟩ = some (.int .i64 0):=(blk_cell BK122.out 0).trans rfl;have hcz45_1 : w43.cell? ⟨gb122,1,none⟩ = some (.int .i64 0):=(blk_cell BK122.out 1).trans rfl;have hcz45_2 : w43.cell? ⟨gb122,2,none⟩ = some (.int .i64 0):=(blk_cell BK122.out 2).trans rfl;have hfz45_0:=blk_frozen BK122.out 0;have hfz45_1:=blk_frozen BK122.out 1;have hfz45_2:=blk_frozen BK122.out 2;have hcz46_0 : w43.cell? ⟨gb110,0,none⟩ = some (.int .i64 t107):=(blk_cell BK110.out 0).trans rfl;have hcz46_1 : w43.cell? ⟨gb110,1,none⟩ = some (.int .i64 t108):=(blk_cell BK110.out 1).trans rfl;have hcz46_2 : w43.cell? ⟨gb110,2,none⟩ = some (.int .i64 t109):=(blk_cell BK110.out 2).trans rfl;have hfz46_0:=blk_frozen BK110.out 0;have hfz46_1:=blk_frozen BK110.out 1;have hfz46_2:=blk_frozen BK110.out 2;obtain ⟨Ao47,co47,eo47⟩:=Kd.R_slice HO117.out;subst eo47))
     go_ret
     exact ⟨by first|rfl|(simp [errW_none, errW_some] <;> rfl)|(simp [*, errW_none, errW_some] <;> rfl), by repeat (first|(with_reducible first|exact HB.out|apply below_alloc|apply pw_below_drewN|apply below_drew1|refine below_set ?_ GE110.out|refine below_set ?_ GE122.out)|exact HB.out)⟩
   ·rw [if_neg c6] at H
    have c6b0 : (t107 == 0 && (t108 == 0 && (t109 == 0))) = false := by simpa using c6
    (try (have c6b1 : decide (t107 = 0 && (t108 == 0 && (t109 == 0))) = false := by simpa using c6))
    (try (have c6b2 : (t107 == 0 && (t108 == 0 && (t109 == 0))) = false := by simpa using c6))
    (try (have c6b3 : ¬ (t107 = 0 && (t108 == 0 && (t109 == 0))) := by simpa using c6))
    clear c6
    obtain rfl := Option.some.inj H
    go_enter Tryd.func7, Tryd.ntmps7
    go_wp2_with (first|((with_reducible refine gate_callee (f:=8) rfl ?_);refine goesL_ (some 10) rfl rfl Tryd.func8 (by kernel_rfl) rfl #[.string (⟨#[97,49,32,58,61,10,39,98,39]⟩ : ByteArray)] rfl (by (try simp only [List.map_toArray,List.map_cons,List.map_nil]);first|done|rfl|(simp only [List.length_drop,List.length_take];rfl)) ?_;(with_reducible refine (scan_All.calls (⟨#[97,49,32,58,61,10,39,98,39]⟩ : ByteArray) t103 t106 t107 t108 t109 _ ?side1 A1.out).mono ?_);(case side1 => exact LW.below HLW.out (by repeat (first|(with_reducible first|exact HB.out|apply below_alloc|apply pw_below_drewN|apply below_drew1)|exact HB.out)));rintro e w48 ⟨v104,rfl,ho0,hb⟩;refine ⟨_,rfl,?_⟩;have n0_:=Aside0.mk (Kd.R_lower ho0 (below_size (by repeat (first|(with_reducible first|exact HB.out|apply below_alloc|apply pw_below_drewN|apply below_drew1)|exact HB.out))));have n1_:=Aside0.mk (below_step (by repeat (first|(with_reducible first|exact HB.out|apply below_alloc|apply pw_below_drewN|apply below_drew1)|exact HB.out)) hb);clear HB;have HO105:=n0_;have HB:=n1_;clear n0_ n1_;(try clear hb);(try clear hb2);(try clear hk);(try clear hi);(try clear ho0))|((with_reducible refine gate_dst (N:=3) rfl ?_);(try (refine gate_guard (by rfl) ?_;dsimp only));refine box_event ?hg (N:=3) ?hd (cs:=#[.int .i64 0,.int .i64 0,.int .i64 0]) (t:=26) ?hr ?_;(case hd => rfl);(case hg => rfl);(case hr => first|(go_simp;done)|(go_simp;rfl));intro gb110 hg w49 hbox hb;have n0_:=Aside0.mk (Kd.R_below (by (with_reducible repeat (first|apply Kd.R_alloc|apply Kd.R_drewN|apply Kd.R_drew));exact HO105.out) hb);have n1_:=Aside0.mk (below_step (by repeat (first|(with_reducible first|exact HB.out|apply below_alloc|apply pw_below_drewN|apply below_drew1)|exact HB.out)) hb);have n2_:=Aside0.mk (hbox);have n3_:=Aside0.mk ((by rw [hg];exact (below_size (by repeat (first|(with_reducible first|exact HB.out|apply below_alloc|apply pw_below_drewN|apply below_drew1)|exact HB.out))) : w.heap.size ≤ gb110));have n4_:=Aside0.mk ((by rw [hg];exact (below_size (by repeat (first|(with_reducible first|exact HB.out|apply below_alloc|apply pw_below_drewN|apply below_drew1)|exact HB.out))) : w.heap.size ≤ gb110));clear HO105;clear HB;have HO105:=n0_;have HB:=n1_;have BK110:=n2_;have GW110:=n3_;have GE110:=n4_;clear n0_ n1_ n2_ n3_ n4_;clear hb hbox hg;have hcz50_0 : w49.cell? ⟨gb110,0,none⟩ = some (.int .i64 0):=(blk_cell BK110.out 0).trans rfl;have hcz50_1 : w49.cell? ⟨gb110,1,none⟩ = some (.int .i64 0):=(blk_cell BK110.out 1).trans rfl;have hcz50_2 : w49.cell? ⟨gb110,2,none⟩ = some (.int .i64 0):=(blk_cell BK110.out 2).trans rfl;have hfz50_0:=blk_frozen BK110.out 0;have hfz50_1:=blk_frozen BK110.out 1;have hfz50_2:=blk_frozen BK110.out 2)|((with_reducible refine gate_dst (N:=20) rfl ?_);(try (refine gate_guard (by rfl) ?_;dsimp only));refine Kd.R_lit k35 _ 35 ?hg (N:=20) ?hd (xs:=([(⟨1,(⟨#[97,49]⟩ : ByteArray),(⟨0,1,1⟩ : S26),0⟩ : S35),(⟨6,(⟨#[58,61]⟩ : ByteArray),(⟨3,1,4⟩ : S26),0⟩ : S35),(⟨5,(⟨#[39,98,39]⟩ : ByteArray),(⟨6,2,1⟩ : S26),1⟩ : S35)] : List (S35))) (inner:=[.int .u8 1,.string (⟨#[97,49]⟩ : ByteArray),.int .i64 0,.int .i64 1,.int .i64 1,.int .i64 0,.int .u8 6,.string (⟨#[58,61]⟩ : ByteArray),.int .i64 3,.int .i64 1,.int .i64 4,.int .i64 0,.int .u8 5,.string (⟨#[39,98,39]⟩ : ByteArray),.int .i64 6,.int .i64 2,.int .i64 1,.int .i64 1]) (ok:=fun _ => True) (okp:=fun _ => True) ?hr ?hp (fun _ hk => hk) trivial (Below.refl _ _) (Nat.le_refl _) (by simp) ?_;(case hd => rfl);(case hg => rfl);(case hr => first|(go_simp;done)|(go_simp;rfl));(case hp => exact (Reps.c6 (show Kd.M k35 _ _ _ (⟨1,(⟨#[97,49]⟩ : ByteArray),(⟨0,1,1⟩ : S26),0⟩ : S35) [.int .u8 1,.string (⟨#[97,49]⟩ : ByteArray),.int .i64 0,.int .i64 1,.int .i64 1,.int .i64 0] from (k35_mkM _ _ _ (⟨1,(⟨#[97,49]⟩ : ByteArray),(⟨0,1,1⟩ : S26),0⟩ : S35) )) (Reps.c6 (show Kd.M k35 _ _ _ (⟨6,(⟨#[58,61]⟩ : ByteArray),(⟨3,1,4⟩ : S26),0⟩ : S35) [.int .u8 6,.string (⟨#[58,61]⟩ : ByteArray),.int .i64 3,.int .i64 1,.int .i64 4,.int .i64 0] from (k35_mkM _ _ _ (⟨6,(⟨#[58,61]⟩ : ByteArray),(⟨3,1,4⟩ : S26),0⟩ : S35) )) (Reps.c6 (show Kd.M k35 _ _ _ (⟨5,(⟨#[39,98,39]⟩ : ByteArray),(⟨6,2,1⟩ : S26),1⟩ : S35) [.int .u8 5,.string (⟨#[39,98,39]⟩ : ByteArray),.int .i64 6,.int .i64 2,.int .i64 1,.int .i64 1] from (k35_mkM _ _ _ (⟨5,(⟨#[39,98,39]⟩ : ByteArray),(⟨6,2,1⟩ : S26),1⟩ : S35) )) (Reps.none _ _)))));intro v112 w51 ho52 hb hg_ hnew_;clear hg_ hnew_;(first|rw [← Ny111.out] at ho52|(simp only [Int.reduceToNat] at ho52;rw [← Ny111.out] at ho52));have n0_:=Aside0.mk (Kd.R_elder' (by (with_reducible repeat (first|apply Kd.R_alloc|apply Kd.R_drewN|apply Kd.R_drew));exact (Kd.R_mono (Kd.R_far (p:=⟨gb110,2,none⟩) (Kd.R_far (p:=⟨gb110,1,none⟩) (Kd.R_far (p:=⟨gb110,0,none⟩) (Kd.R_types HO105.out BK110.out (by decide)) (fun _ hk => hk.2) (.int .i64 t107)) (fun _ hk => hk.2) (.int .i64 t108)) (fun _ hk => hk.2) (.int .i64 t109)) (fun _ h_ => h_.1))) (Kd.R_base ho52) hb);have n1_:=Aside0.mk (Kd.R_lower (Kd.R_new' ho52 (Kd.R_lt (by (with_reducible repeat (first|apply Kd.R_alloc|apply Kd.R_drewN|apply Kd.R_drew));exact (Kd.R_mono (Kd.R_far (p:=⟨gb110,2,none⟩) (Kd.R_far (p:=⟨gb110,1,none⟩) (Kd.R_far (p:=⟨gb110,0,none⟩) (Kd.R_types HO105.out BK110.out (by decide)) (fun _ hk => hk.2) (.int .i64 t107)) (fun _ hk => hk.2) (.int .i64 t108)) (fun _ hk => hk.2) (.int .i64 t109)) (fun _ h_ => h_.1))))) (below_size (by repeat (first|(with_reducible first|exact HB.out|apply below_alloc|apply pw_below_drewN|apply below_drew1|refine below_set ?_ GE110.out)|exact HB.out))));have n2_:=Aside0.mk (blk_below (g:=gb110) (o:=.cells #[.int .i64 t107,.int .i64 t108,.int .i64 t109] 26 (0,0)) (by (with_reducible repeat (first|refine blk_drewN ?_ _|refine blk_drew ?_|refine blk_alloc ?_ _));refine blk_put (cs:=#[.int .i64 t107,.int .i64 t108,.int .i64 0]) ?_ 2 _ rfl;(with_reducible repeat (first|refine blk_drewN ?_ _|refine blk_drew ?_|refine blk_alloc ?_ _));refine blk_put (cs:=#[.int .i64 t107,.int .i64 0,.int .i64 0]) ?_ 1 _ rfl;(with_reducible repeat (first|refine blk_drewN ?_ _|refine blk_drew ?_|refine blk_alloc ?_ _));refine blk_put (cs:=#[.int .i64 0,.int .i64 0,.int .i64 0]) ?_ 0 _ rfl;(with_reducible repeat (first|refine blk_drewN ?_ _|refine blk_drew ?_|refine blk_alloc ?_ _));exact BK110.out) hb);have n3_:=Aside0.mk (below_step (by repeat (first|(with_reducible first|exact HB.out|apply below_alloc|apply pw_below_drewN|apply below_drew1|refine below_set ?_ GE110.out)|exact HB.out)) hb);clear HO105;clear BK110;clear HB;have HO105:=n0_;have HO113:=n1_;have BK110:=n2_;have HB:=n3_;clear n0_ n1_ n2_ n3_;clear hb ho52;obtain ⟨Ao53,co53,eo53⟩:=Kd.R_slice HO105.out;subst eo53;obtain ⟨Ao54,co54,eo54⟩:=Kd.R_slice HO113.out;subst eo54)|((with_reducible refine gate_callee (f:=10) rfl ?_);refine goesL_ (some 23) rfl rfl Tryd.func10 (by kernel_rfl) rfl #[.slice Ao53 t103.length co53,.slice Ao54 y111.length co54] rfl (by (try simp only [List.map_toArray,List.map_cons,List.map_nil]);first|done|rfl|(simp only [List.length_drop,List.length_take];rfl)) ?_;(with_reducible refine (colophonlaw10_same.calls k _ _ t103 _ _ y111 true _ ?side1 ?side2 ?side3 ?side4 A2.out).mono ?_);(case side1 => repeat (first|exact (Kd.R_reads' HO105.out).2.2|(with_reducible refine Kd.C_alloc ?_ _)|(with_reducible refine Kd.C_drewN ?_ _)|(with_reducible refine Kd.C_drew ?_)));(case side2 => exact (Kd.R_reads' HO105.out).2.1);(case side3 => repeat (first|exact (Kd.R_reads' HO113.out).2.2|(with_reducible refine Kd.C_alloc ?_ _)|(with_reducible refine Kd.C_drewN ?_ _)|(with_reducible refine Kd.C_drew ?_)));(case side4 => exact (Kd.R_reads' HO113.out).2.1);rintro e w' ⟨rfl,⟨nd,rfl⟩⟩;refine ⟨_,rfl,?_⟩;(try (rw [drewN_self w51];generalize hq_ : World.drewN w51 _ = w51;have n0_ : Aside0 (Kd.R k35 35 w51 w.heap.size (fun k_ => some k_ ≠ (.slice Ao54 y111.length co54 : Value).ownBlock) (.slice Ao53 t103.length co53) t103):=⟨by rw [← hq_];exact (by (with_reducible repeat (first|apply Kd.R_alloc|apply Kd.R_drewN|apply Kd.R_drew));exact Kd.R_mono HO105.out (fun _ hk => hk.2))⟩;have n1_ : Aside0 (Kd.R k35 35 w51 w.heap.size (fun k_ => some k_ ≠ (.slice Ao53 t103.length co53 : Value).ownBlock) (.slice Ao54 y111.length co54) y111):=⟨by rw [← hq_];exact (by (with_reducible repeat (first|apply Kd.R_alloc|apply Kd.R_drewN|apply Kd.R_drew));exact Kd.R_mono HO113.out (fun _ hk => hk.2))⟩;have n2_ : Aside0 (w51.heap[gb110]? = some (.cells #[.int .i64 t107,.int .i64 t108,.int .i64 t109] 26 (0,0))):=⟨by rw [← hq_];exact (by (with_reducible repeat (first|refine blk_drewN ?_ _|refine blk_drew ?_|refine blk_alloc ?_ _));exact BK110.out)⟩;have n3_ : Aside0 (Below w.heap.size w w51):=⟨by rw [← hq_];exact (by repeat (first|(with_reducible first|exact HB.out|apply below_alloc|apply pw_below_drewN|apply below_drew1|refine below_set ?_ GE110.out)|exact HB.out))⟩;clear HO105 HO113 BK110 HB hq_;have HO105:=n0_;have HO113:=n1_;have BK110:=n2_;have HB:=n3_;clear n0_ n1_ n2_ n3_)))|((with_reducible refine gate_callee (f:=8) rfl ?_);refine goesL_ (some 25) rfl rfl Tryd.func8 (by kernel_rfl) rfl #[.string (⟨#[97,10,32,63]⟩ : ByteArray)] rfl (by (try simp only [List.map_toArray,List.map_cons,List.map_nil]);first|done|rfl|(simp only [List.length_drop,List.length_take];rfl)) ?_;(with_reducible refine (scan_All.calls (⟨#[97,10,32,63]⟩ : ByteArray) t115 t118 t119 t120 t121 _ ?side1 A3.out).mono ?_);(case side1 => exact LW.below HLW.out (by repeat (first|(with_reducible first|exact HB.out|apply below_alloc|apply pw_below_drewN|apply below_drew1|refine below_set ?_ GE110.out)|exact HB.out)));rintro e w55 ⟨v116,rfl,ho0,hb⟩;refine ⟨_,rfl,?_⟩;have n0_:=Aside0.mk (Kd.R_elder' (by (with_reducible repeat (first|apply Kd.R_alloc|apply Kd.R_drewN|apply Kd.R_drew));exact HO105.out) (Kd.R_base ho0) hb);have n1_:=Aside0.mk (Kd.R_elder' (by (with_reducible repeat (first|apply Kd.R_alloc|apply Kd.R_drewN|apply Kd.R_drew));exact HO113.out) (Kd.R_base ho0) hb);have n2_:=Aside0.mk (Kd.R_lower (Kd.R_new' (Kd.R_new' ho0 (Kd.R_lt (by (with_reducible repeat (first|apply Kd.R_alloc|apply Kd.R_drewN|apply Kd.R_drew));exact HO105.out))) (Kd.R_lt (by (with_reducible repeat (first|apply Kd.R_alloc|apply Kd.R_drewN|apply Kd.R_drew));exact HO113.out))) (below_size (by repeat (first|(with_reducible first|exact HB.out|apply below_alloc|apply pw_below_drewN|apply below_drew1|refine below_set ?_ GE110.out)|exact HB.out))));have n3_:=Aside0.mk (blk_below (g:=gb110) (o:=.cells #[.int .i64 t107,.int .i64 t108,.int .i64 t109] 26 (0,0)) (by (with_reducible repeat (first|refine blk_drewN ?_ _|refine blk_drew ?_|refine blk_alloc ?_ _));exact BK110.out) hb);have n4_:=Aside0.mk (below_step (by repeat (first|(with_reducible first|exact HB.out|apply below_alloc|apply pw_below_drewN|apply below_drew1|refine below_set ?_ GE110.out)|exact HB.out)) hb);clear HO105;clear HO113;clear BK110;clear HB;have HO105:=n0_;have HO113:=n1_;have HO117:=n2_;have BK110:=n3_;have HB:=n4_;clear n0_ n1_ n2_ n3_ n4_;(try clear hb);(try clear hb2);(try clear hk);(try clear hi);(try clear ho0))|((with_reducible refine gate_dst (N:=8) rfl ?_);(try (refine gate_guard (by rfl) ?_;dsimp only));refine box_event ?hg (N:=8) ?hd (cs:=#[.int .i64 0,.int .i64 0,.int .i64 0]) (t:=26) ?hr ?_;(case hd => rfl);(case hg => rfl);(case hr => first|(go_simp;done)|(go_simp;rfl));intro gb122 hg w56 hbox hb;have n0_:=Aside0.mk (Kd.R_below (by (with_reducible repeat (first|apply Kd.R_alloc|apply Kd.R_drewN|apply Kd.R_drew));exact HO105.out) hb);have n1_:=Aside0.mk (Kd.R_below (by (with_reducible repeat (first|apply Kd.R_alloc|apply Kd.R_drewN|apply Kd.R_drew));exact HO113.out) hb);have n2_:=Aside0.mk (Kd.R_below (by (with_reducible repeat (first|apply Kd.R_alloc|apply Kd.R_drewN|apply Kd.R_drew));exact HO117.out) hb);have n3_:=Aside0.mk (blk_below (g:=gb110) (o:=.cells #[.int .i64 t107,.int .i64 t108,.int .i64 t109] 26 (0,0)) (by (with_reducible repeat (first|refine blk_drewN ?_ _|refine blk_drew ?_|refine blk_alloc ?_ _));exact BK110.out) hb);have n4_:=Aside0.mk (below_step (by repeat (first|(with_reducible first|exact HB.out|apply below_alloc|apply pw_below_drewN|apply below_drew1|refine below_set ?_ GE110.out)|exact HB.out)) hb);have n5_:=Aside0.mk (hbox);have n6_:=Aside0.mk ((by rw [hg];exact (below_size (by repeat (first|(with_reducible first|exact HB.out|apply below_alloc|apply pw_below_drewN|apply below_drew1|refine below_set ?_ GE110.out)|exact HB.out))) : w.heap.size ≤ gb122));have n7_:=Aside0.mk ((by rw [hg];exact (below_size (by repeat (first|(with_reducible first|exact HB.out|apply below_alloc|apply pw_below_drewN|apply below_drew1|refine below_set ?_ GE110.out)|exact HB.out))) : w.heap.size ≤ gb122));have n8_:=Aside0.mk ((by rw [hg];exact Nat.ne_of_lt (blk_lt (g:=gb110) (o:=.cells #[.int .i64 t107,.int .i64 t108,.int .i64 t109] 26 (0,0)) (by (with_reducible repeat (first|refine blk_drewN ?_ _|refine blk_drew ?_|refine blk_alloc ?_ _));exact BK110.out)) : gb110 ≠ gb122));have n9_:=Aside0.mk ((by rw [hg];exact Nat.ne_of_gt (blk_lt (g:=gb110) (o:=.cells #[.int .i64 t107,.int .i64 t108,.int .i64 t109] 26 (0,0)) (by (with_reducible repeat (first|refine blk_drewN ?_ _|refine blk_drew ?_|refine blk_alloc ?_ _));exact BK110.out)) : gb122 ≠ gb110));clear HO105;clear HO113;clear HO117;clear BK110;clear HB;have HO105:=n0_;have HO113:=n1_;have HO117:=n2_;have BK110:=n3_;have HB:=n4_;have BK122:=n5_;have GW122:=n6_;have GE122:=n7_;have NB110_122:=n8_;have NB122_110:=n9_;clear n0_ n1_ n2_ n3_ n4_ n5_ n6_ n7_ n8_ n9_;clear hb hbox hg;have hnb57:=NB122_110.out;have hnc57:=NB110_122.out;have hcz58_0 : w56.cell? ⟨gb122,0,none⟩ = some (.int .i64 0):=(blk_cell BK122.out 0).trans rfl;have hcz58_1 : w56.cell? ⟨gb122,1,none⟩ = some (.int .i64 0):=(blk_cell BK122.out 1).trans rfl;have hcz58_2 : w56.cell? ⟨gb122,2,none⟩ = some (.int .i64 0):=(blk_cell BK122.out 2).trans rfl;have hfz58_0:=blk_frozen BK122.out 0;have hfz58_1:=blk_frozen BK122.out 1;have hfz58_2:=blk_frozen BK122.out 2;have hcz59_0 : w56.cell? ⟨gb110,0,none⟩ = some (.int .i64 t107):=(blk_cell BK110.out 0).trans rfl;have hcz59_1 : w56.cell? ⟨gb110,1,none⟩ = some (.int .i64 t108):=(blk_cell BK110.out 1).trans rfl;have hcz59_2 : w56.cell? ⟨gb110,2,none⟩ = some (.int .i64 t109):=(blk_cell BK110.out 2).trans rfl;have hfz59_0:=blk_frozen BK110.out 0;have hfz59_1:=blk_frozen BK110.out 1;have hfz59_2:=blk_frozen BK110.out 2))
    go_ret
    exact ⟨by first|rfl|(simp [errW_none, errW_some] <;> rfl)|(simp [*, errW_none, errW_some] <;> rfl), by repeat (first|(with_reducible first|exact HB.out|apply below_alloc|apply pw_below_drewN|apply below_drew1|refine below_set ?_ GE110.out|refine below_set ?_ GE122.out)|exact HB.out)⟩
  ·rw [if_neg c5] at H
   have c5b0 : (t106 == 0) = false := beq_eq_false_iff_ne.mpr c5
   have c5b1 : (t106 != 0) = true := bne_iff_ne.mpr c5
   obtain rfl := Option.some.inj H
   go_enter Tryd.func7, Tryd.ntmps7
   go_wp2_with (first|((with_reducible refine gate_callee (f:=8) rfl ?_);refine goesL_ (some 10) rfl rfl Tryd.func8 (by kernel_rfl) rfl #[.string (⟨#[97,49,32,58,61,10,39,98,39]⟩ : ByteArray)] rfl (by (try simp only [List.map_toArray,List.map_cons,List.map_nil]);first|done|rfl|(simp only [List.length_drop,List.length_take];rfl)) ?_;(with_reducible refine (scan_All.calls (⟨#[97,49,32,58,61,10,39,98,39]⟩ : ByteArray) t103 t106 t107 t108 t109 _ ?side1 A1.out).mono ?_);(case side1 => exact LW.below HLW.out (by repeat (first|(with_reducible first|exact HB.out|apply below_alloc|apply pw_below_drewN|apply below_drew1)|exact HB.out)));rintro e w60 ⟨v104,rfl,ho0,hb⟩;refine ⟨_,rfl,?_⟩;have n0_:=Aside0.mk (Kd.R_lower ho0 (below_size (by repeat (first|(with_reducible first|exact HB.out|apply below_alloc|apply pw_below_drewN|apply below_drew1)|exact HB.out))));have n1_:=Aside0.mk (below_step (by repeat (first|(with_reducible first|exact HB.out|apply below_alloc|apply pw_below_drewN|apply below_drew1)|exact HB.out)) hb);clear HB;have HO105:=n0_;have HB:=n1_;clear n0_ n1_;(try clear hb);(try clear hb2);(try clear hk);(try clear hi);(try clear ho0))|((with_reducible refine gate_dst (N:=3) rfl ?_);(try (refine gate_guard (by rfl) ?_;dsimp only));refine box_event ?hg (N:=3) ?hd (cs:=#[.int .i64 0,.int .i64 0,.int .i64 0]) (t:=26) ?hr ?_;(case hd => rfl);(case hg => rfl);(case hr => first|(go_simp;done)|(go_simp;rfl));intro gb110 hg w61 hbox hb;have n0_:=Aside0.mk (Kd.R_below (by (with_reducible repeat (first|apply Kd.R_alloc|apply Kd.R_drewN|apply Kd.R_drew));exact HO105.out) hb);have n1_:=Aside0.mk (below_step (by repeat (first|(with_reducible first|exact HB.out|apply below_alloc|apply pw_below_drewN|apply below_drew1)|exact HB.out)) hb);have n2_:=Aside0.mk (hbox);have n3_:=Aside0.mk ((by rw [hg];exact (below_size (by repeat (first|(with_reducible first|exact HB.out|apply below_alloc|apply pw_below_drewN|apply below_drew1)|exact HB.out))) : w.heap.size ≤ gb110));have n4_:=Aside0.mk ((by rw [hg];exact (below_size (by repeat (first|(with_reducible first|exact HB.out|apply below_alloc|apply pw_below_drewN|apply below_drew1)|exact HB.out))) : w.heap.size ≤ gb110));clear HO105;clear HB;have HO105:=n0_;have HB:=n1_;have BK110:=n2_;have GW110:=n3_;have GE110:=n4_;clear n0_ n1_ n2_ n3_ n4_;clear hb hbox hg;have hcz62_0 : w61.cell? ⟨gb110,0,none⟩ = some (.int .i64 0):=(blk_cell BK110.out 0).trans rfl;have hcz62_1 : w61.cell? ⟨gb110,1,none⟩ = some (.int .i64 0):=(blk_cell BK110.out 1).trans rfl;have hcz62_2 : w61.cell? ⟨gb110,2,none⟩ = some (.int .i64 0):=(blk_cell BK110.out 2).trans rfl;have hfz62_0:=blk_frozen BK110.out 0;have hfz62_1:=blk_frozen BK110.out 1;have hfz62_2:=blk_frozen BK110.out 2)|((with_reducible refine gate_dst (N:=20) rfl ?_);(try (refine gate_guard (by rfl) ?_;dsimp only));refine Kd.R_lit k35 _ 35 ?hg (N:=20) ?hd (xs:=([(⟨1,(⟨#[97,49]⟩ : ByteArray),(⟨0,1,1⟩ : S26),0⟩ : S35),(⟨6,(⟨#[58,61]⟩ : ByteArray),(⟨3,1,4⟩ : S26),0⟩ : S35),(⟨5,(⟨#[39,98,39]⟩ : ByteArray),(⟨6,2,1⟩ : S26),1⟩ : S35)] : List (S35))) (inner:=[.int .u8 1,.string (⟨#[97,49]⟩ : ByteArray),.int .i64 0,.int .i64 1,.int .i64 1,.int .i64 0,.int .u8 6,.string (⟨#[58,61]⟩ : ByteArray),.int .i64 3,.int .i64 1,.int .i64 4,.int .i64 0,.int .u8 5,.string (⟨#[39,98,39]⟩ : ByteArray),.int .i64 6,.int .i64 2,.int .i64 1,.int .i64 1]) (ok:=fun _ => True) (okp:=fun _ => True) ?hr ?hp (fun _ hk => hk) trivial (Below.refl _ _) (Nat.le_refl _) (by simp) ?_;(case hd => rfl);(case hg => rfl);(case hr => first|(go_simp;done)|(go_simp;rfl));(case hp => exact (Reps.c6 (show Kd.M k35 _ _ _ (⟨1,(⟨#[97,49]⟩ : ByteArray),(⟨0,1,1⟩ : S26),0⟩ : S35) [.int .u8 1,.string (⟨#[97,49]⟩ : ByteArray),.int .i64 0,.int .i64 1,.int .i64 1,.int .i64 0] from (k35_mkM _ _ _ (⟨1,(⟨#[97,49]⟩ : ByteArray),(⟨0,1,1⟩ : S26),0⟩ : S35) )) (Reps.c6 (show Kd.M k35 _ _ _ (⟨6,(⟨#[58,61]⟩ : ByteArray),(⟨3,1,4⟩ : S26),0⟩ : S35) [.int .u8 6,.string (⟨#[58,61]⟩ : ByteArray),.int .i64 3,.int .i64 1,.int .i64 4,.int .i64 0] from (k35_mkM _ _ _ (⟨6,(⟨#[58,61]⟩ : ByteArray),(⟨3,1,4⟩ : S26),0⟩ : S35) )) (Reps.c6 (show Kd.M k35 _ _ _ (⟨5,(⟨#[39,98,39]⟩ : ByteArray),(⟨6,2,1⟩ : S26),1⟩ : S35) [.int .u8 5,.string (⟨#[39,98,39]⟩ : ByteArray),.int .i64 6,.int .i64 2,.int .i64 1,.int .i64 1] from (k35_mkM _ _ _ (⟨5,(⟨#[39,98,39]⟩ : ByteArray),(⟨6,2,1⟩ : S26),1⟩ : S35) )) (Reps.none _ _)))));intro v112 w63 ho64 hb hg_ hnew_;clear hg_ hnew_;(first|rw [← Ny111.out] at ho64|(simp only [Int.reduceToNat] at ho64;rw [← Ny111.out] at ho64));have n0_:=Aside0.mk (Kd.R_elder' (by (with_reducible repeat (first|apply Kd.R_alloc|apply Kd.R_drewN|apply Kd.R_drew));exact (Kd.R_mono (Kd.R_far (p:=⟨gb110,2,none⟩) (Kd.R_far (p:=⟨gb110,1,none⟩) (Kd.R_far (p:=⟨gb110,0,none⟩) (Kd.R_types HO105.out BK110.out (by decide)) (fun _ hk => hk.2) (.int .i64 t107)) (fun _ hk => hk.2) (.int .i64 t108)) (fun _ hk => hk.2) (.int .i64 t109)) (fun _ h_ => h_.1))) (Kd.R_base ho64) hb);have n1_:=Aside0.mk (Kd.R_lower (Kd.R_new' ho64 (Kd.R_lt (by (with_reducible repeat (first|apply Kd.R_alloc|apply Kd.R_drewN|apply Kd.R_drew));exact (Kd.R_mono (Kd.R_far (p:=⟨gb110,2,none⟩) (Kd.R_far (p:=⟨gb110,1,none⟩) (Kd.R_far (p:=⟨gb110,0,none⟩) (Kd.R_types HO105.out BK110.out (by decide)) (fun _ hk => hk.2) (.int .i64 t107)) (fun _ hk => hk.2) (.int .i64 t108)) (fun _ hk => hk.2) (.int .i64 t109)) (fun _ h_ => h_.1))))) (below_size (by repeat (first|(with_reducible first|exact HB.out|apply below_alloc|apply pw_below_drewN|apply below_drew1|refine below_set ?_ GE110.out)|exact HB.out))));have n2_:=Aside0.mk (blk_below (g:=gb110) (o:=.cells #[.int .i64 t107,.int .i64 t108,.int .i64 t109] 26 (0,0)) (by (with_reducible repeat (first|refine blk_drewN ?_ _|refine blk_drew ?_|refine blk_alloc ?_ _));refine blk_put (cs:=#[.int .i64 t107,.int .i64 t108,.int .i64 0]) ?_ 2 _ rfl;(with_reducible repeat (first|refine blk_drewN ?_ _|refine blk_drew ?_|refine blk_alloc ?_ _));refine blk_put (cs:=#[.int .i64 t107,.int .i64 0,.int .i64 0]) ?_ 1 _ rfl;(with_reducible repeat (first|refine blk_drewN ?_ _|refine blk_drew ?_|refine blk_alloc ?_ _));refine blk_put (cs:=#[.int .i64 0,.int .i64 0,.int .i64 0]) ?_ 0 _ rfl;(with_reducible repeat (first|refine blk_drewN ?_ _|refine blk_drew ?_|refine blk_alloc ?_ _));exact BK110.out) hb);have n3_:=Aside0.mk (below_step (by repeat (first|(with_reducible first|exact HB.out|apply below_alloc|apply pw_below_drewN|apply below_drew1|refine below_set ?_ GE110.out)|exact HB.out)) hb);clear HO105;clear BK110;clear HB;have HO105:=n0_;have HO113:=n1_;have BK110:=n2_;have HB:=n3_;clear n0_ n1_ n2_ n3_;clear hb ho64;obtain ⟨Ao65,co65,eo65⟩:=Kd.R_slice HO105.out;subst eo65;obtain ⟨Ao66,co66,eo66⟩:=Kd.R_slice HO113.out;subst eo66)|((with_reducible refine gate_callee (f:=10) rfl ?_);refine goesL_ (some 23) rfl rfl Tryd.func10 (by kernel_rfl) rfl #[.slice Ao65 t103.length co65,.slice Ao66 y111.length co66] rfl (by (try simp only [List.map_toArray,List.map_cons,List.map_nil]);first|done|rfl|(simp only [List.length_drop,List.length_take];rfl)) ?_;(with_reducible refine (colophonlaw10_same.calls k _ _ t103 _ _ y111 true _ ?side1 ?side2 ?side3 ?side4 A2.out).mono ?_);(case side1 => repeat (first|exact (Kd.R_reads' HO105.out).2.2|(with_reducible refine Kd.C_alloc ?_ _)|(with_reducible refine Kd.C_drewN ?_ _)|(with_reducible refine Kd.C_drew ?_)));(case side2 => exact (Kd.R_reads' HO105.out).2.1);(case side3 => repeat (first|exact (Kd.R_reads' HO113.out).2.2|(with_reducible refine Kd.C_alloc ?_ _)|(with_reducible refine Kd.C_drewN ?_ _)|(with_reducible refine Kd.C_drew ?_)));(case side4 => exact (Kd.R_reads' HO113.out).2.1);rintro e w' ⟨rfl,⟨nd,rfl⟩⟩;refine ⟨_,rfl,?_⟩;(try (rw [drewN_self w63];generalize hq_ : World.drewN w63 _ = w63;have n0_ : Aside0 (Kd.R k35 35 w63 w.heap.size (fun k_ => some k_ ≠ (.slice Ao66 y111.length co66 : Value).ownBlock) (.slice Ao65 t103.length co65) t103):=⟨by rw [← hq_];exact (by (with_reducible repeat (first|apply Kd.R_alloc|apply Kd.R_drewN|apply Kd.R_drew));exact Kd.R_mono HO105.out (fun _ hk => hk.2))⟩;have n1_ : Aside0 (Kd.R k35 35 w63 w.heap.size (fun k_ => some k_ ≠ (.slice Ao65 t103.length co65 : Value).ownBlock) (.slice Ao66 y111.length co66) y111):=⟨by rw [← hq_];exact (by (with_reducible repeat (first|apply Kd.R_alloc|apply Kd.R_drewN|apply Kd.R_drew));exact Kd.R_mono HO113.out (fun _ hk => hk.2))⟩;have n2_ : Aside0 (w63.heap[gb110]? = some (.cells #[.int .i64 t107,.int .i64 t108,.int .i64 t109] 26 (0,0))):=⟨by rw [← hq_];exact (by (with_reducible repeat (first|refine blk_drewN ?_ _|refine blk_drew ?_|refine blk_alloc ?_ _));exact BK110.out)⟩;have n3_ : Aside0 (Below w.heap.size w w63):=⟨by rw [← hq_];exact (by repeat (first|(with_reducible first|exact HB.out|apply below_alloc|apply pw_below_drewN|apply below_drew1|refine below_set ?_ GE110.out)|exact HB.out))⟩;clear HO105 HO113 BK110 HB hq_;have HO105:=n0_;have HO113:=n1_;have BK110:=n2_;have HB:=n3_;clear n0_ n1_ n2_ n3_)))|((with_reducible refine gate_callee (f:=8) rfl ?_);refine goesL_ (some 25) rfl rfl Tryd.func8 (by kernel_rfl) rfl #[.string (⟨#[97,10,32,63]⟩ : ByteArray)] rfl (by (try simp only [List.map_toArray,List.map_cons,List.map_nil]);first|done|rfl|(simp only [List.length_drop,List.length_take];rfl)) ?_;(with_reducible refine (scan_All.calls (⟨#[97,10,32,63]⟩ : ByteArray) t115 t118 t119 t120 t121 _ ?side1 A3.out).mono ?_);(case side1 => exact LW.below HLW.out (by repeat (first|(with_reducible first|exact HB.out|apply below_alloc|apply pw_below_drewN|apply below_drew1|refine below_set ?_ GE110.out)|exact HB.out)));rintro e w67 ⟨v116,rfl,ho0,hb⟩;refine ⟨_,rfl,?_⟩;have n0_:=Aside0.mk (Kd.R_elder' (by (with_reducible repeat (first|apply Kd.R_alloc|apply Kd.R_drewN|apply Kd.R_drew));exact HO105.out) (Kd.R_base ho0) hb);have n1_:=Aside0.mk (Kd.R_elder' (by (with_reducible repeat (first|apply Kd.R_alloc|apply Kd.R_drewN|apply Kd.R_drew));exact HO113.out) (Kd.R_base ho0) hb);have n2_:=Aside0.mk (Kd.R_lower (Kd.R_new' (Kd.R_new' ho0 (Kd.R_lt (by (with_reducible repeat (first|apply Kd.R_alloc|apply Kd.R_drewN|apply Kd.R_drew));exact HO105.out))) (Kd.R_lt (by (with_reducible repeat (first|apply Kd.R_alloc|apply Kd.R_drewN|apply Kd.R_drew));exact HO113.out))) (below_size (by repeat (first|(with_reducible first|exact HB.out|apply below_alloc|apply pw_below_drewN|apply below_drew1|refine below_set ?_ GE110.out)|exact HB.out))));have n3_:=Aside0.mk (blk_below (g:=gb110) (o:=.cells #[.int .i64 t107,.int .i64 t108,.int .i64 t109] 26 (0,0)) (by (with_reducible repeat (first|refine blk_drewN ?_ _|refine blk_drew ?_|refine blk_alloc ?_ _));exact BK110.out) hb);have n4_:=Aside0.mk (below_step (by repeat (first|(with_reducible first|exact HB.out|apply below_alloc|apply pw_below_drewN|apply below_drew1|refine below_set ?_ GE110.out)|exact HB.out)) hb);clear HO105;clear HO113;clear BK110;clear HB;have HO105:=n0_;have HO113:=n1_;have HO117:=n2_;have BK110:=n3_;have HB:=n4_;clear n0_ n1_ n2_ n3_ n4_;(try clear hb);(try clear hb2);(try clear hk);(try clear hi);(try clear ho0))|((with_reducible refine gate_dst (N:=8) rfl ?_);(try (refine gate_guard (by rfl) ?_;dsimp only));refine box_event ?hg (N:=8) ?hd (cs:=#[.int .i64 0,.int .i64 0,.int .i64 0]) (t:=26) ?hr ?_;(case hd => rfl);(case hg => rfl);(case hr => first|(go_simp;done)|(go_simp;rfl));intro gb122 hg w68 hbox hb;have n0_:=Aside0.mk (Kd.R_below (by (with_reducible repeat (first|apply Kd.R_alloc|apply Kd.R_drewN|apply Kd.R_drew));exact HO105.out) hb);have n1_:=Aside0.mk (Kd.R_below (by (with_reducible repeat (first|apply Kd.R_alloc|apply Kd.R_drewN|apply Kd.R_drew));exact HO113.out) hb);have n2_:=Aside0.mk (Kd.R_below (by (with_reducible repeat (first|apply Kd.R_alloc|apply Kd.R_drewN|apply Kd.R_drew));exact HO117.out) hb);have n3_:=Aside0.mk (blk_below (g:=gb110) (o:=.cells #[.int .i64 t107,.int .i64 t108,.int .i64 t109] 26 (0,0)) (by (with_reducible repeat (first|refine blk_drewN ?_ _|refine blk_drew ?_|refine blk_alloc ?_ _));exact BK110.out) hb);have n4_:=Aside0.mk (below_step (by repeat (first|(with_reducible first|exact HB.out|apply below_alloc|apply pw_below_drewN|apply below_drew1|refine below_set ?_ GE110.out)|exact HB.out)) hb);have n5_:=Aside0.mk (hbox);have n6_:=Aside0.mk ((by rw [hg];exact (below_size (by repeat (first|(with_reducible first|exact HB.out|apply below_alloc|apply pw_below_drewN|apply below_drew1|refine below_set ?_ GE110.out)|exact HB.out))) : w.heap.size ≤ gb122));have n7_:=Aside0.mk ((by rw [hg];exact (below_size (by repeat (first|(with_reducible first|exact HB.out|apply below_alloc|apply pw_below_drewN|apply below_drew1|refine below_set ?_ GE110.out)|exact HB.out))) : w.heap.size ≤ gb122));have n8_:=Aside0.mk ((by rw [hg];exact Nat.ne_of_lt (blk_lt (g:=gb110) (o:=.cells #[.int .i64 t107,.int .i64 t108,.int .i64 t109] 26 (0,0)) (by (with_reducible repeat (first|refine blk_drewN ?_ _|refine blk_drew ?_|refine blk_alloc ?_ _));exact BK110.out)) : gb110 ≠ gb122));have n9_:=Aside0.mk ((by rw [hg];exact Nat.ne_of_gt (blk_lt (g:=gb110) (o:=.cells #[.int .i64 t107,.int .i64 t108,.int .i64 t109] 26 (0,0)) (by (with_reducible repeat (first|refine blk_drewN ?_ _|refine blk_drew ?_|refine blk_alloc ?_ _));exact BK110.out)) : gb122 ≠ gb110));clear HO105;clear HO113;clear HO117;clear BK110;clear HB;have HO105:=n0_;have HO113:=n1_;have HO117:=n2_;have BK110:=n3_;have HB:=n4_;have BK122:=n5_;have GW122:=n6_;have GE122:=n7_;have NB110_122:=n8_;have NB122_110:=n9_;clear n0_ n1_ n2_ n3_ n4_ n5_ n6_ n7_ n8_ n9_;clear hb hbox hg;have hnb69:=NB122_110.out;have hnc69:=NB110_122.out;have hcz70_0 : w68.cell? ⟨gb122,0,none⟩ = some (.int .i64 0):=(blk_cell BK122.out 0).trans rfl;have hcz70_1 : w68.cell? ⟨gb122,1,none⟩ = some (.int .i64 0):=(blk_cell BK122.out 1).trans rfl;have hcz70_2 : w68.cell? ⟨gb122,2,none⟩ = some (.int .i64 0):=(blk_cell BK122.out 2).trans rfl;have hfz70_0:=blk_frozen BK122.out 0;have hfz70_1:=blk_frozen BK122.out 1;have hfz70_2:=blk_frozen BK122.out 2))
   go_ret
   exact ⟨by first|rfl|(simp [errW_none, errW_some] <;> rfl)|(simp [*, errW_none, errW_some] <;> rfl), by repeat (first|(with_reducible first|exact HB.out|apply below_alloc|apply pw_below_drewN|apply below_drew1|refine below_set ?_ GE110.out|refine below_set ?_ GE122.out)|exact HB.out)⟩
 ·replace c4 := Bool.eq_false_iff.mpr c4
  subst c4
  have H1 : (some false) = some r := by rw [if_neg (show ¬ (false = true) by decide)] at H; exact H
  clear H
  have H := H1
  clear H1
  obtain rfl := Option.some.inj H
  go_enter Tryd.func7, Tryd.ntmps7
  go_wp2_with (first|((with_reducible refine gate_callee (f:=8) rfl ?_);refine goesL_ (some 10) rfl rfl Tryd.func8 (by kernel_rfl) rfl #[.string (⟨#[97,49,32,58,61,10,39,98,39]⟩ : ByteArray)] rfl (by (try simp only [List.map_toArray,List.map_cons,List.map_nil]);first|done|rfl|(simp only [List.length_drop,List.length_take];rfl)) ?_;(with_reducible refine (scan_All.calls (⟨#[97,49,32,58,61,10,39,98,39]⟩ : ByteArray) t103 t106 t107 t108 t109 _ ?side1 A1.out).mono ?_);(case side1 => exact LW.below HLW.out (by repeat (first|(with_reducible first|exact HB.out|apply below_alloc|apply pw_below_drewN|apply below_drew1)|exact HB.out)));rintro e w71 ⟨v104,rfl,ho0,hb⟩;refine ⟨_,rfl,?_⟩;have n0_:=Aside0.mk (Kd.R_lower ho0 (below_size (by repeat (first|(with_reducible first|exact HB.out|apply below_alloc|apply pw_below_drewN|apply below_drew1)|exact HB.out))));have n1_:=Aside0.mk (below_step (by repeat (first|(with_reducible first|exact HB.out|apply below_alloc|apply pw_below_drewN|apply below_drew1)|exact HB.out)) hb);clear HB;have HO105:=n0_;have HB:=n1_;clear n0_ n1_;(try clear hb);(try clear hb2);(try clear hk);(try clear hi);(try clear ho0))|((with_reducible refine gate_dst (N:=3) rfl ?_);(try (refine gate_guard (by rfl) ?_;dsimp only));refine box_event ?hg (N:=3) ?hd (cs:=#[.int .i64 0,.int .i64 0,.int .i64 0]) (t:=26) ?hr ?_;(case hd => rfl);(case hg => rfl);(case hr => first|(go_simp;done)|(go_simp;rfl));intro gb110 hg w72 hbox hb;have n0_:=Aside0.mk (Kd.R_below (by (with_reducible repeat (first|apply Kd.R_alloc|apply Kd.R_drewN|apply Kd.R_drew));exact HO105.out) hb);have n1_:=Aside0.mk (below_step (by repeat (first|(with_reducible first|exact HB.out|apply below_alloc|apply pw_below_drewN|apply below_drew1)|exact HB.out)) hb);have n2_:=Aside0.mk (hbox);have n3_:=Aside0.mk ((by rw [hg];exact (below_size (by repeat (first|(with_reducible first|exact HB.out|apply below_alloc|apply pw_below_drewN|apply below_drew1)|exact HB.out))) : w.heap.size ≤ gb110));have n4_:=Aside0.mk ((by rw [hg];exact (below_size (by repeat (first|(with_reducible first|exact HB.out|apply below_alloc|apply pw_below_drewN|apply below_drew1)|exact HB.out))) : w.heap.size ≤ gb110));clear HO105;clear HB;have HO105:=n0_;have HB:=n1_;have BK110:=n2_;have GW110:=n3_;have GE110:=n4_;clear n0_ n1_ n2_ n3_ n4_;clear hb hbox hg;have hcz73_0 : w72.cell? ⟨gb110,0,none⟩ = some (.int .i64 0):=(blk_cell BK110.out 0).trans rfl;have hcz73_1 : w72.cell? ⟨gb110,1,none⟩ = some (.int .i64 0):=(blk_cell BK110.out 1).trans rfl;have hcz73_2 : w72.cell? ⟨gb110,2,none⟩ = some (.int .i64 0):=(blk_cell BK110.out 2).trans rfl;have hfz73_0:=blk_frozen BK110.out 0;have hfz73_1:=blk_frozen BK110.out 1;have hfz73_2:=blk_frozen BK110.out 2)|((with_reducible refine gate_dst (N:=20) rfl ?_);(try (refine gate_guard (by rfl) ?_;dsimp only));refine Kd.R_lit k35 _ 35 ?hg (N:=20) ?hd (xs:=([(⟨1,(⟨#[97,49]⟩ : ByteArray),(⟨0,1,1⟩ : S26),0⟩ : S35),(⟨6,(⟨#[58,61]⟩ : ByteArray),(⟨3,1,4⟩ : S26),0⟩ : S35),(⟨5,(⟨#[39,98,39]⟩ : ByteArray),(⟨6,2,1⟩ : S26),1⟩ : S35)] : List (S35))) (inner:=[.int .u8 1,.string (⟨#[97,49]⟩ : ByteArray),.int .i64 0,.int .i64 1,.int .i64 1,.int .i64 0,.int .u8 6,.string (⟨#[58,61]⟩ : ByteArray),.int .i64 3,.int .i64 1,.int .i64 4,.int .i64 0,.int .u8 5,.string (⟨#[39,98,39]⟩ : ByteArray),.int .i64 6,.int .i64 2,.int .i64 1,.int .i64 1]) (ok:=fun _ => True) (okp:=fun _ => True) ?hr ?hp (fun _ hk => hk) trivial (Below.refl _ _) (Nat.le_refl _) (by simp) ?_;(case hd => rfl);(case hg => rfl);(case hr => first|(go_simp;done)|(go_simp;rfl));(case hp => exact (Reps.c6 (show Kd.M k35 _ _ _ (⟨1,(⟨#[97,49]⟩ : ByteArray),(⟨0,1,1⟩ : S26),0⟩ : S35) [.int .u8 1,.string (⟨#[97,49]⟩ : ByteArray),.int .i64 0,.int .i64 1,.int .i64 1,.int .i64 0] from (k35_mkM _ _ _ (⟨1,(⟨#[97,49]⟩ : ByteArray),(⟨0,1,1⟩ : S26),0⟩ : S35) )) (Reps.c6 (show Kd.M k35 _ _ _ (⟨6,(⟨#[58,61]⟩ : ByteArray),(⟨3,1,4⟩ : S26),0⟩ : S35) [.int .u8 6,.string (⟨#[58,61]⟩ : ByteArray),.int .i64 3,.int .i64 1,.int .i64 4,.int .i64 0] from (k35_mkM _ _ _ (⟨6,(⟨#[58,61]⟩ : ByteArray),(⟨3,1,4⟩ : S26),0⟩ : S35) )) (Reps.c6 (show Kd.M k35 _ _ _ (⟨5,(⟨#[39,98,39]⟩ : ByteArray),(⟨6,2,1⟩ : S26),1⟩ : S35) [.int .u8 5,.string (⟨#[39,98,39]⟩ : ByteArray),.int .i64 6,.int .i64 2,.int .i64 1,.int .i64 1] from (k35_mkM _ _ _ (⟨5,(⟨#[39,98,39]⟩ : ByteArray),(⟨6,2,1⟩ : S26),1⟩ : S35) )) (Reps.none _ _)))));intro v112 w74 ho75 hb hg_ hnew_;clear hg_ hnew_;(first|rw [← Ny111.out] at ho75|(simp only [Int.reduceToNat] at ho75;rw [← Ny111.out] at ho75));have n0_:=Aside0.mk (Kd.R_elder' (by (with_reducible repeat (first|apply Kd.R_alloc|apply Kd.R_drewN|apply Kd.R_drew));exact (Kd.R_mono (Kd.R_far (p:=⟨gb110,2,none⟩) (Kd.R_far (p:=⟨gb110,1,none⟩) (Kd.R_far (p:=⟨gb110,0,none⟩) (Kd.R_types HO105.out BK110.out (by decide)) (fun _ hk => hk.2) (.int .i64 t107)) (fun _ hk => hk.2) (.int .i64 t108)) (fun _ hk => hk.2) (.int .i64 t109)) (fun _ h_ => h_.1))) (Kd.R_base ho75) hb);have n1_:=Aside0.mk (Kd.R_lower (Kd.R_new' ho75 (Kd.R_lt (by (with_reducible repeat (first|apply Kd.R_alloc|apply Kd.R_drewN|apply Kd.R_drew));exact (Kd.R_mono (Kd.R_far (p:=⟨gb110,2,none⟩) (Kd.R_far (p:=⟨gb110,1,none⟩) (Kd.R_far (p:=⟨gb110,0,none⟩) (Kd.R_types HO105.out BK110.out (by decide)) (fun _ hk => hk.2) (.int .i64 t107)) (fun _ hk => hk.2) (.int .i64 t108)) (fun _ hk => hk.2) (.int .i64 t109)) (fun _ h_ => h_.1))))) (below_size (by repeat (first|(with_reducible first|exact HB.out|apply below_alloc|apply pw_below_drewN|apply below_drew1|refine below_set ?_ GE110.out)|exact HB.out))));have n2_:=Aside0.mk (blk_below (g:=gb110) (o:=.cells #[.int .i64 t107,.int .i64 t108,.int .i64 t109] 26 (0,0)) (by (with_reducible repeat (first|refine blk_drewN ?_ _|refine blk_drew ?_|refine blk_alloc ?_ _));refine blk_put (cs:=#[.int .i64 t107,.int .i64 t108,.int .i64 0]) ?_ 2 _ rfl;(with_reducible repeat (first|refine blk_drewN ?_ _|refine blk_drew ?_|refine blk_alloc ?_ _));refine blk_put (cs:=#[.int .i64 t107,.int .i64 0,.int .i64 0]) ?_ 1 _ rfl;(with_reducible repeat (first|refine blk_drewN ?_ _|refine blk_drew ?_|refine blk_alloc ?_ _));refine blk_put (cs:=#[.int .i64 0,.int .i64 0,.int .i64 0]) ?_ 0 _ rfl;(with_reducible repeat (first|refine blk_drewN ?_ _|refine blk_drew ?_|refine blk_alloc ?_ _));exact BK110.out) hb);have n3_:=Aside0.mk (below_step (by repeat (first|(with_reducible first|exact HB.out|apply below_alloc|apply pw_below_drewN|apply below_drew1|refine below_set ?_ GE110.out)|exact HB.out)) hb);clear HO105;clear BK110;clear HB;have HO105:=n0_;have HO113:=n1_;have BK110:=n2_;have HB:=n3_;clear n0_ n1_ n2_ n3_;clear hb ho75;obtain ⟨Ao76,co76,eo76⟩:=Kd.R_slice HO105.out;subst eo76;obtain ⟨Ao77,co77,eo77⟩:=Kd.R_slice HO113.out;subst eo77)|((with_reducible refine gate_callee (f:=10) rfl ?_);refine goesL_ (some 23) rfl rfl Tryd.func10 (by kernel_rfl) rfl #[.slice Ao76 t103.length co76,.slice Ao77 y111.length co77] rfl (by (try simp only [List.map_toArray,List.map_cons,List.map_nil]);first|done|rfl|(simp only [List.length_drop,List.length_take];rfl)) ?_;(with_reducible refine (colophonlaw10_same.calls k _ _ t103 _ _ y111 false _ ?side1 ?side2 ?side3 ?side4 A2.out).mono ?_);(case side1 => repeat (first|exact (Kd.R_reads' HO105.out).2.2|(with_reducible refine Kd.C_alloc ?_ _)|(with_reducible refine Kd.C_drewN ?_ _)|(with_reducible refine Kd.C_drew ?_)));(case side2 => exact (Kd.R_reads' HO105.out).2.1);(case side3 => repeat (first|exact (Kd.R_reads' HO113.out).2.2|(with_reducible refine Kd.C_alloc ?_ _)|(with_reducible refine Kd.C_drewN ?_ _)|(with_reducible refine Kd.C_drew ?_)));(case side4 => exact (Kd.R_reads' HO113.out).2.1);rintro e w' ⟨rfl,⟨nd,rfl⟩⟩;refine ⟨_,rfl,?_⟩;(try (rw [drewN_self w74];generalize hq_ : World.drewN w74 _ = w74;have n0_ : Aside0 (Kd.R k35 35 w74 w.heap.size (fun k_ => some k_ ≠ (.slice Ao77 y111.length co77 : Value).ownBlock) (.slice Ao76 t103.length co76) t103):=⟨by rw [← hq_];exact (by (with_reducible repeat (first|apply Kd.R_alloc|apply Kd.R_drewN|apply Kd.R_drew));exact Kd.R_mono HO105.out (fun _ hk => hk.2))⟩;have n1_ : Aside0 (Kd.R k35 35 w74 w.heap.size (fun k_ => some k_ ≠ (.slice Ao76 t103.length co76 : Value).ownBlock) (.slice Ao77 y111.length co77) y111):=⟨by rw [← hq_];exact (by (with_reducible repeat (first|apply Kd.R_alloc|apply Kd.R_drewN|apply Kd.R_drew));exact Kd.R_mono HO113.out (fun _ hk => hk.2))⟩;have n2_ : Aside0 (w74.heap[gb110]? = some (.cells #[.int .i64 t107,.int .i64 t108,.int .i64 t109] 26 (0,0))):=⟨by rw [← hq_];exact (by (with_reducible repeat (first|refine blk_drewN ?_ _|refine blk_drew ?_|refine blk_alloc ?_ _));exact BK110.out)⟩;have n3_ : Aside0 (Below w.heap.size w w74):=⟨by rw [← hq_];exact (by repeat (first|(with_reducible first|exact HB.out|apply below_alloc|apply pw_below_drewN|apply below_drew1|refine below_set ?_ GE110.out)|exact HB.out))⟩;clear HO105 HO113 BK110 HB hq_;have HO105:=n0_;have HO113:=n1_;have BK110:=n2_;have HB:=n3_;clear n0_ n1_ n2_ n3_)))|((with_reducible refine gate_callee (f:=8) rfl ?_);refine goesL_ (some 25) rfl rfl Tryd.func8 (by kernel_rfl) rfl #[.string (⟨#[97,10,32,63]⟩ : ByteArray)] rfl (by (try simp only [List.map_toArray,List.map_cons,List.map_nil]);first|done|rfl|(simp only [List.length_drop,List.length_take];rfl)) ?_;(with_reducible refine (scan_All.calls (⟨#[97,10,32,63]⟩ : ByteArray) t115 t118 t119 t120 t121 _ ?side1 A3.out).mono ?_);(case side1 => exact LW.below HLW.out (by repeat (first|(with_reducible first|exact HB.out|apply below_alloc|apply pw_below_drewN|apply below_drew1|refine below_set ?_ GE110.out)|exact HB.out)));rintro e w78 ⟨v116,rfl,ho0,hb⟩;refine ⟨_,rfl,?_⟩;have n0_:=Aside0.mk (Kd.R_elder' (by (with_reducible repeat (first|apply Kd.R_alloc|apply Kd.R_drewN|apply Kd.R_drew));exact HO105.out) (Kd.R_base ho0) hb);have n1_:=Aside0.mk (Kd.R_elder' (by (with_reducible repeat (first|apply Kd.R_alloc|apply Kd.R_drewN|apply Kd.R_drew));exact HO113.out) (Kd.R_base ho0) hb);have n2_:=Aside0.mk (Kd.R_lower (Kd.R_new' (Kd.R_new' ho0 (Kd.R_lt (by (with_reducible repeat (first|apply Kd.R_alloc|apply Kd.R_drewN|apply Kd.R_drew));exact HO105.out))) (Kd.R_lt (by (with_reducible repeat (first|apply Kd.R_alloc|apply Kd.R_drewN|apply Kd.R_drew));exact HO113.out))) (below_size (by repeat (first|(with_reducible first|exact HB.out|apply below_alloc|apply pw_below_drewN|apply below_drew1|refine below_set ?_ GE110.out)|exact HB.out))));have n3_:=Aside0.mk (blk_below (g:=gb110) (o:=.cells #[.int .i64 t107,.int .i64 t108,.int .i64 t109] 26 (0,0)) (by (with_reducible repeat (first|refine blk_drewN ?_ _|refine blk_drew ?_|refine blk_alloc ?_ _));exact BK110.out) hb);have n4_:=Aside0.mk (below_step (by repeat (first|(with_reducible first|exact HB.out|apply below_alloc|apply pw_below_drewN|apply below_drew1|refine below_set ?_ GE110.out)|exact HB.out)) hb);clear HO105;clear HO113;clear BK110;clear HB;have HO105:=n0_;have HO113:=n1_;have HO117:=n2_;have BK110:=n3_;have HB:=n4_;clear n0_ n1_ n2_ n3_ n4_;(try clear hb);(try clear hb2);(try clear hk);(try clear hi);(try clear ho0))|((with_reducible refine gate_dst (N:=8) rfl ?_);(try (refine gate_guard (by rfl) ?_;dsimp only));refine box_event ?hg (N:=8) ?hd (cs:=#[.int .i64 0,.int .i64 0,.int .i64 0]) (t:=26) ?hr ?_;(case hd => rfl);(case hg => rfl);(case hr => first|(go_simp;done)|(go_simp;rfl));intro gb122 hg w79 hbox hb;have n0_:=Aside0.mk (Kd.R_below (by (with_reducible repeat (first|apply Kd.R_alloc|apply Kd.R_drewN|apply Kd.R_drew));exact HO105.out) hb);have n1_:=Aside0.mk (Kd.R_below (by (with_reducible repeat (first|apply Kd.R_alloc|apply Kd.R_drewN|apply Kd.R_drew));exact HO113.out) hb);have n2_:=Aside0.mk (Kd.R_below (by (with_reducible repeat (first|apply Kd.R_alloc|apply Kd.R_drewN|apply Kd.R_drew));exact HO117.out) hb);have n3_:=Aside0.mk (blk_below (g:=gb110) (o:=.cells #[.int .i64 t107,.int .i64 t108,.int .i64 t109] 26 (0,0)) (by (with_reducible repeat (first|refine blk_drewN ?_ _|refine blk_drew ?_|refine blk_alloc ?_ _));exact BK110.out) hb);have n4_:=Aside0.mk (below_step (by repeat (first|(with_reducible first|exact HB.out|apply below_alloc|apply pw_below_drewN|apply below_drew1|refine below_set ?_ GE110.out)|exact HB.out)) hb);have n5_:=Aside0.mk (hbox);have n6_:=Aside0.mk ((by rw [hg];exact (below_size (by repeat (first|(with_reducible first|exact HB.out|apply below_alloc|apply pw_below_drewN|apply below_drew1|refine below_set ?_ GE110.out)|exact HB.out))) : w.heap.size ≤ gb122));have n7_:=Aside0.mk ((by rw [hg];exact (below_size (by repeat (first|(with_reducible first|exact HB.out|apply below_alloc|apply pw_below_drewN|apply below_drew1|refine below_set ?_ GE110.out)|exact HB.out))) : w.heap.size ≤ gb122));have n8_:=Aside0.mk ((by rw [hg];exact Nat.ne_of_lt (blk_lt (g:=gb110) (o:=.cells #[.int .i64 t107,.int .i64 t108,.int .i64 t109] 26 (0,0)) (by (with_reducible repeat (first|refine blk_drewN ?_ _|refine blk_drew ?_|refine blk_alloc ?_ _));exact BK110.out)) : gb110 ≠ gb122));have n9_:=Aside0.mk ((by rw [hg];exact Nat.ne_of_gt (blk_lt (g:=gb110) (o:=.cells #[.int .i64 t107,.int .i64 t108,.int .i64 t109] 26 (0,0)) (by (with_reducible repeat (first|refine blk_drewN ?_ _|refine blk_drew ?_|refine blk_alloc ?_ _));exact BK110.out)) : gb122 ≠ gb110));clear HO105;clear HO113;clear HO117;clear BK110;clear HB;have HO105:=n0_;have HO113:=n1_;have HO117:=n2_;have BK110:=n3_;have HB:=n4_;have BK122:=n5_;have GW122:=n6_;have GE122:=n7_;have NB110_122:=n8_;have NB122_110:=n9_;clear n0_ n1_ n2_ n3_ n4_ n5_ n6_ n7_ n8_ n9_;clear hb hbox hg;have hnb80:=NB122_110.out;have hnc80:=NB110_122.out;have hcz81_0 : w79.cell? ⟨gb122,0,none⟩ = some (.int .i64 0):=(blk_cell BK122.out 0).trans rfl;have hcz81_1 : w79.cell? ⟨gb122,1,none⟩ = some (.int .i64 0):=(blk_cell BK122.out 1).trans rfl;have hcz81_2 : w79.cell? ⟨gb122,2,none⟩ = some (.int .i64 0):=(blk_cell BK122.out 2).trans rfl;have hfz81_0:=blk_frozen BK122.out 0;have hfz81_1:=blk_frozen BK122.out 1;have hfz81_2:=blk_frozen BK122.out 2))
  go_ret
  exact ⟨by first|rfl|(simp [errW_none, errW_some] <;> rfl)|(simp [*, errW_none, errW_some] <;> rfl), by repeat (first|(with_reducible first|exact HB.out|apply below_alloc|apply pw_below_drewN|apply below_drew1|refine below_set ?_ GE110.out|refine below_set ?_ GE122.out)|exact HB.out)⟩
/-! ### colophonref01_Long: function 80 -/
mutual
def colophonref01_Long.j0 : Nat → Int → Bool → Option (Int)
 | 0, _, _ => none
 | k + 1, x0, x6 => if x6 = true then (some 2) else (if x0 ≥ 224 then (colophonref01_Long.j1 k x0 (decide (x0 ≤ 239))) else (colophonref01_Long.j1 k x0 false))
def colophonref01_Long.j1 : Nat → Int → Bool → Option (Int)
 | 0, _, _ => none
 | k + 1, x0, x13 => if x13 = true then (some 3) else (if x0 ≥ 240 then (if x0 ≤ 244 then (some 4) else (some 0)) else (some 0))
end
def colophonref01_Long.f (k : Nat) (a0 : Int) : Option (Int) := if a0 ≤ 127 then (some 1) else (if a0 ≥ 194 then (colophonref01_Long.j0 k a0 (decide (a0 ≤ 223))) else (colophonref01_Long.j0 k a0 false))
theorem colophonref01_Long.mono_l : ∀ k, (∀ y0 y1, LeO (colophonref01_Long.j0 k y0 y1) (colophonref01_Long.j0 (k + 1) y0 y1)) ∧ (∀ y0 y1, LeO (colophonref01_Long.j1 k y0 y1) (colophonref01_Long.j1 (k + 1) y0 y1))
 | 0 => ⟨fun _ _ r h => by simp [colophonref01_Long.j0] at h, fun _ _ r h => by simp [colophonref01_Long.j1] at h⟩
 | k + 1 => by
  obtain ⟨ih0, ih1⟩ := colophonref01_Long.mono_l k
  refine ⟨?_, ?_⟩
  ·intro y0 y1
   unfold colophonref01_Long.j0
   repeat' first
   | (with_reducible exact ih0 _ _)
   | (with_reducible exact ih1 _ _)
   | (with_reducible exact LeO.refl _)
   | (with_reducible exact LeO.none _)
   | (with_reducible refine LeO.ite ?_ ?_)
   | (with_reducible refine LeO.bind ?_ (fun _ => ?_))
   | exact ih0 _ _
   | exact ih1 _ _
   | exact LeO.none _
   | refine LeO.ite ?_ ?_
   | refine LeO.bind ?_ (fun _ => ?_)
  ·intro y0 y1
   unfold colophonref01_Long.j1
   repeat' first
   | (with_reducible exact ih0 _ _)
   | (with_reducible exact ih1 _ _)
   | (with_reducible exact LeO.refl _)
   | (with_reducible exact LeO.none _)
   | (with_reducible refine LeO.ite ?_ ?_)
   | (with_reducible refine LeO.bind ?_ (fun _ => ?_))
   | exact ih0 _ _
   | exact ih1 _ _
   | exact LeO.none _
   | refine LeO.ite ?_ ?_
   | refine LeO.bind ?_ (fun _ => ?_)
theorem colophonref01_Long.mono : ∀ a0 k, LeO (colophonref01_Long.f k a0) (colophonref01_Long.f (k + 1) a0) := by
 intro a0 k
 obtain ⟨ih0, ih1⟩ := colophonref01_Long.mono_l k
 unfold colophonref01_Long.f
 repeat' first
   | (with_reducible exact ih0 _ _)
   | (with_reducible exact ih1 _ _)
   | (with_reducible exact LeO.refl _)
   | (with_reducible exact LeO.none _)
   | (with_reducible refine LeO.ite ?_ ?_)
   | (with_reducible refine LeO.bind ?_ (fun _ => ?_))
   | exact ih0 _ _
   | exact ih1 _ _
   | exact LeO.none _
   | refine LeO.ite ?_ ?_
   | refine LeO.bind ?_ (fun _ => ?_)
set_option maxHeartbeats 8000000 in
set_option maxRecDepth 100000 in
theorem colophonref01_Long.calls (k : Nat) (a0 : Int) (r : Int) (w : World) (h : colophonref01_Long.f k a0 = some r) :
  Calls Tryd.prog 80 #[.int .i64 a0] w fun e w' => e = .returned (.int .i64 r) ∧ Drawn0 w w' := by
 have H : (if a0 ≤ 127 then (some 1) else (if a0 ≥ 194 then (colophonref01_Long.j0 k a0 (decide (a0 ≤ 223))) else (colophonref01_Long.j0 k a0 false))) = some r := h
 clear h
 by_cases c2 : a0 ≤ 127
 ·rw [if_pos c2] at H
  have c2b0 : decide (a0 ≤ 127) = true := decide_eq_true c2
  clear c2
  obtain rfl := Option.some.inj H
  go_enter Tryd.func80, Tryd.ntmps80
  go_wp2
  go_ret
  exact ⟨by first|rfl|(simp; done)|(simp [*]; done), by repeat (first|exact Drawn0.refl _|apply Drawn0.step)⟩
 ·rw [if_neg c2] at H
  have c2b0 : decide (a0 ≤ 127) = false := decide_eq_false c2
  clear c2
  have HC3 := Aside0.mk H
  clear H
  go_enter Tryd.func80, Tryd.ntmps80
  go_upto_region 3 with (fail)
  go_cut [6] (fun v6 wc => ∃ (kq : Nat) (x6_2 : Bool), v6 = .bool x6_2 ∧ Aside0 (colophonref01_Long.j0 kq a0 x6_2 = some r) ∧ Aside0 (kq ≤ k) ∧ Drawn0 w wc)
  case first =>
   have H := HC3.out
   clear HC3
   by_cases c4 : a0 ≥ 194
   ·rw [if_pos c4] at H
    have c4b0 : decide (194 ≤ a0) = true := decide_eq_true c4
    clear c4
    (first|rw [c4b0]|(simp only [i64_w, i32_w]; rw [c4b0])|skip)
    have H' := Aside0.mk H
    clear H
    go_wp2
    go_meet
    case rel => exact ⟨_, (decide (a0 ≤ 223)), (by first|rfl|(simp; done)|(simp [*]; done)), H', ⟨by first|omega|exact Nat.le_refl _⟩, by repeat (first|exact Drawn0.refl _|apply Drawn0.step)⟩
   ·rw [if_neg c4] at H
    have c4b0 : decide (194 ≤ a0) = false := decide_eq_false c4
    clear c4
    (first|rw [c4b0]|(simp only [i64_w, i32_w]; rw [c4b0])|skip)
    have H' := Aside0.mk H
    clear H
    go_wp2
    go_meet
    case rel => exact ⟨_, (false), (by first|rfl|(simp; done)|(simp [*]; done)), H', ⟨by first|omega|exact Nat.le_refl _⟩, by repeat (first|exact Drawn0.refl _|apply Drawn0.step)⟩
  case rest =>
   clear HC3
   try clear c2
   try clear c2b0
   try clear p2
   try clear c4
   try clear c4b0
   obtain ⟨kq, x6_2, rfl, HA, HJ2, ⟨mc2, rfl⟩⟩ := hcut
   cases kq with
   | zero => exact absurd HA.out (by simp [colophonref01_Long.j0])
   | succ kj2 =>
    have H := HA.out
    clear HA
    simp only [colophonref01_Long.j0] at H
    by_cases c5 : x6_2 = true
    ·subst c5
     have H1 : (some 2) = some r := by rw [if_pos rfl] at H; exact H
     clear H
     have H := H1
     clear H1
     obtain rfl := Option.some.inj H
     go_wp2
     go_ret
     exact ⟨by first|rfl|(simp; done)|(simp [*]; done), by repeat (first|exact Drawn0.refl _|apply Drawn0.step)⟩
    ·replace c5 := Bool.eq_false_iff.mpr c5
     subst c5
     have H1 : (if a0 ≥ 224 then (colophonref01_Long.j1 kj2 a0 (decide (a0 ≤ 239))) else (colophonref01_Long.j1 kj2 a0 false)) = some r := by rw [if_neg (show ¬ (false = true) by decide)] at H; exact H
     clear H
     have H := H1
     clear H1
     have HC6 := Aside0.mk H
     clear H
     go_upto_region 5 with (fail)
     go_cut [13] (fun v13 wc => ∃ (kq : Nat) (x13_5 : Bool), v13 = .bool x13_5 ∧ Aside0 (colophonref01_Long.j1 kq a0 x13_5 = some r) ∧ Aside0 (kq ≤ kj2) ∧ Drawn0 w wc)
     case first =>
      have H := HC6.out
      clear HC6
      by_cases c7 : a0 ≥ 224
      ·rw [if_pos c7] at H
       have c7b0 : decide (224 ≤ a0) = true := decide_eq_true c7
       clear c7
       (first|rw [c7b0]|(simp only [i64_w, i32_w]; rw [c7b0])|skip)
       have H' := Aside0.mk H
       clear H
       go_wp2
       go_meet
       case rel => exact ⟨_, (decide (a0 ≤ 239)), (by first|rfl|(simp; done)|(simp [*]; done)), H', ⟨by have := HJ2.out; first|omega|exact Nat.le_refl _⟩, by repeat (first|exact Drawn0.refl _|apply Drawn0.step)⟩
      ·rw [if_neg c7] at H
       have c7b0 : decide (224 ≤ a0) = false := decide_eq_false c7
       clear c7
       (first|rw [c7b0]|(simp only [i64_w, i32_w]; rw [c7b0])|skip)
       have H' := Aside0.mk H
       clear H
       go_wp2
       go_meet
       case rel => exact ⟨_, (false), (by first|rfl|(simp; done)|(simp [*]; done)), H', ⟨by have := HJ2.out; first|omega|exact Nat.le_refl _⟩, by repeat (first|exact Drawn0.refl _|apply Drawn0.step)⟩
     case rest =>
      clear HC6
      try clear c2
      try clear c2b0
      try clear p2
      try clear c4
      try clear c4b0
      try clear c5
      try clear c7
      try clear c7b0
      try clear p2
      obtain ⟨kq, x13_5, rfl, HA, HJ5, ⟨mc5, rfl⟩⟩ := hcut
      cases kq with
      | zero => exact absurd HA.out (by simp [colophonref01_Long.j1])
      | succ kj5 =>
       have H := HA.out
       clear HA
       simp only [colophonref01_Long.j1] at H
       by_cases c8 : x13_5 = true
       ·subst c8
        have H1 : (some 3) = some r := by rw [if_pos rfl] at H; exact H
        clear H
        have H := H1
        clear H1
        obtain rfl := Option.some.inj H
        go_wp2
        go_ret
        exact ⟨by first|rfl|(simp; done)|(simp [*]; done), by repeat (first|exact Drawn0.refl _|apply Drawn0.step)⟩
       ·replace c8 := Bool.eq_false_iff.mpr c8
        subst c8
        have H1 : (if a0 ≥ 240 then (if a0 ≤ 244 then (some 4) else (some 0)) else (some 0)) = some r := by rw [if_neg (show ¬ (false = true) by decide)] at H; exact H
        clear H
        have H := H1
        clear H1
        by_cases c9 : a0 ≥ 240
        ·rw [if_pos c9] at H
         have c9b0 : decide (240 ≤ a0) = true := decide_eq_true c9
         clear c9
         by_cases c10 : a0 ≤ 244
         ·rw [if_pos c10] at H
          have c10b0 : decide (a0 ≤ 244) = true := decide_eq_true c10
          clear c10
          obtain rfl := Option.some.inj H
          go_wp2
          go_ret
          exact ⟨by first|rfl|(simp; done)|(simp [*]; done), by repeat (first|exact Drawn0.refl _|apply Drawn0.step)⟩
         ·rw [if_neg c10] at H
          have c10b0 : decide (a0 ≤ 244) = false := decide_eq_false c10
          clear c10
          obtain rfl := Option.some.inj H
          go_wp2
          go_ret
          exact ⟨by first|rfl|(simp; done)|(simp [*]; done), by repeat (first|exact Drawn0.refl _|apply Drawn0.step)⟩
        ·rw [if_neg c9] at H
         have c9b0 : decide (240 ≤ a0) = false := decide_eq_false c9
         clear c9
         obtain rfl := Option.some.inj H
         go_wp2
         go_ret
         exact ⟨by first|rfl|(simp; done)|(simp [*]; done), by repeat (first|exact Drawn0.refl _|apply Drawn0.step)⟩
/-! ### colophonref01_second: function 90 -/
def colophonref01_second.f (a0 : Int) (a1 : Int) : Option (Bool) := if a0 = 224 then (if a1 ≥ 160 then (some (decide (a1 ≤ 191))) else (some false)) else (if a0 = 237 then (if a1 ≥ 128 then (some (decide (a1 ≤ 159))) else (some false)) else (if a0 = 240 then (if a1 ≥ 144 then (some (decide (a1 ≤ 191))) else (some false)) else (if a0 = 244 then (if a1 ≥ 128 then (some (decide (a1 ≤ 143))) else (some false)) else (if a1 ≥ 128 then (some (decide (a1 ≤ 191))) else (some false)))))
set_option maxHeartbeats 8000000 in
set_option maxRecDepth 100000 in
theorem colophonref01_second.calls (a0 : Int) (a1 : Int) (r : Bool) (w : World) (h : colophonref01_second.f a0 a1 = some r) :
  Calls Tryd.prog 90 #[.int .i64 a0, .int .i64 a1] w fun e w' => e = .returned (.bool r) ∧ Drawn0 w w' := by
 have H : (if a0 = 224 then (if a1 ≥ 160 then (some (decide (a1 ≤ 191))) else (some false)) else (if a0 = 237 then (if a1 ≥ 128 then (some (decide (a1 ≤ 159))) else (some false)) else (if a0 = 240 then (if a1 ≥ 144 then (some (decide (a1 ≤ 191))) else (some false)) else (if a0 = 244 then (if a1 ≥ 128 then (some (decide (a1 ≤ 143))) else (some false)) else (if a1 ≥ 128 then (some (decide (a1 ≤ 191))) else (some false)))))) = some r := h
 clear h
 by_cases c3 : a0 = 224
 ·rw [if_pos c3] at H
  have c3b0 : (a0 == 224) = true := beq_iff_eq.mpr c3
  have c3b1 : (a0 != 224) = false := bne_eq_false_iff_eq.mpr c3
  clear c3
  by_cases c4 : a1 ≥ 160
  ·rw [if_pos c4] at H
   have c4b0 : decide (160 ≤ a1) = true := decide_eq_true c4
   clear c4
   obtain rfl := Option.some.inj H
   go_enter Tryd.func90, Tryd.ntmps90
   go_wp2
   go_ret
   exact ⟨by first|rfl|(simp; done)|(simp [*]; done), by repeat (first|exact Drawn0.refl _|apply Drawn0.step)⟩
  ·rw [if_neg c4] at H
   have c4b0 : decide (160 ≤ a1) = false := decide_eq_false c4
   clear c4
   obtain rfl := Option.some.inj H
   go_enter Tryd.func90, Tryd.ntmps90
   go_wp2
   go_ret
   exact ⟨by first|rfl|(simp; done)|(simp [*]; done), by repeat (first|exact Drawn0.refl _|apply Drawn0.step)⟩
 ·rw [if_neg c3] at H
  have c3b0 : (a0 == 224) = false := beq_eq_false_iff_ne.mpr c3
  have c3b1 : (a0 != 224) = true := bne_iff_ne.mpr c3
  by_cases c5 : a0 = 237
  ·rw [if_pos c5] at H
   have c5b0 : (a0 == 237) = true := beq_iff_eq.mpr c5
   have c5b1 : (a0 != 237) = false := bne_eq_false_iff_eq.mpr c5
   clear c5
   by_cases c6 : a1 ≥ 128
   ·rw [if_pos c6] at H
    have c6b0 : decide (128 ≤ a1) = true := decide_eq_true c6
    clear c6
    obtain rfl := Option.some.inj H
    go_enter Tryd.func90, Tryd.ntmps90
    go_wp2
    go_ret
    exact ⟨by first|rfl|(simp; done)|(simp [*]; done), by repeat (first|exact Drawn0.refl _|apply Drawn0.step)⟩
   ·rw [if_neg c6] at H
    have c6b0 : decide (128 ≤ a1) = false := decide_eq_false c6
    clear c6
    obtain rfl := Option.some.inj H
    go_enter Tryd.func90, Tryd.ntmps90
    go_wp2
    go_ret
    exact ⟨by first|rfl|(simp; done)|(simp [*]; done), by repeat (first|exact Drawn0.refl _|apply Drawn0.step)⟩
  ·rw [if_neg c5] at H
   have c5b0 : (a0 == 237) = false := beq_eq_false_iff_ne.mpr c5
   have c5b1 : (a0 != 237) = true := bne_iff_ne.mpr c5
   by_cases c7 : a0 = 240
   ·rw [if_pos c7] at H
    have c7b0 : (a0 == 240) = true := beq_iff_eq.mpr c7
    have c7b1 : (a0 != 240) = false := bne_eq_false_iff_eq.mpr c7
    clear c7
    by_cases c8 : a1 ≥ 144
    ·rw [if_pos c8] at H
     have c8b0 : decide (144 ≤ a1) = true := decide_eq_true c8
     clear c8
     obtain rfl := Option.some.inj H
     go_enter Tryd.func90, Tryd.ntmps90
     go_wp2
     go_ret
     exact ⟨by first|rfl|(simp; done)|(simp [*]; done), by repeat (first|exact Drawn0.refl _|apply Drawn0.step)⟩
    ·rw [if_neg c8] at H
     have c8b0 : decide (144 ≤ a1) = false := decide_eq_false c8
     clear c8
     obtain rfl := Option.some.inj H
     go_enter Tryd.func90, Tryd.ntmps90
     go_wp2
     go_ret
     exact ⟨by first|rfl|(simp; done)|(simp [*]; done), by repeat (first|exact Drawn0.refl _|apply Drawn0.step)⟩
   ·rw [if_neg c7] at H
    have c7b0 : (a0 == 240) = false := beq_eq_false_iff_ne.mpr c7
    have c7b1 : (a0 != 240) = true := bne_iff_ne.mpr c7
    by_cases c9 : a0 = 244
    ·rw [if_pos c9] at H
     have c9b0 : (a0 == 244) = true := beq_iff_eq.mpr c9
     have c9b1 : (a0 != 244) = false := bne_eq_false_iff_eq.mpr c9
     clear c9
     by_cases c10 : a1 ≥ 128
     ·rw [if_pos c10] at H
      have c10b0 : decide (128 ≤ a1) = true := decide_eq_true c10
      clear c10
      obtain rfl := Option.some.inj H
      go_enter Tryd.func90, Tryd.ntmps90
      go_wp2
      go_ret
      exact ⟨by first|rfl|(simp; done)|(simp [*]; done), by repeat (first|exact Drawn0.refl _|apply Drawn0.step)⟩
     ·rw [if_neg c10] at H
      have c10b0 : decide (128 ≤ a1) = false := decide_eq_false c10
      clear c10
      obtain rfl := Option.some.inj H
      go_enter Tryd.func90, Tryd.ntmps90
      go_wp2
      go_ret
      exact ⟨by first|rfl|(simp; done)|(simp [*]; done), by repeat (first|exact Drawn0.refl _|apply Drawn0.step)⟩
    ·rw [if_neg c9] at H
     have c9b0 : (a0 == 244) = false := beq_eq_false_iff_ne.mpr c9
     have c9b1 : (a0 != 244) = true := bne_iff_ne.mpr c9
     by_cases c11 : a1 ≥ 128
     ·rw [if_pos c11] at H
      have c11b0 : decide (128 ≤ a1) = true := decide_eq_true c11
      clear c11
      obtain rfl := Option.some.inj H
      go_enter Tryd.func90, Tryd.ntmps90
      go_wp2
      go_ret
      exact ⟨by first|rfl|(simp; done)|(simp [*]; done), by repeat (first|exact Drawn0.refl _|apply Drawn0.step)⟩
     ·rw [if_neg c11] at H
      have c11b0 : decide (128 ≤ a1) = false := decide_eq_false c11
      clear c11
      obtain rfl := Option.some.inj H
      go_enter Tryd.func90, Tryd.ntmps90
      go_wp2
      go_ret
      exact ⟨by first|rfl|(simp; done)|(simp [*]; done), by repeat (first|exact Drawn0.refl _|apply Drawn0.step)⟩
/-! ### colophonref01_fits: function 81 -/
mutual
def colophonref01_fits.l0 : Nat → ByteArray → Int → Int → Int → Int → Option (Bool)
 | 0, _, _, _, _, _ => none
 | k + 1, x0, x1, x2, x7, x8 => if x8 < x2 then (colophonref01_fits.j1 k x0 x1 x2 x7 x8 (decide ((wrap64 (x1 + x8)) < (x0.size : Int)))) else (colophonref01_fits.j1 k x0 x1 x2 x7 x8 false)
def colophonref01_fits.j1 : Nat → ByteArray → Int → Int → Int → Int → Bool → Option (Bool)
 | 0, _, _, _, _, _, _ => none
 | k + 1, x0, x1, x2, x7, x8, x24 => if x24 = true then (if 0 ≤ (wrap64 (x1 + x8)) then (if (wrap64 (x1 + x8)) < (x0.size : Int) then (if (wrap64 (bt x0 (wrap64 (x1 + x8)))) < 128 then (some false) else (if (wrap64 (bt x0 (wrap64 (x1 + x8)))) > 191 then (some false) else (if x8 = 1 then ((colophonref01_second.f x7 (wrap64 (bt x0 (wrap64 (x1 + x8))))).bind fun t123 => (if t123 = true then (colophonref01_fits.l0 k x0 x1 x2 x7 (wrap64 (x8 + 1))) else (some false))) else (colophonref01_fits.l0 k x0 x1 x2 x7 (wrap64 (x8 + 1)))))) else (none)) else (none)) else (some true)
end
def colophonref01_fits.f (k : Nat) (a0 : ByteArray) (a1 : Int) (a2 : Int) : Option (Bool) := if 0 ≤ a1 then (if a1 < (a0.size : Int) then (colophonref01_fits.l0 k a0 a1 a2 (wrap64 (bt a0 a1)) 1) else (none)) else (none)
theorem colophonref01_fits.mono_l : ∀ k, (∀ y0 y1 y2 y3 y4, LeO (colophonref01_fits.l0 k y0 y1 y2 y3 y4) (colophonref01_fits.l0 (k + 1) y0 y1 y2 y3 y4)) ∧ (∀ y0 y1 y2 y3 y4 y5, LeO (colophonref01_fits.j1 k y0 y1 y2 y3 y4 y5) (colophonref01_fits.j1 (k + 1) y0 y1 y2 y3 y4 y5))
 | 0 => ⟨fun _ _ _ _ _ r h => by simp [colophonref01_fits.l0] at h, fun _ _ _ _ _ _ r h => by simp [colophonref01_fits.j1] at h⟩
 | k + 1 => by
  obtain ⟨ih0, ih1⟩ := colophonref01_fits.mono_l k
  refine ⟨?_, ?_⟩
  ·intro y0 y1 y2 y3 y4
   unfold colophonref01_fits.l0
   repeat' first
   | (with_reducible exact ih0 _ _ _ _ _)
   | (with_reducible exact ih1 _ _ _ _ _ _)
   | (with_reducible exact LeO.refl _)
   | (with_reducible exact LeO.none _)
   | (with_reducible refine LeO.ite ?_ ?_)
   | (with_reducible refine LeO.bind ?_ (fun _ => ?_))
   | exact ih0 _ _ _ _ _
   | exact ih1 _ _ _ _ _ _
   | exact LeO.none _
   | refine LeO.ite ?_ ?_
   | refine LeO.bind ?_ (fun _ => ?_)
  ·intro y0 y1 y2 y3 y4 y5
   unfold colophonref01_fits.j1
   repeat' first
   | (with_reducible exact ih0 _ _ _ _ _)
   | (with_reducible exact ih1 _ _ _ _ _ _)
   | (with_reducible exact LeO.refl _)
   | (with_reducible exact LeO.none _)
   | (with_reducible refine LeO.ite ?_ ?_)
   | (with_reducible refine LeO.bind ?_ (fun _ => ?_))
   | exact ih0 _ _ _ _ _
   | exact ih1 _ _ _ _ _ _
   | exact LeO.none _
   | refine LeO.ite ?_ ?_
   | refine LeO.bind ?_ (fun _ => ?_)
theorem colophonref01_fits.mono : ∀ a0 a1 a2 k, LeO (colophonref01_fits.f k a0 a1 a2) (colophonref01_fits.f (k + 1) a0 a1 a2) := by
 intro a0 a1 a2 k
 obtain ⟨ih0, ih1⟩ := colophonref01_fits.mono_l k
 unfold colophonref01_fits.f
 repeat' first
   | (with_reducible exact ih0 _ _ _ _ _)
   | (with_reducible exact ih1 _ _ _ _ _ _)
   | (with_reducible exact LeO.refl _)
   | (with_reducible exact LeO.none _)
   | (with_reducible refine LeO.ite ?_ ?_)
   | (with_reducible refine LeO.bind ?_ (fun _ => ?_))
   | exact ih0 _ _ _ _ _
   | exact ih1 _ _ _ _ _ _
   | exact LeO.none _
   | refine LeO.ite ?_ ?_
   | refine LeO.bind ?_ (fun _ => ?_)
set_option maxHeartbeats 8000000 in
set_option maxRecDepth 100000 in
theorem colophonref01_fits.calls (k : Nat) (a0 : ByteArray) (a1 : Int) (a2 : Int) (r : Bool) (w : World) (h : colophonref01_fits.f k a0 a1 a2 = some r) :
  Calls Tryd.prog 81 #[.string a0, .int .i64 a1, .int .i64 a2] w fun e w' => e = .returned (.bool r) ∧ Drawn0 w w' := by
 have H : (if 0 ≤ a1 then (if a1 < (a0.size : Int) then (colophonref01_fits.l0 k a0 a1 a2 (wrap64 (bt a0 a1)) 1) else (none)) else (none)) = some r := h
 clear h
 by_cases c4 : 0 ≤ a1
 ·rw [if_pos c4] at H
  have c4b0 : decide (0 ≤ a1) = true := decide_eq_true c4
  clear c4
  by_cases c5 : a1 < (a0.size : Int)
  ·rw [if_pos c5] at H
   have c5b0 : decide (a1 < (a0.size : Int)) = true := decide_eq_true c5
   clear c5
   have H' := Aside0.mk H
   clear H
   have p6 : 0 ≤ (a1 : Int) := of_decide_eq_true (by first|(with_reducible assumption)|assumption)
   have q6 : a1 < (a0.size : Int) := of_decide_eq_true (by first|(with_reducible assumption)|assumption)
   have hx6 := bt_at a0 a1
   replace p6 := eq_true p6
   replace q6 := eq_true q6
   go_enter Tryd.func81, Tryd.ntmps81
   go_wp2
   go_loopg [8] k (fun kq v8 w' => ∃ (x8_1 : Int), v8 = .int .i64 x8_1 ∧ Aside0 (colophonref01_fits.l0 kq a0 a1 a2 (wrap64 (bt a0 a1)) x8_1 = some r) ∧ Aside0 (kq ≤ k) ∧ Drawn0 w w')
   case atStart => exact ⟨(1), (by first|rfl|(simp; done)|(simp [*]; done)), H', ⟨Nat.le_refl _⟩, by repeat (first|exact Drawn0.refl _|apply Drawn0.step)⟩
   case round =>
    clear H'
    try clear p2
    try clear c4
    try clear c4b0
    try clear c5
    try clear c5b0
    try clear p6
    try clear q6
    try clear hx6
    try clear p6
    try clear q6
    obtain ⟨x8_1, rfl, HA, HK1, ⟨m1, rfl⟩⟩ := hrel
    cases gk with
    | zero => exact absurd HA.out (by simp [colophonref01_fits.l0])
    | succ k1 =>
     have H := HA.out
     clear HA
     simp only [colophonref01_fits.l0] at H
     have HC7 := Aside0.mk H
     clear H
     go_upto_region 3 with (fail)
     go_cut [24] (fun v24 wc => ∃ (kq : Nat) (x24_6 : Bool), v24 = .bool x24_6 ∧ Aside0 (colophonref01_fits.j1 kq a0 a1 a2 (wrap64 (bt a0 a1)) x8_1 x24_6 = some r) ∧ Aside0 (kq ≤ k1) ∧ Drawn0 w wc)
     case first =>
      have H := HC7.out
      clear HC7
      by_cases c8 : x8_1 < a2
      ·rw [if_pos c8] at H
       have c8b0 : decide (x8_1 < a2) = true := decide_eq_true c8
       clear c8
       (first|rw [c8b0]|(simp only [i64_w, i32_w]; rw [c8b0])|skip)
       have H' := Aside0.mk H
       clear H
       go_wp2
       go_meet
       case rel => exact ⟨_, (decide ((wrap64 (a1 + x8_1)) < (a0.size : Int))), (by first|rfl|(simp; done)|(simp [*]; done)), H', ⟨by have := HK1.out; first|omega|exact Nat.le_refl _⟩, by repeat (first|exact Drawn0.refl _|apply Drawn0.step)⟩
      ·rw [if_neg c8] at H
       have c8b0 : decide (x8_1 < a2) = false := decide_eq_false c8
       clear c8
       (first|rw [c8b0]|(simp only [i64_w, i32_w]; rw [c8b0])|skip)
       have H' := Aside0.mk H
       clear H
       go_wp2
       go_meet
       case rel => exact ⟨_, (false), (by first|rfl|(simp; done)|(simp [*]; done)), H', ⟨by have := HK1.out; first|omega|exact Nat.le_refl _⟩, by repeat (first|exact Drawn0.refl _|apply Drawn0.step)⟩
     case rest =>
      clear HC7
      try clear p2
      try clear c4
      try clear c4b0
      try clear c5
      try clear c5b0
      try clear p6
      try clear q6
      try clear hx6
      try clear c8
      try clear c8b0
      try clear p2
      try clear p6
      try clear q6
      obtain ⟨kq, x24_6, rfl, HA, HJ6, ⟨mc6, rfl⟩⟩ := hcut
      cases kq with
      | zero => exact absurd HA.out (by simp [colophonref01_fits.j1])
      | succ kj6 =>
       have H := HA.out
       clear HA
       simp only [colophonref01_fits.j1] at H
       by_cases c9 : x24_6 = true
       ·subst c9
        have H1 : (if 0 ≤ (wrap64 (a1 + x8_1)) then (if (wrap64 (a1 + x8_1)) < (a0.size : Int) then (if (wrap64 (bt a0 (wrap64 (a1 + x8_1)))) < 128 then (some false) else (if (wrap64 (bt a0 (wrap64 (a1 + x8_1)))) > 191 then (some false) else (if x8_1 = 1 then ((colophonref01_second.f (wrap64 (bt a0 a1)) (wrap64 (bt a0 (wrap64 (a1 + x8_1))))).bind fun t123 => (if t123 = true then (colophonref01_fits.l0 kj6 a0 a1 a2 (wrap64 (bt a0 a1)) (wrap64 (x8_1 + 1))) else (some false))) else (colophonref01_fits.l0 kj6 a0 a1 a2 (wrap64 (bt a0 a1)) (wrap64 (x8_1 + 1)))))) else (none)) else (none)) = some r := by rw [if_pos rfl] at H; exact H
        clear H
        have H := H1
        clear H1
        obtain ⟨ji10, hji10⟩ : ∃ j_ : Int, (wrap64 (a1 + x8_1)) = j_ := ⟨_, rfl⟩
        replace H : (if 0 ≤ (ji10) then (if (ji10) < (a0.size : Int) then (if (wrap64 (bt a0 (ji10))) < 128 then (some false) else (if (wrap64 (bt a0 (ji10))) > 191 then (some false) else (if x8_1 = 1 then ((colophonref01_second.f (wrap64 (bt a0 a1)) (wrap64 (bt a0 (ji10)))).bind fun t123 => (if t123 = true then (colophonref01_fits.l0 kj6 a0 a1 a2 (wrap64 (bt a0 a1)) (wrap64 (x8_1 + 1))) else (some false))) else (colophonref01_fits.l0 kj6 a0 a1 a2 (wrap64 (bt a0 a1)) (wrap64 (x8_1 + 1)))))) else (none)) else (none)) = some r := by first|(rw [hji10] at H; exact H)|(simp only [hji10] at H ⊢; exact H)
        have hji10w : (IntKind.i64.wrap (a1 + x8_1)) = ji10 := (i64_w _).trans hji10
        by_cases c11 : 0 ≤ (ji10)
        ·rw [if_pos c11] at H
         have c11b0 : decide (0 ≤ (ji10)) = true := decide_eq_true c11
         clear c11
         by_cases c12 : (ji10) < (a0.size : Int)
         ·rw [if_pos c12] at H
          have c12b0 : decide ((ji10) < (a0.size : Int)) = true := decide_eq_true c12
          clear c12
          by_cases c14 : (wrap64 (bt a0 (ji10))) < 128
          ·rw [if_pos c14] at H
           have c14b0 : decide ((wrap64 (bt a0 (ji10))) < 128) = true := decide_eq_true c14
           clear c14
           obtain rfl := Option.some.inj H
           have p13 : 0 ≤ ((ji10) : Int) := of_decide_eq_true (by first|(with_reducible assumption)|assumption)
           have q13 : (ji10) < (a0.size : Int) := of_decide_eq_true (by first|(with_reducible assumption)|assumption)
           have hx13 := bt_at a0 (ji10)
           replace p13 := eq_true p13
           replace q13 := eq_true q13
           go_wp2
           go_ret
           exact ⟨by first|rfl|(simp; done)|(simp only [← hji10] <;> (first|rfl|simp))|(simp [*]; done), by repeat (first|exact Drawn0.refl _|apply Drawn0.step)⟩
          ·rw [if_neg c14] at H
           have c14b0 : decide ((wrap64 (bt a0 (ji10))) < 128) = false := decide_eq_false c14
           clear c14
           by_cases c15 : (wrap64 (bt a0 (ji10))) > 191
           ·rw [if_pos c15] at H
            have c15b0 : decide (191 < (wrap64 (bt a0 (ji10)))) = true := decide_eq_true c15
            clear c15
            obtain rfl := Option.some.inj H
            have p13 : 0 ≤ ((ji10) : Int) := of_decide_eq_true (by first|(with_reducible assumption)|assumption)
            have q13 : (ji10) < (a0.size : Int) := of_decide_eq_true (by first|(with_reducible assumption)|assumption)
            have hx13 := bt_at a0 (ji10)
            replace p13 := eq_true p13
            replace q13 := eq_true q13
            go_wp2
            go_ret
            exact ⟨by first|rfl|(simp; done)|(simp only [← hji10] <;> (first|rfl|simp))|(simp [*]; done), by repeat (first|exact Drawn0.refl _|apply Drawn0.step)⟩
           ·rw [if_neg c15] at H
            have c15b0 : decide (191 < (wrap64 (bt a0 (ji10)))) = false := decide_eq_false c15
            clear c15
            by_cases c16 : x8_1 = 1
            ·rw [if_pos c16] at H
             have c16b0 : (x8_1 == 1) = true := beq_iff_eq.mpr c16
             have c16b1 : (x8_1 != 1) = false := bne_eq_false_iff_eq.mpr c16
             clear c16
             replace H := Option.bind_eq_some_iff.mp H
             obtain ⟨t123, A170, H⟩ := H
             replace H : (if t123 = true then (colophonref01_fits.l0 kj6 a0 a1 a2 (wrap64 (bt a0 a1)) (wrap64 (x8_1 + 1))) else (some false)) = some r := H
             have A17 := Aside0.mk A170
             clear A170
             by_cases c18 : t123 = true
             ·subst c18
              have H1 : (colophonref01_fits.l0 kj6 a0 a1 a2 (wrap64 (bt a0 a1)) (wrap64 (x8_1 + 1))) = some r := by rw [if_pos rfl] at H; exact H
              clear H
              have H := H1
              clear H1
              have H' := Aside0.mk H
              clear H
              have p13 : 0 ≤ ((ji10) : Int) := of_decide_eq_true (by first|(with_reducible assumption)|assumption)
              have q13 : (ji10) < (a0.size : Int) := of_decide_eq_true (by first|(with_reducible assumption)|assumption)
              have hx13 := bt_at a0 (ji10)
              replace p13 := eq_true p13
              replace q13 := eq_true q13
              go_wp2_with (first|(go_at_call 90; (with_reducible refine (colophonref01_second.calls (wrap64 (bt a0 a1)) (wrap64 (bt a0 (ji10))) true _ A17.out).mono ?_); rintro e w' ⟨rfl, ⟨nd, rfl⟩⟩))
              go_roundg kj6
              case measure => have := HK1.out; have := HJ6.out; omega
              case rel => exact ⟨(wrap64 (x8_1 + 1)), (by first|rfl|(simp; done)|(simp [*]; done)), H', ⟨by have := HK1.out; have := HJ6.out; omega⟩, by repeat (first|exact Drawn0.refl _|apply Drawn0.step)⟩
             ·replace c18 := Bool.eq_false_iff.mpr c18
              subst c18
              have H1 : (some false) = some r := by rw [if_neg (show ¬ (false = true) by decide)] at H; exact H
              clear H
              have H := H1
              clear H1
              obtain rfl := Option.some.inj H
              have p13 : 0 ≤ ((ji10) : Int) := of_decide_eq_true (by first|(with_reducible assumption)|assumption)
              have q13 : (ji10) < (a0.size : Int) := of_decide_eq_true (by first|(with_reducible assumption)|assumption)
              have hx13 := bt_at a0 (ji10)
              replace p13 := eq_true p13
              replace q13 := eq_true q13
              go_wp2_with (first|(go_at_call 90; (with_reducible refine (colophonref01_second.calls (wrap64 (bt a0 a1)) (wrap64 (bt a0 (ji10))) false _ A17.out).mono ?_); rintro e w' ⟨rfl, ⟨nd, rfl⟩⟩))
              go_ret
              exact ⟨by first|rfl|(simp; done)|(simp only [← hji10] <;> (first|rfl|simp))|(simp [*]; done), by repeat (first|exact Drawn0.refl _|apply Drawn0.step)⟩
            ·rw [if_neg c16] at H
             have c16b0 : (x8_1 == 1) = false := beq_eq_false_iff_ne.mpr c16
             have c16b1 : (x8_1 != 1) = true := bne_iff_ne.mpr c16
             have H' := Aside0.mk H
             clear H
             have p13 : 0 ≤ ((ji10) : Int) := of_decide_eq_true (by first|(with_reducible assumption)|assumption)
             have q13 : (ji10) < (a0.size : Int) := of_decide_eq_true (by first|(with_reducible assumption)|assumption)
             have hx13 := bt_at a0 (ji10)
             replace p13 := eq_true p13
             replace q13 := eq_true q13
             go_wp2
             go_roundg kj6
             case measure => have := HK1.out; have := HJ6.out; omega
             case rel => exact ⟨(wrap64 (x8_1 + 1)), (by first|rfl|(simp; done)|(simp [*]; done)), H', ⟨by have := HK1.out; have := HJ6.out; omega⟩, by repeat (first|exact Drawn0.refl _|apply Drawn0.step)⟩
         ·rw [if_neg c12] at H
          exact absurd H (by simp)
        ·rw [if_neg c11] at H
         exact absurd H (by simp)
       ·replace c9 := Bool.eq_false_iff.mpr c9
        subst c9
        have H1 : (some true) = some r := by rw [if_neg (show ¬ (false = true) by decide)] at H; exact H
        clear H
        have H := H1
        clear H1
        obtain rfl := Option.some.inj H
        go_wp2
        go_ret
        exact ⟨by first|rfl|(simp; done)|(simp [*]; done), by repeat (first|exact Drawn0.refl _|apply Drawn0.step)⟩
  ·rw [if_neg c5] at H
   exact absurd H (by simp)
 ·rw [if_neg c4] at H
  exact absurd H (by simp)
end Go.Proofs.YtgfloplakjmncaaDoor.PScan
