-- Printed by the prover's own program (wip/xprint.py) over the kit's print. Not trusted: Lean checks it.
import Derived.Test.YtgfloplakjmncaaDoorPScanx0
import Derived.Test.YtgfloplakjmncaaDoorPScanx4
import Derived.Test.YtgfloplakjmncaaDoorPScanx5
namespace Go.Proofs.YtgfloplakjmncaaDoor.PScan
open Go.RowKit Go.Proofs.YtgfloplakjmncaaDoorW.PrintWords Go.Proofs.YtgfloplakjmncaaDoorW.PrintLast Go.Proofs.YtgfloplakjmncaaDoorW.PrintMore
attribute [local go_sem] max2_int min2_int max_two min_two max_three min_three max_four min_four   -- for this text's walks alone
set_option linter.unusedVariables false
set_option linter.unusedSimpArgs false
/-! ### colophonref10_begins: function 45 -/
mutual
def colophonref10_begins.j0 : Nat → ByteArray → Int → Bool → Option (Int)
 | 0, _, _, _ => none
 | k + 1, x0, x1, x8 => (colophonref04_Sign.f k x0 x1).bind fun t158 => (if x8 = true then (some 1) else (if 0 ≤ x1 then (if x1 < (x0.size : Int) then ((colophonref10_digit.f (bt x0 x1)).bind fun t159 => (if t159 = true then (some 3) else (if (bt x0 x1) = 34 then (some 4) else (if (bt x0 x1) = 39 then (some 5) else (if (bt x0 x1) = 47 then (if (wrap64 (x1 + 1)) < (x0.size : Int) then (if 0 ≤ (wrap64 (x1 + 1)) then (colophonref10_begins.j1 k x0 x1 t158 ((bt x0 (wrap64 (x1 + 1))) == 47)) else (none)) else (colophonref10_begins.j1 k x0 x1 t158 false)) else (colophonref10_begins.j1 k x0 x1 t158 false)))))) else (none)) else (none)))
def colophonref10_begins.j1 : Nat → ByteArray → Int → ByteArray → Bool → Option (Int)
 | 0, _, _, _, _ => none
 | k + 1, x0, x1, x9, x42 => if x42 = true then (some 7) else (if 0 ≤ x1 then (if x1 < (x0.size : Int) then (if (bt x0 x1) = 123 then (some 8) else (if x9.toList = ([] : List UInt8) then (some 0) else (some 6))) else (none)) else (none))
end
def colophonref10_begins.f (k : Nat) (a0 : ByteArray) (a1 : Int) : Option (Int) := (colophonref01_Next.f k a0 a1).bind fun bt154 => (if bt154.2.2 = true then ((colophonref04_Letter.f k bt154.1).bind fun t157 => (colophonref10_begins.j0 k a0 a1 t157)) else (colophonref10_begins.j0 k a0 a1 false))
theorem colophonref10_begins.mono_l : ∀ k, (∀ y0 y1 y2, LeO (colophonref10_begins.j0 k y0 y1 y2) (colophonref10_begins.j0 (k + 1) y0 y1 y2)) ∧ (∀ y0 y1 y2 y3, LeO (colophonref10_begins.j1 k y0 y1 y2 y3) (colophonref10_begins.j1 (k + 1) y0 y1 y2 y3))
 | 0 => ⟨fun _ _ _ r h => by simp [colophonref10_begins.j0] at h, fun _ _ _ _ r h => by simp [colophonref10_begins.j1] at h⟩
 | k + 1 => by
  obtain ⟨ih0, ih1⟩ := colophonref10_begins.mono_l k
  refine ⟨?_, ?_⟩
  ·intro y0 y1 y2
   unfold colophonref10_begins.j0
   repeat' first
   | (with_reducible exact ih0 _ _ _)
   | (with_reducible exact ih1 _ _ _ _)
   | (with_reducible exact colophonref01_Next.mono _ _ _)
   | (with_reducible exact colophonref04_Letter.mono _ _)
   | (with_reducible exact colophonref04_Sign.mono _ _ _)
   | (with_reducible exact LeO.refl _)
   | (with_reducible exact LeO.none _)
   | (with_reducible refine LeO.ite ?_ ?_)
   | (with_reducible refine LeO.bind ?_ (fun _ => ?_))
   | exact ih0 _ _ _
   | exact ih1 _ _ _ _
   | exact colophonref01_Next.mono _ _ _
   | exact colophonref04_Letter.mono _ _
   | exact colophonref04_Sign.mono _ _ _
   | exact LeO.none _
   | refine LeO.ite ?_ ?_
   | refine LeO.bind ?_ (fun _ => ?_)
  ·intro y0 y1 y2 y3
   unfold colophonref10_begins.j1
   repeat' first
   | (with_reducible exact ih0 _ _ _)
   | (with_reducible exact ih1 _ _ _ _)
   | (with_reducible exact colophonref01_Next.mono _ _ _)
   | (with_reducible exact colophonref04_Letter.mono _ _)
   | (with_reducible exact colophonref04_Sign.mono _ _ _)
   | (with_reducible exact LeO.refl _)
   | (with_reducible exact LeO.none _)
   | (with_reducible refine LeO.ite ?_ ?_)
   | (with_reducible refine LeO.bind ?_ (fun _ => ?_))
   | exact ih0 _ _ _
   | exact ih1 _ _ _ _
   | exact colophonref01_Next.mono _ _ _
   | exact colophonref04_Letter.mono _ _
   | exact colophonref04_Sign.mono _ _ _
   | exact LeO.none _
   | refine LeO.ite ?_ ?_
   | refine LeO.bind ?_ (fun _ => ?_)
theorem colophonref10_begins.mono : ∀ a0 a1 k, LeO (colophonref10_begins.f k a0 a1) (colophonref10_begins.f (k + 1) a0 a1) := by
 intro a0 a1 k
 obtain ⟨ih0, ih1⟩ := colophonref10_begins.mono_l k
 unfold colophonref10_begins.f
 repeat' first
   | (with_reducible exact ih0 _ _ _)
   | (with_reducible exact ih1 _ _ _ _)
   | (with_reducible exact colophonref01_Next.mono _ _ _)
   | (with_reducible exact colophonref04_Letter.mono _ _)
   | (with_reducible exact colophonref04_Sign.mono _ _ _)
   | (with_reducible exact LeO.refl _)
   | (with_reducible exact LeO.none _)
   | (with_reducible refine LeO.ite ?_ ?_)
   | (with_reducible refine LeO.bind ?_ (fun _ => ?_))
   | exact ih0 _ _ _
   | exact ih1 _ _ _ _
   | exact colophonref01_Next.mono _ _ _
   | exact colophonref04_Letter.mono _ _
   | exact colophonref04_Sign.mono _ _ _
   | exact LeO.none _
   | refine LeO.ite ?_ ?_
   | refine LeO.bind ?_ (fun _ => ?_)
set_option maxHeartbeats 8000000 in
set_option maxRecDepth 100000 in
theorem colophonref10_begins.calls (k : Nat) (a0 : ByteArray) (a1 : Int) (r : Int) (w : World) (h : colophonref10_begins.f k a0 a1 = some r) :
  Calls Tryd.prog 45 #[.string a0, .int .i64 a1] w fun e w' => e = .returned (.int .u8 r) ∧ Below w.heap.size w w' := by
 have HB := Aside0.mk (Below.refl w.heap.size w)
 have H : ((colophonref01_Next.f k a0 a1).bind fun bt154 => (if bt154.2.2 = true then ((colophonref04_Letter.f k bt154.1).bind fun t157 => (colophonref10_begins.j0 k a0 a1 t157)) else (colophonref10_begins.j0 k a0 a1 false))) = some r := h
 clear h
 replace H := Option.bind_eq_some_iff.mp H
 obtain ⟨⟨t154, t155, t156⟩, A30, H⟩ := H
 replace H : (if t156 = true then ((colophonref04_Letter.f k t154).bind fun t157 => (colophonref10_begins.j0 k a0 a1 t157)) else (colophonref10_begins.j0 k a0 a1 false)) = some r := H
 have A3 := Aside0.mk A30
 clear A30
 have HC4 := Aside0.mk H
 clear H
 go_enter Tryd.func45, Tryd.ntmps45
 go_upto_region 2 with (first|((with_reducible refine gate_callee (f := 61) rfl ?_); refine goesL_ (some 13) rfl rfl Tryd.func61 (by kernel_rfl) rfl #[.string a0, .int .i64 a1] rfl (by (try simp only [List.map_toArray, List.map_cons, List.map_nil]); first|done|rfl|(simp only [List.length_drop, List.length_take]; rfl)) ?_; (with_reducible refine (colophonref01_Next.calls k a0 a1 t154 t155 t156 _ A3.out).mono ?_); rintro e w' ⟨rfl, ⟨nd, rfl⟩⟩; refine ⟨_, rfl, ?_⟩))
 (try simp only [Act.put, List.setIfInBounds_toArray, List.set_cons_zero, List.set_cons_succ])
 go_cut [8] (fun v8 wc => ∃ (kq : Nat) (x8_3 : Bool), v8 = .bool x8_3 ∧ Aside0 (colophonref10_begins.j0 kq a0 a1 x8_3 = some r) ∧ Aside0 (kq ≤ k) ∧ Aside0 (Below w.heap.size w wc))
 case first =>
  have H := HC4.out
  clear HC4
  by_cases c5 : t156 = true
  ·subst c5
   have H1 : ((colophonref04_Letter.f k t154).bind fun t157 => (colophonref10_begins.j0 k a0 a1 t157)) = some r := by rw [if_pos rfl] at H; exact H
   clear H
   have H := H1
   clear H1
   replace H := Option.bind_eq_some_iff.mp H
   obtain ⟨t157, A60, H⟩ := H
   replace H : (colophonref10_begins.j0 k a0 a1 t157) = some r := H
   have A6 := Aside0.mk A60
   clear A60
   have H' := Aside0.mk H
   clear H
   go_wp2_with (first|(go_at_call 62; (with_reducible refine (colophonref04_Letter.calls k t154 t157 _ A6.out).mono ?_); rintro e w7 ⟨rfl, hb⟩; have n0_ := Aside0.mk (below_step (by repeat (first|(with_reducible first|exact HB.out|apply below_alloc|apply pw_below_drewN|apply below_drew1)|exact HB.out)) hb); clear HB; have HB := n0_; clear n0_; (try clear hb); (try clear hb2); (try clear hk); (try clear hi)))
   go_meet
   case rel => exact ⟨_, (t157), (by first|rfl|(simp; done)|(simp [*]; done)), H', ⟨by first|omega|exact Nat.le_refl _⟩, ⟨by repeat (first|(with_reducible first|exact HB.out|apply below_alloc|apply pw_below_drewN|apply below_drew1)|exact HB.out)⟩⟩
  ·replace c5 := Bool.eq_false_iff.mpr c5
   subst c5
   have H1 : (colophonref10_begins.j0 k a0 a1 false) = some r := by rw [if_neg (show ¬ (false = true) by decide)] at H; exact H
   clear H
   have H := H1
   clear H1
   have H' := Aside0.mk H
   clear H
   go_wp2
   go_meet
   case rel => exact ⟨_, (false), (by first|rfl|(simp; done)|(simp [*]; done)), H', ⟨by first|omega|exact Nat.le_refl _⟩, ⟨by repeat (first|(with_reducible first|exact HB.out|apply below_alloc|apply pw_below_drewN|apply below_drew1)|exact HB.out)⟩⟩
 case rest =>
  clear HC4
  try clear p2
  try clear c4
  try clear c5
  try clear c6
  obtain ⟨kq, x8_3, rfl, HA, HJ3, HB⟩ := hcut
  cases kq with
  | zero => exact absurd HA.out (by simp [colophonref10_begins.j0])
  | succ kj3 =>
   have H := HA.out
   clear HA
   simp only [colophonref10_begins.j0] at H
   replace H := Option.bind_eq_some_iff.mp H
   obtain ⟨t158, A80, H⟩ := H
   replace H : (if x8_3 = true then (some 1) else (if 0 ≤ a1 then (if a1 < (a0.size : Int) then ((colophonref10_digit.f (bt a0 a1)).bind fun t159 => (if t159 = true then (some 3) else (if (bt a0 a1) = 34 then (some 4) else (if (bt a0 a1) = 39 then (some 5) else (if (bt a0 a1) = 47 then (if (wrap64 (a1 + 1)) < (a0.size : Int) then (if 0 ≤ (wrap64 (a1 + 1)) then (colophonref10_begins.j1 kj3 a0 a1 t158 ((bt a0 (wrap64 (a1 + 1))) == 47)) else (none)) else (colophonref10_begins.j1 kj3 a0 a1 t158 false)) else (colophonref10_begins.j1 kj3 a0 a1 t158 false)))))) else (none)) else (none))) = some r := H
   have A8 := Aside0.mk A80
   clear A80
   by_cases c9 : x8_3 = true
   ·subst c9
    have H1 : (some 1) = some r := by rw [if_pos rfl] at H; exact H
    clear H
    have H := H1
    clear H1
    obtain rfl := Option.some.inj H
    go_wp2_with (first|((with_reducible refine gate_callee (f := 63) rfl ?_); refine goesL_ (some 24) rfl rfl Tryd.func63 (by kernel_rfl) rfl #[.string a0, .int .i64 a1] rfl (by (try simp only [List.map_toArray, List.map_cons, List.map_nil]); first|done|rfl|(simp only [List.length_drop, List.length_take]; rfl)) ?_; (with_reducible refine (colophonref04_Sign.calls kj3 a0 a1 t158 _ A8.out).mono ?_); rintro e w10 ⟨rfl, hb⟩; refine ⟨_, rfl, ?_⟩; have n0_ := Aside0.mk (below_step (by repeat (first|(with_reducible first|exact HB.out|apply below_alloc|apply pw_below_drewN|apply below_drew1)|exact HB.out)) hb); clear HB; have HB := n0_; clear n0_; (try clear hb); (try clear hb2); (try clear hk); (try clear hi)))
    go_ret
    exact ⟨by first|rfl|(simp [errW_none, errW_some] <;> rfl)|(simp [*, errW_none, errW_some] <;> rfl), by repeat (first|(with_reducible first|exact HB.out|apply below_alloc|apply pw_below_drewN|apply below_drew1)|exact HB.out)⟩
   ·replace c9 := Bool.eq_false_iff.mpr c9
    subst c9
    have H1 : (if 0 ≤ a1 then (if a1 < (a0.size : Int) then ((colophonref10_digit.f (bt a0 a1)).bind fun t159 => (if t159 = true then (some 3) else (if (bt a0 a1) = 34 then (some 4) else (if (bt a0 a1) = 39 then (some 5) else (if (bt a0 a1) = 47 then (if (wrap64 (a1 + 1)) < (a0.size : Int) then (if 0 ≤ (wrap64 (a1 + 1)) then (colophonref10_begins.j1 kj3 a0 a1 t158 ((bt a0 (wrap64 (a1 + 1))) == 47)) else (none)) else (colophonref10_begins.j1 kj3 a0 a1 t158 false)) else (colophonref10_begins.j1 kj3 a0 a1 t158 false)))))) else (none)) else (none)) = some r := by rw [if_neg (show ¬ (false = true) by decide)] at H; exact H
    clear H
    have H := H1
    clear H1
    by_cases c11 : 0 ≤ a1
    ·rw [if_pos c11] at H
     have c11b0 : decide (0 ≤ a1) = true := decide_eq_true c11
     clear c11
     by_cases c12 : a1 < (a0.size : Int)
     ·rw [if_pos c12] at H
      have c12b0 : decide (a1 < (a0.size : Int)) = true := decide_eq_true c12
      clear c12
      replace H := Option.bind_eq_some_iff.mp H
      obtain ⟨t159, A140, H⟩ := H
      replace H : (if t159 = true then (some 3) else (if (bt a0 a1) = 34 then (some 4) else (if (bt a0 a1) = 39 then (some 5) else (if (bt a0 a1) = 47 then (if (wrap64 (a1 + 1)) < (a0.size : Int) then (if 0 ≤ (wrap64 (a1 + 1)) then (colophonref10_begins.j1 kj3 a0 a1 t158 ((bt a0 (wrap64 (a1 + 1))) == 47)) else (none)) else (colophonref10_begins.j1 kj3 a0 a1 t158 false)) else (colophonref10_begins.j1 kj3 a0 a1 t158 false))))) = some r := H
      have A14 := Aside0.mk A140
      clear A140
      by_cases c15 : t159 = true
      ·subst c15
       have H1 : (some 3) = some r := by rw [if_pos rfl] at H; exact H
       clear H
       have H := H1
       clear H1
       obtain rfl := Option.some.inj H
       go_wp2_with (first|((with_reducible refine gate_callee (f := 63) rfl ?_); refine goesL_ (some 24) rfl rfl Tryd.func63 (by kernel_rfl) rfl #[.string a0, .int .i64 a1] rfl (by (try simp only [List.map_toArray, List.map_cons, List.map_nil]); first|done|rfl|(simp only [List.length_drop, List.length_take]; rfl)) ?_; (with_reducible refine (colophonref04_Sign.calls kj3 a0 a1 t158 _ A8.out).mono ?_); rintro e w16 ⟨rfl, hb⟩; refine ⟨_, rfl, ?_⟩; have n0_ := Aside0.mk (below_step (by repeat (first|(with_reducible first|exact HB.out|apply below_alloc|apply pw_below_drewN|apply below_drew1)|exact HB.out)) hb); clear HB; have HB := n0_; clear n0_; (try clear hb); (try clear hb2); (try clear hk); (try clear hi); have p13 : 0 ≤ (a1 : Int) := of_decide_eq_true (by first|(with_reducible assumption)|assumption); have q13 : a1 < (a0.size : Int) := of_decide_eq_true (by first|(with_reducible assumption)|assumption); have hx13 := bt_at a0 a1; replace p13 := eq_true p13; replace q13 := eq_true q13)|((with_reducible refine gate_callee (f := 64) rfl ?_); refine goesL_ (some 31) rfl rfl Tryd.func64 (by kernel_rfl) rfl #[.int .u8 (bt a0 a1)] rfl (by (try simp only [List.map_toArray, List.map_cons, List.map_nil]); first|done|rfl|(simp only [List.length_drop, List.length_take]; rfl)) ?_; (with_reducible refine (colophonref10_digit.calls (bt a0 a1) true _ A14.out).mono ?_); rintro e w' ⟨rfl, ⟨nd, rfl⟩⟩; refine ⟨_, rfl, ?_⟩))
       go_ret
       exact ⟨by first|rfl|(simp [errW_none, errW_some] <;> rfl)|(simp [*, errW_none, errW_some] <;> rfl), by repeat (first|(with_reducible first|exact HB.out|apply below_alloc|apply pw_below_drewN|apply below_drew1)|exact HB.out)⟩
      ·replace c15 := Bool.eq_false_iff.mpr c15
       subst c15
       have H1 : (if (bt a0 a1) = 34 then (some 4) else (if (bt a0 a1) = 39 then (some 5) else (if (bt a0 a1) = 47 then (if (wrap64 (a1 + 1)) < (a0.size : Int) then (if 0 ≤ (wrap64 (a1 + 1)) then (colophonref10_begins.j1 kj3 a0 a1 t158 ((bt a0 (wrap64 (a1 + 1))) == 47)) else (none)) else (colophonref10_begins.j1 kj3 a0 a1 t158 false)) else (colophonref10_begins.j1 kj3 a0 a1 t158 false)))) = some r := by rw [if_neg (show ¬ (false = true) by decide)] at H; exact H
       clear H
       have H := H1
       clear H1
       by_cases c18 : (bt a0 a1) = 34
       ·rw [if_pos c18] at H
        have c18b0 : ((bt a0 a1) == 34) = true := beq_iff_eq.mpr c18
        have c18b1 : ((bt a0 a1) != 34) = false := bne_eq_false_iff_eq.mpr c18
        clear c18
        obtain rfl := Option.some.inj H
        go_wp2_with (first|((with_reducible refine gate_callee (f:=63) rfl ?_);refine goesL_ (some 24) rfl rfl Tryd.func63 (by kernel_rfl) rfl #[.string a0,.int .i64 a1] rfl (by (try simp only [List.map_toArray,List.map_cons,List.map_nil]);first|done|rfl|(simp only [List.length_drop,List.length_take];rfl)) ?_;(with_reducible refine (colophonref04_Sign.calls kj3 a0 a1 t158 _ A8.out).mono ?_);rintro e w19 ⟨rfl,hb⟩;refine ⟨_,rfl,?_⟩;have n0_:=Aside0.mk (below_step (by repeat (first|(with_reducible first|exact HB.out|apply below_alloc|apply pw_below_drewN|apply below_drew1)|exact HB.out)) hb);clear HB;have HB:=n0_;clear n0_;(try clear hb);(try clear hb2);(try clear hk);(try clear hi);have p13 : 0 ≤ (a1 : Int):=of_decide_eq_true (by first|(with_reducible assumption)|assumption);have q13 : a1 < (a0.size : Int):=of_decide_eq_true (by first|(with_reducible assumption)|assumption);have hx13:=bt_at a0 a1;replace p13:=eq_true p13;replace q13:=eq_true q13)|((with_reducible refine gate_callee (f:=64) rfl ?_);refine goesL_ (some 31) rfl rfl Tryd.func64 (by kernel_rfl) rfl #[.int .u8 (bt a0 a1)] rfl (by (try simp only [List.map_toArray,List.map_cons,List.map_nil]);first|done|rfl|(simp only [List.length_drop,List.length_take];rfl)) ?_;(with_reducible refine (colophonref10_digit.calls (bt a0 a1) false _ A14.out).mono ?_);rintro e w' ⟨rfl,⟨nd,rfl⟩⟩;refine ⟨_,rfl,?_⟩;have p17 : 0 ≤ (a1 : Int):=of_decide_eq_true (by first|(with_reducible assumption)|assumption);have q17 : a1 < (a0.size : Int):=of_decide_eq_true (by first|(with_reducible assumption)|assumption);have hx17:=bt_at a0 a1;replace p17:=eq_true p17;replace q17:=eq_true q17))
        go_ret
        exact ⟨by first|rfl|(simp [errW_none, errW_some] <;> rfl)|(simp [*, errW_none, errW_some] <;> rfl), by repeat (first|(with_reducible first|exact HB.out|apply below_alloc|apply pw_below_drewN|apply below_drew1)|exact HB.out)⟩
       ·rw [if_neg c18] at H
        have c18b0 : ((bt a0 a1) == 34) = false := beq_eq_false_iff_ne.mpr c18
        have c18b1 : ((bt a0 a1) != 34) = true := bne_iff_ne.mpr c18
        by_cases c21 : (bt a0 a1) = 39
        ·rw [if_pos c21] at H
         have c21b0 : ((bt a0 a1) == 39) = true := beq_iff_eq.mpr c21
         have c21b1 : ((bt a0 a1) != 39) = false := bne_eq_false_iff_eq.mpr c21
         clear c21
         obtain rfl := Option.some.inj H
         go_wp2_with (first|((with_reducible refine gate_callee (f:=63) rfl ?_);refine goesL_ (some 24) rfl rfl Tryd.func63 (by kernel_rfl) rfl #[.string a0,.int .i64 a1] rfl (by (try simp only [List.map_toArray,List.map_cons,List.map_nil]);first|done|rfl|(simp only [List.length_drop,List.length_take];rfl)) ?_;(with_reducible refine (colophonref04_Sign.calls kj3 a0 a1 t158 _ A8.out).mono ?_);rintro e w22 ⟨rfl,hb⟩;refine ⟨_,rfl,?_⟩;have n0_:=Aside0.mk (below_step (by repeat (first|(with_reducible first|exact HB.out|apply below_alloc|apply pw_below_drewN|apply below_drew1)|exact HB.out)) hb);clear HB;have HB:=n0_;clear n0_;(try clear hb);(try clear hb2);(try clear hk);(try clear hi);have p13 : 0 ≤ (a1 : Int):=of_decide_eq_true (by first|(with_reducible assumption)|assumption);have q13 : a1 < (a0.size : Int):=of_decide_eq_true (by first|(with_reducible assumption)|assumption);have hx13:=bt_at a0 a1;replace p13:=eq_true p13;replace q13:=eq_true q13)|((with_reducible refine gate_callee (f:=64) rfl ?_);refine goesL_ (some 31) rfl rfl Tryd.func64 (by kernel_rfl) rfl #[.int .u8 (bt a0 a1)] rfl (by (try simp only [List.map_toArray,List.map_cons,List.map_nil]);first|done|rfl|(simp only [List.length_drop,List.length_take];rfl)) ?_;(with_reducible refine (colophonref10_digit.calls (bt a0 a1) false _ A14.out).mono ?_);rintro e w' ⟨rfl,⟨nd,rfl⟩⟩;refine ⟨_,rfl,?_⟩;have p17 : 0 ≤ (a1 : Int):=of_decide_eq_true (by first|(with_reducible assumption)|assumption);have q17 : a1 < (a0.size : Int):=of_decide_eq_true (by first|(with_reducible assumption)|assumption);have hx17:=bt_at a0 a1;replace p17:=eq_true p17;replace q17:=eq_true q17;have p20 : 0 ≤ (a1 : Int):=of_decide_eq_true (by first|(with_reducible assumption)|assumption);have q20 : a1 < (a0.size : Int):=of_decide_eq_true (by first|(with_reducible assumption)|assumption);have hx20:=bt_at a0 a1;replace p20:=eq_true p20;replace q20:=eq_true q20))
         go_ret
         exact ⟨by first|rfl|(simp [errW_none, errW_some] <;> rfl)|(simp [*, errW_none, errW_some] <;> rfl), by repeat (first|(with_reducible first|exact HB.out|apply below_alloc|apply pw_below_drewN|apply below_drew1)|exact HB.out)⟩
        ·rw [if_neg c21] at H
         have c21b0 : ((bt a0 a1) == 39) = false := beq_eq_false_iff_ne.mpr c21
         have c21b1 : ((bt a0 a1) != 39) = true := bne_iff_ne.mpr c21
         have HC23 := Aside0.mk H
         clear H
         go_upto_region 12 with (first|((with_reducible refine gate_callee (f:=63) rfl ?_);refine goesL_ (some 24) rfl rfl Tryd.func63 (by kernel_rfl) rfl #[.string a0,.int .i64 a1] rfl (by (try simp only [List.map_toArray,List.map_cons,List.map_nil]);first|done|rfl|(simp only [List.length_drop,List.length_take];rfl)) ?_;(with_reducible refine (colophonref04_Sign.calls kj3 a0 a1 t158 _ A8.out).mono ?_);rintro e w24 ⟨rfl,hb⟩;refine ⟨_,rfl,?_⟩;have n0_:=Aside0.mk (below_step (by repeat (first|(with_reducible first|exact HB.out|apply below_alloc|apply pw_below_drewN|apply below_drew1)|exact HB.out)) hb);clear HB;have HB:=n0_;clear n0_;(try clear hb);(try clear hb2);(try clear hk);(try clear hi);have p13 : 0 ≤ (a1 : Int):=of_decide_eq_true (by first|(with_reducible assumption)|assumption);have q13 : a1 < (a0.size : Int):=of_decide_eq_true (by first|(with_reducible assumption)|assumption);have hx13:=bt_at a0 a1;replace p13:=eq_true p13;replace q13:=eq_true q13)|((with_reducible refine gate_callee (f:=64) rfl ?_);refine goesL_ (some 31) rfl rfl Tryd.func64 (by kernel_rfl) rfl #[.int .u8 (bt a0 a1)] rfl (by (try simp only [List.map_toArray,List.map_cons,List.map_nil]);first|done|rfl|(simp only [List.length_drop,List.length_take];rfl)) ?_;(with_reducible refine (colophonref10_digit.calls (bt a0 a1) false _ A14.out).mono ?_);rintro e w' ⟨rfl,⟨nd,rfl⟩⟩;refine ⟨_,rfl,?_⟩;have p17 : 0 ≤ (a1 : Int):=of_decide_eq_true (by first|(with_reducible assumption)|assumption);have q17 : a1 < (a0.size : Int):=of_decide_eq_true (by first|(with_reducible assumption)|assumption);have hx17:=bt_at a0 a1;replace p17:=eq_true p17;replace q17:=eq_true q17;have p20 : 0 ≤ (a1 : Int):=of_decide_eq_true (by first|(with_reducible assumption)|assumption);have q20 : a1 < (a0.size : Int):=of_decide_eq_true (by first|(with_reducible assumption)|assumption);have hx20:=bt_at a0 a1;replace p20:=eq_true p20;replace q20:=eq_true q20))
         (try simp only [Act.put, List.setIfInBounds_toArray, List.set_cons_zero, List.set_cons_succ])
         go_cut [42] (fun v42 wc => ∃ (kq : Nat) (x42_22 : Bool), v42 = .bool x42_22 ∧ Aside0 (colophonref10_begins.j1 kq a0 a1 t158 x42_22 = some r) ∧ Aside0 (kq ≤ kj3) ∧ Aside0 (Below w.heap.size w wc))
         case first =>
          have H := HC23.out
          clear HC23
          by_cases c26 : (bt a0 a1) = 47
          ·rw [if_pos c26] at H
           have c26b0 : ((bt a0 a1) == 47) = true := beq_iff_eq.mpr c26
           have c26b1 : ((bt a0 a1) != 47) = false := bne_eq_false_iff_eq.mpr c26
           clear c26
           (first|rw [c26b0]|(simp only [i64_w, i32_w]; rw [c26b0])|skip)
           by_cases c27 : (wrap64 (a1 + 1)) < (a0.size : Int)
           ·rw [if_pos c27] at H
            have c27b0 : decide ((wrap64 (a1 + 1)) < (a0.size : Int)) = true := decide_eq_true c27
            clear c27
            obtain ⟨ji28, hji28⟩ : ∃ j_ : Int, (wrap64 (a1 + 1)) = j_ := ⟨_, rfl⟩
            replace H : (if 0 ≤ (ji28) then (colophonref10_begins.j1 kj3 a0 a1 t158 ((bt a0 (ji28)) == 47)) else (none)) = some r := by first|(rw [hji28] at H; exact H)|(simp only [hji28] at H ⊢; exact H)
            (try rw [hji28] at c27b0)
            have hji28w : (IntKind.i64.wrap (a1 + 1)) = ji28 := (i64_w _).trans hji28
            by_cases c29 : 0 ≤ (ji28)
            ·rw [if_pos c29] at H
             have c29b0 : decide (0 ≤ (ji28)) = true := decide_eq_true c29
             clear c29
             have H' := Aside0.mk H
             clear H
             have p25 : 0 ≤ (a1 : Int) := of_decide_eq_true (by first|(with_reducible assumption)|assumption)
             have q25 : a1 < (a0.size : Int) := of_decide_eq_true (by first|(with_reducible assumption)|assumption)
             have hx25 := bt_at a0 a1
             replace p25 := eq_true p25
             replace q25 := eq_true q25
             have p30 : 0 ≤ ((ji28) : Int) := of_decide_eq_true (by first|(with_reducible assumption)|assumption)
             have q30 : (ji28) < (a0.size : Int) := of_decide_eq_true (by first|(with_reducible assumption)|assumption)
             have hx30 := bt_at a0 (ji28)
             replace p30 := eq_true p30
             replace q30 := eq_true q30
             go_wp2
             go_meet
             case rel => exact ⟨_, (((bt a0 (ji28)) == 47)), (by first|rfl|(simp; done)|(simp only [← hji28] <;> (first|rfl|simp))|(simp [*]; done)), H', ⟨by have := HJ3.out; first|omega|exact Nat.le_refl _⟩, ⟨by repeat (first|(with_reducible first|exact HB.out|apply below_alloc|apply pw_below_drewN|apply below_drew1)|exact HB.out)⟩⟩
            ·rw [if_neg c29] at H
             exact absurd H (by simp)
           ·rw [if_neg c27] at H
            have c27b0 : decide ((wrap64 (a1 + 1)) < (a0.size : Int)) = false := decide_eq_false c27
            clear c27
            have H' := Aside0.mk H
            clear H
            have p25 : 0 ≤ (a1 : Int) := of_decide_eq_true (by first|(with_reducible assumption)|assumption)
            have q25 : a1 < (a0.size : Int) := of_decide_eq_true (by first|(with_reducible assumption)|assumption)
            have hx25 := bt_at a0 a1
            replace p25 := eq_true p25
            replace q25 := eq_true q25
            go_wp2
            go_meet
            case rel => exact ⟨_, (false), (by first|rfl|(simp; done)|(simp [*]; done)), H', ⟨by have := HJ3.out; first|omega|exact Nat.le_refl _⟩, ⟨by repeat (first|(with_reducible first|exact HB.out|apply below_alloc|apply pw_below_drewN|apply below_drew1)|exact HB.out)⟩⟩
          ·rw [if_neg c26] at H
           have c26b0 : ((bt a0 a1) == 47) = false := beq_eq_false_iff_ne.mpr c26
           have c26b1 : ((bt a0 a1) != 47) = true := bne_iff_ne.mpr c26
           (first|rw [c26b0]|(simp only [i64_w, i32_w]; rw [c26b0])|skip)
           have H' := Aside0.mk H
           clear H
           have p25 : 0 ≤ (a1 : Int) := of_decide_eq_true (by first|(with_reducible assumption)|assumption)
           have q25 : a1 < (a0.size : Int) := of_decide_eq_true (by first|(with_reducible assumption)|assumption)
           have hx25 := bt_at a0 a1
           replace p25 := eq_true p25
           replace q25 := eq_true q25
           go_wp2
           go_meet
           case rel => exact ⟨_, (false), (by first|rfl|(simp; done)|(simp [*]; done)), H', ⟨by have := HJ3.out; first|omega|exact Nat.le_refl _⟩, ⟨by repeat (first|(with_reducible first|exact HB.out|apply below_alloc|apply pw_below_drewN|apply below_drew1)|exact HB.out)⟩⟩
         case rest =>
          clear HC23
          try clear c1
          try clear p1
          try clear q1
          try clear hx1
          try clear c2
          try clear p2
          try clear q2
          try clear hx2
          try clear p3
          try clear q3
          try clear hx3
          try clear c4
          try clear c5
          try clear c6
          try clear p6
          try clear c9
          try clear c11
          try clear c11b0
          try clear c12
          try clear c12b0
          try clear p13
          try clear q13
          try clear hx13
          try clear c15
          try clear p17
          try clear q17
          try clear hx17
          try clear c18
          try clear c18b0
          try clear c18b1
          try clear p20
          try clear q20
          try clear hx20
          try clear c21
          try clear c21b0
          try clear c21b1
          try clear p25
          try clear q25
          try clear hx25
          try clear c26
          try clear c26b0
          try clear c26b1
          try clear c27
          try clear c27b0
          try clear c29
          try clear c29b0
          try clear p30
          try clear q30
          try clear hx30
          try clear p13
          try clear p17
          try clear p2
          try clear p20
          try clear p25
          try clear p30
          try clear q13
          try clear q17
          try clear q20
          try clear q25
          try clear q30
          obtain ⟨kq, x42_22, rfl, HA, HJ22, HB⟩ := hcut
          cases kq with
          | zero => exact absurd HA.out (by simp [colophonref10_begins.j1])
          | succ kj22 =>
           have H := HA.out
           clear HA
           simp only [colophonref10_begins.j1] at H
           by_cases c31 : x42_22 = true
           ·subst c31
            have H1 : (some 7) = some r := by rw [if_pos rfl] at H; exact H
            clear H
            have H := H1
            clear H1
            obtain rfl := Option.some.inj H
            go_wp2
            go_ret
            exact ⟨by first|rfl|(simp [errW_none, errW_some] <;> rfl)|(simp [*, errW_none, errW_some] <;> rfl), by repeat (first|(with_reducible first|exact HB.out|apply below_alloc|apply pw_below_drewN|apply below_drew1)|exact HB.out)⟩
           ·replace c31 := Bool.eq_false_iff.mpr c31
            subst c31
            have H1 : (if 0 ≤ a1 then (if a1 < (a0.size : Int) then (if (bt a0 a1) = 123 then (some 8) else (if t158.toList = ([] : List UInt8) then (some 0) else (some 6))) else (none)) else (none)) = some r := by rw [if_neg (show ¬ (false = true) by decide)] at H; exact H
            clear H
            have H := H1
            clear H1
            by_cases c32 : 0 ≤ a1
            ·rw [if_pos c32] at H
             have c32b0 : decide (0 ≤ a1) = true := decide_eq_true c32
             clear c32
             by_cases c33 : a1 < (a0.size : Int)
             ·rw [if_pos c33] at H
              have c33b0 : decide (a1 < (a0.size : Int)) = true := decide_eq_true c33
              clear c33
              by_cases c35 : (bt a0 a1) = 123
              ·rw [if_pos c35] at H
               have c35b0 : ((bt a0 a1) == 123) = true := beq_iff_eq.mpr c35
               have c35b1 : ((bt a0 a1) != 123) = false := bne_eq_false_iff_eq.mpr c35
               clear c35
               obtain rfl := Option.some.inj H
               have p34 : 0 ≤ (a1 : Int) := of_decide_eq_true (by first|(with_reducible assumption)|assumption)
               have q34 : a1 < (a0.size : Int) := of_decide_eq_true (by first|(with_reducible assumption)|assumption)
               have hx34 := bt_at a0 a1
               replace p34 := eq_true p34
               replace q34 := eq_true q34
               go_wp2
               go_ret
               exact ⟨by first|rfl|(simp [errW_none, errW_some] <;> rfl)|(simp [*, errW_none, errW_some] <;> rfl), by repeat (first|(with_reducible first|exact HB.out|apply below_alloc|apply pw_below_drewN|apply below_drew1)|exact HB.out)⟩
              ·rw [if_neg c35] at H
               have c35b0 : ((bt a0 a1) == 123) = false := beq_eq_false_iff_ne.mpr c35
               have c35b1 : ((bt a0 a1) != 123) = true := bne_iff_ne.mpr c35
               by_cases c36 : t158.toList = ([] : List UInt8)
               ·rw [if_pos c36] at H
                have c36b0 : (t158.toList == ([] : List UInt8)) = true := beq_iff_eq.mpr c36
                have c36b1 : (t158.toList != ([] : List UInt8)) = false := bne_eq_false_iff_eq.mpr c36
                clear c36
                obtain rfl := Option.some.inj H
                have p34 : 0 ≤ (a1 : Int) := of_decide_eq_true (by first|(with_reducible assumption)|assumption)
                have q34 : a1 < (a0.size : Int) := of_decide_eq_true (by first|(with_reducible assumption)|assumption)
                have hx34 := bt_at a0 a1
                replace p34 := eq_true p34
                replace q34 := eq_true q34
                go_wp2
                go_ret
                exact ⟨by first|rfl|(simp [errW_none, errW_some] <;> rfl)|(simp [*, errW_none, errW_some] <;> rfl), by repeat (first|(with_reducible first|exact HB.out|apply below_alloc|apply pw_below_drewN|apply below_drew1)|exact HB.out)⟩
               ·rw [if_neg c36] at H
                have c36b0 : (t158.toList == ([] : List UInt8)) = false := beq_eq_false_iff_ne.mpr c36
                have c36b1 : (t158.toList != ([] : List UInt8)) = true := bne_iff_ne.mpr c36
                obtain rfl := Option.some.inj H
                have p34 : 0 ≤ (a1 : Int) := of_decide_eq_true (by first|(with_reducible assumption)|assumption)
                have q34 : a1 < (a0.size : Int) := of_decide_eq_true (by first|(with_reducible assumption)|assumption)
                have hx34 := bt_at a0 a1
                replace p34 := eq_true p34
                replace q34 := eq_true q34
                go_wp2
                go_ret
                exact ⟨by first|rfl|(simp [errW_none, errW_some] <;> rfl)|(simp [*, errW_none, errW_some] <;> rfl), by repeat (first|(with_reducible first|exact HB.out|apply below_alloc|apply pw_below_drewN|apply below_drew1)|exact HB.out)⟩
             ·rw [if_neg c33] at H
              exact absurd H (by simp)
            ·rw [if_neg c32] at H
             exact absurd H (by simp)
     ·rw [if_neg c12] at H
      exact absurd H (by simp)
    ·rw [if_neg c11] at H
     exact absurd H (by simp)
/-! ### colophonref10_control: function 84 -/
def colophonref10_control.f (a0 : Int) (a1 : Bool) : Option (Bool) := if a1 = true then (if a0 < 32 then (some true) else (some (a0 == 127))) else (some false)
set_option maxHeartbeats 8000000 in
set_option maxRecDepth 100000 in
theorem colophonref10_control.calls (a0 : Int) (a1 : Bool) (r : Bool) (w : World) (h : colophonref10_control.f a0 a1 = some r) :
  Calls Tryd.prog 84 #[.int .i64 a0, .bool a1] w fun e w' => e = .returned (.bool r) ∧ Drawn0 w w' := by
 have H : (if a1 = true then (if a0 < 32 then (some true) else (some (a0 == 127))) else (some false)) = some r := h
 clear h
 by_cases c3 : a1 = true
 ·subst c3
  have H1 : (if a0 < 32 then (some true) else (some (a0 == 127))) = some r := by rw [if_pos rfl] at H; exact H
  clear H
  have H := H1
  clear H1
  by_cases c4 : a0 < 32
  ·rw [if_pos c4] at H
   have c4b0 : decide (a0 < 32) = true := decide_eq_true c4
   clear c4
   obtain rfl := Option.some.inj H
   go_enter Tryd.func84, Tryd.ntmps84
   go_wp2
   go_ret
   exact ⟨by first|rfl|(simp; done)|(simp [*]; done), by repeat (first|exact Drawn0.refl _|apply Drawn0.step)⟩
  ·rw [if_neg c4] at H
   have c4b0 : decide (a0 < 32) = false := decide_eq_false c4
   clear c4
   obtain rfl := Option.some.inj H
   go_enter Tryd.func84, Tryd.ntmps84
   go_wp2
   go_ret
   exact ⟨by first|rfl|(simp; done)|(simp [*]; done), by repeat (first|exact Drawn0.refl _|apply Drawn0.step)⟩
 ·replace c3 := Bool.eq_false_iff.mpr c3
  subst c3
  have H1 : (some false) = some r := by rw [if_neg (show ¬ (false = true) by decide)] at H; exact H
  clear H
  have H := H1
  clear H1
  obtain rfl := Option.some.inj H
  go_enter Tryd.func84, Tryd.ntmps84
  go_wp2
  go_ret
  exact ⟨by first|rfl|(simp; done)|(simp [*]; done), by repeat (first|exact Drawn0.refl _|apply Drawn0.step)⟩
/-! ### colophonref10_quoted: function 65 -/
mutual
def colophonref10_quoted.l0 : Nat → ByteArray → Int → Int → Bool → Int → Int → Option (Int × Int)
 | 0, _, _, _, _, _, _ => none
 | k + 1, x0, x1, x2, x3, x9, x10 => if x9 < (x0.size : Int) then (if 0 ≤ x9 then (colophonref10_quoted.j1 k x0 x1 x2 x3 x9 x10 ((bt x0 x9) != 10)) else (none)) else (colophonref10_quoted.j1 k x0 x1 x2 x3 x9 x10 false)
def colophonref10_quoted.j1 : Nat → ByteArray → Int → Int → Bool → Int → Int → Bool → Option (Int × Int)
 | 0, _, _, _, _, _, _, _ => none
 | k + 1, x0, x1, x2, x3, x9, x10, x27 => if x27 = true then ((colophonref01_Next.f k x0 x9).bind fun bt161 => (if 0 ≤ x9 then (if x9 < (x0.size : Int) then (if (bt x0 x9) = x2 then (if x3 = true then (colophonref10_quoted.j2 k x0 x1 x2 x3 x9 x10 bt161.1 bt161.2.1 bt161.2.2 (x10 == 1)) else (colophonref10_quoted.j2 k x0 x1 x2 x3 x9 x10 bt161.1 bt161.2.1 bt161.2.2 true)) else (colophonref10_quoted.j2 k x0 x1 x2 x3 x9 x10 bt161.1 bt161.2.1 bt161.2.2 false)) else (none)) else (none))) else (some (x1, 101))
def colophonref10_quoted.j2 : Nat → ByteArray → Int → Int → Bool → Int → Int → Int → Int → Bool → Bool → Option (Int × Int)
 | 0, _, _, _, _, _, _, _, _, _, _ => none
 | k + 1, x0, x1, x2, x3, x9, x10, x11, x12, x13, x14 => (colophonref10_control.f x11 x13).bind fun t164 => (if (wrap64 ((wrap64 (x9 + x12)) - x1)) > 65535 then (some (x1, 103)) else (if x14 = true then (some (wrap64 (x9 + 1), 0)) else (if t164 = true then (some (x9, 102)) else (if x3 = true then (if x10 = 1 then (some (x9, 102)) else (if 0 ≤ x9 then (if x9 < (x0.size : Int) then (if (bt x0 x9) = x2 then (some (x9, 102)) else (colophonref10_quoted.l0 k x0 x1 x2 x3 (wrap64 (x9 + x12)) (wrap64 (x10 + 1)))) else (none)) else (none))) else (colophonref10_quoted.l0 k x0 x1 x2 x3 (wrap64 (x9 + x12)) (wrap64 (x10 + 1)))))))
end
def colophonref10_quoted.f (k : Nat) (a0 : ByteArray) (a1 : Int) (a2 : Int) (a3 : Bool) : Option (Int × Int) := colophonref10_quoted.l0 k a0 a1 a2 a3 (wrap64 (a1 + 1)) 0
theorem colophonref10_quoted.mono_l : ∀ k, (∀ y0 y1 y2 y3 y4 y5, LeO (colophonref10_quoted.l0 k y0 y1 y2 y3 y4 y5) (colophonref10_quoted.l0 (k + 1) y0 y1 y2 y3 y4 y5)) ∧ (∀ y0 y1 y2 y3 y4 y5 y6, LeO (colophonref10_quoted.j1 k y0 y1 y2 y3 y4 y5 y6) (colophonref10_quoted.j1 (k + 1) y0 y1 y2 y3 y4 y5 y6)) ∧ (∀ y0 y1 y2 y3 y4 y5 y6 y7 y8 y9, LeO (colophonref10_quoted.j2 k y0 y1 y2 y3 y4 y5 y6 y7 y8 y9) (colophonref10_quoted.j2 (k + 1) y0 y1 y2 y3 y4 y5 y6 y7 y8 y9))
 | 0 => ⟨fun _ _ _ _ _ _ r h => by simp [colophonref10_quoted.l0] at h, fun _ _ _ _ _ _ _ r h => by simp [colophonref10_quoted.j1] at h, fun _ _ _ _ _ _ _ _ _ _ r h => by simp [colophonref10_quoted.j2] at h⟩
 | k + 1 => by
  obtain ⟨ih0, ih1, ih2⟩ := colophonref10_quoted.mono_l k
  refine ⟨?_, ?_, ?_⟩
  ·intro y0 y1 y2 y3 y4 y5
   unfold colophonref10_quoted.l0
   repeat' first
   | (with_reducible exact ih0 _ _ _ _ _ _)
   | (with_reducible exact ih1 _ _ _ _ _ _ _)
   | (with_reducible exact ih2 _ _ _ _ _ _ _ _ _ _)
   | (with_reducible exact colophonref01_Next.mono _ _ _)
   | (with_reducible exact LeO.refl _)
   | (with_reducible exact LeO.none _)
   | (with_reducible refine LeO.ite ?_ ?_)
   | (with_reducible refine LeO.bind ?_ (fun _ => ?_))
   | exact ih0 _ _ _ _ _ _
   | exact ih1 _ _ _ _ _ _ _
   | exact ih2 _ _ _ _ _ _ _ _ _ _
   | exact colophonref01_Next.mono _ _ _
   | exact LeO.none _
   | refine LeO.ite ?_ ?_
   | refine LeO.bind ?_ (fun _ => ?_)
  ·intro y0 y1 y2 y3 y4 y5 y6
   unfold colophonref10_quoted.j1
   repeat' first
   | (with_reducible exact ih0 _ _ _ _ _ _)
   | (with_reducible exact ih1 _ _ _ _ _ _ _)
   | (with_reducible exact ih2 _ _ _ _ _ _ _ _ _ _)
   | (with_reducible exact colophonref01_Next.mono _ _ _)
   | (with_reducible exact LeO.refl _)
   | (with_reducible exact LeO.none _)
   | (with_reducible refine LeO.ite ?_ ?_)
   | (with_reducible refine LeO.bind ?_ (fun _ => ?_))
   | exact ih0 _ _ _ _ _ _
   | exact ih1 _ _ _ _ _ _ _
   | exact ih2 _ _ _ _ _ _ _ _ _ _
   | exact colophonref01_Next.mono _ _ _
   | exact LeO.none _
   | refine LeO.ite ?_ ?_
   | refine LeO.bind ?_ (fun _ => ?_)
  ·intro y0 y1 y2 y3 y4 y5 y6 y7 y8 y9
   unfold colophonref10_quoted.j2
   repeat' first
   | (with_reducible exact ih0 _ _ _ _ _ _)
   | (with_reducible exact ih1 _ _ _ _ _ _ _)
   | (with_reducible exact ih2 _ _ _ _ _ _ _ _ _ _)
   | (with_reducible exact colophonref01_Next.mono _ _ _)
   | (with_reducible exact LeO.refl _)
   | (with_reducible exact LeO.none _)
   | (with_reducible refine LeO.ite ?_ ?_)
   | (with_reducible refine LeO.bind ?_ (fun _ => ?_))
   | exact ih0 _ _ _ _ _ _
   | exact ih1 _ _ _ _ _ _ _
   | exact ih2 _ _ _ _ _ _ _ _ _ _
   | exact colophonref01_Next.mono _ _ _
   | exact LeO.none _
   | refine LeO.ite ?_ ?_
   | refine LeO.bind ?_ (fun _ => ?_)
theorem colophonref10_quoted.mono : ∀ a0 a1 a2 a3 k, LeO (colophonref10_quoted.f k a0 a1 a2 a3) (colophonref10_quoted.f (k + 1) a0 a1 a2 a3) := by
 intro a0 a1 a2 a3 k
 obtain ⟨ih0, ih1, ih2⟩ := colophonref10_quoted.mono_l k
 unfold colophonref10_quoted.f
 repeat' first
   | (with_reducible exact ih0 _ _ _ _ _ _)
   | (with_reducible exact ih1 _ _ _ _ _ _ _)
   | (with_reducible exact ih2 _ _ _ _ _ _ _ _ _ _)
   | (with_reducible exact colophonref01_Next.mono _ _ _)
   | (with_reducible exact LeO.refl _)
   | (with_reducible exact LeO.none _)
   | (with_reducible refine LeO.ite ?_ ?_)
   | (with_reducible refine LeO.bind ?_ (fun _ => ?_))
   | exact ih0 _ _ _ _ _ _
   | exact ih1 _ _ _ _ _ _ _
   | exact ih2 _ _ _ _ _ _ _ _ _ _
   | exact colophonref01_Next.mono _ _ _
   | exact LeO.none _
   | refine LeO.ite ?_ ?_
   | refine LeO.bind ?_ (fun _ => ?_)
set_option maxHeartbeats 8000000 in
set_option maxRecDepth 100000 in
theorem colophonref10_quoted.calls (k : Nat) (a0 : ByteArray) (a1 : Int) (a2 : Int) (a3 : Bool) (r1 : Int) (r2 : Int) (w : World) (h : colophonref10_quoted.f k a0 a1 a2 a3 = some (r1, r2)) :
  Calls Tryd.prog 65 #[.string a0, .int .i64 a1, .int .u8 a2, .bool a3] w fun e w' => e = .returned (.agg #[.int .i64 r1, .int .i64 r2]) ∧ Below w.heap.size w w' := by
 have hu66 := Tryd.underlying66
 have HB := Aside0.mk (Below.refl w.heap.size w)
 have H : (colophonref10_quoted.l0 k a0 a1 a2 a3 (wrap64 (a1 + 1)) 0) = some (r1, r2) := h
 clear h
 have H' := Aside0.mk H
 clear H
 go_enter Tryd.func65, Tryd.ntmps65
 go_wp2_with (first|((with_reducible refine gate_dst (N := 8) rfl ?_); refine box_event ?hg (N := 8) ?hd (cs := #[.int .i64 0, .int .i64 0]) (t := 66) ?hr ?_; (case hd => rfl); (case hg => rfl); (case hr => first|(go_simp; done)|(go_simp; rfl)); intro gb160 hg w5 hbox hb; have n0_ := Aside0.mk (below_step (by repeat (first|(with_reducible first|exact HB.out|apply below_alloc|apply pw_below_drewN|apply below_drew1)|exact HB.out)) hb); have n1_ := Aside0.mk (hbox); have n2_ := Aside0.mk ((by rw [hg]; exact (below_size (by repeat (first|(with_reducible first|exact HB.out|apply below_alloc|apply pw_below_drewN|apply below_drew1)|exact HB.out))) : w.heap.size ≤ gb160)); have n3_ := Aside0.mk ((by rw [hg]; exact (below_size (by repeat (first|(with_reducible first|exact HB.out|apply below_alloc|apply pw_below_drewN|apply below_drew1)|exact HB.out))) : w.heap.size ≤ gb160)); clear HB; have HB := n0_; have BK160 := n1_; have GW160 := n2_; have GE160 := n3_; clear n0_ n1_ n2_ n3_; clear hb hbox hg))
 go_loopg [9, 10] k (fun kq v9 v10 w' => ∃ (x9_1 : Int) (x10_1 : Int) (x161000_1 : Int) (x161001_1 : Int), v9 = .int .i64 x9_1 ∧ v10 = .int .i64 x10_1 ∧ Aside0 (colophonref10_quoted.l0 kq a0 a1 a2 a3 x9_1 x10_1 = some (r1, r2)) ∧ Aside0 (kq ≤ k) ∧ Aside0 (w'.heap[gb160]? = some (.cells #[.int .i64 x161000_1, .int .i64 x161001_1] 66 (0, 0))) ∧ Aside0 (Below w.heap.size w w'))
 case atStart => exact ⟨(wrap64 (a1 + 1)), (0), (0), (0), (by first|rfl|(simp; done)|(simp [*]; done)), (by first|rfl|(simp; done)|(simp [*]; done)), H', ⟨Nat.le_refl _⟩, ⟨by (with_reducible repeat (first|refine blk_drewN ?_ _|refine blk_drew ?_|refine blk_alloc ?_ _)); exact BK160.out⟩, ⟨by repeat (first|(with_reducible first|exact HB.out|apply below_alloc|apply pw_below_drewN|apply below_drew1|refine below_set ?_ GE160.out)|exact HB.out)⟩⟩
 case round =>
  clear H'
  try clear p2
  obtain ⟨x9_1, x10_1, x161000_1, x161001_1, rfl, rfl, HA, HK1, BK160, HB⟩ := hrel
  cases gk with
  | zero => exact absurd HA.out (by simp [colophonref10_quoted.l0])
  | succ k1 =>
   have H := HA.out
   clear HA
   simp only [colophonref10_quoted.l0] at H
   have HC6 := Aside0.mk H
   clear H
   go_upto_region 3 with (fail)
   go_cut [27] (fun v27 wc => ∃ (kq : Nat) (x27_5 : Bool), v27 = .bool x27_5 ∧ Aside0 (colophonref10_quoted.j1 kq a0 a1 a2 a3 x9_1 x10_1 x27_5 = some (r1, r2)) ∧ Aside0 (kq ≤ k1) ∧ Aside0 (wc.heap[gb160]? = some (.cells #[.int .i64 x161000_1, .int .i64 x161001_1] 66 (0, 0))) ∧ Aside0 (Below w.heap.size w wc))
   case first =>
    have H := HC6.out
    clear HC6
    by_cases c7 : x9_1 < (a0.size : Int)
    ·rw [if_pos c7] at H
     have c7b0 : decide (x9_1 < (a0.size : Int)) = true := decide_eq_true c7
     clear c7
     (first|rw [c7b0]|(simp only [i64_w, i32_w]; rw [c7b0])|skip)
     by_cases c8 : 0 ≤ x9_1
     ·rw [if_pos c8] at H
      have c8b0 : decide (0 ≤ x9_1) = true := decide_eq_true c8
      clear c8
      have H' := Aside0.mk H
      clear H
      have p9 : 0 ≤ (x9_1 : Int) := of_decide_eq_true (by first|(with_reducible assumption)|assumption)
      have q9 : x9_1 < (a0.size : Int) := of_decide_eq_true (by first|(with_reducible assumption)|assumption)
      have hx9 := bt_at a0 x9_1
      replace p9 := eq_true p9
      replace q9 := eq_true q9
      go_wp2
      go_meet
      case rel => exact ⟨_, (((bt a0 x9_1) != 10)), (by first|rfl|(simp; done)|(simp [*]; done)), H', ⟨by have := HK1.out; first|omega|exact Nat.le_refl _⟩, ⟨by (with_reducible repeat (first|refine blk_drewN ?_ _|refine blk_drew ?_|refine blk_alloc ?_ _)); exact BK160.out⟩, ⟨by repeat (first|(with_reducible first|exact HB.out|apply below_alloc|apply pw_below_drewN|apply below_drew1|refine below_set ?_ GE160.out)|exact HB.out)⟩⟩
     ·rw [if_neg c8] at H
      exact absurd H (by simp)
    ·rw [if_neg c7] at H
     have c7b0 : decide (x9_1 < (a0.size : Int)) = false := decide_eq_false c7
     clear c7
     (first|rw [c7b0]|(simp only [i64_w, i32_w]; rw [c7b0])|skip)
     have H' := Aside0.mk H
     clear H
     go_wp2
     go_meet
     case rel => exact ⟨_, (false), (by first|rfl|(simp; done)|(simp [*]; done)), H', ⟨by have := HK1.out; first|omega|exact Nat.le_refl _⟩, ⟨by (with_reducible repeat (first|refine blk_drewN ?_ _|refine blk_drew ?_|refine blk_alloc ?_ _)); exact BK160.out⟩, ⟨by repeat (first|(with_reducible first|exact HB.out|apply below_alloc|apply pw_below_drewN|apply below_drew1|refine below_set ?_ GE160.out)|exact HB.out)⟩⟩
   case rest =>
    clear HC6
    try clear p2
    try clear c6
    try clear p6
    try clear c7
    try clear c7b0
    try clear c8
    try clear c8b0
    try clear p9
    try clear q9
    try clear hx9
    try clear p2
    try clear p9
    try clear q9
    obtain ⟨kq, x27_5, rfl, HA, HJ5, BK160, HB⟩ := hcut
    cases kq with
    | zero => exact absurd HA.out (by simp [colophonref10_quoted.j1])
    | succ kj5 =>
     have H := HA.out
     clear HA
     simp only [colophonref10_quoted.j1] at H
     by_cases c10 : x27_5 = true
     ·subst c10
      have H1 : ((colophonref01_Next.f kj5 a0 x9_1).bind fun bt161 => (if 0 ≤ x9_1 then (if x9_1 < (a0.size : Int) then (if (bt a0 x9_1) = a2 then (if a3 = true then (colophonref10_quoted.j2 kj5 a0 a1 a2 a3 x9_1 x10_1 bt161.1 bt161.2.1 bt161.2.2 (x10_1 == 1)) else (colophonref10_quoted.j2 kj5 a0 a1 a2 a3 x9_1 x10_1 bt161.1 bt161.2.1 bt161.2.2 true)) else (colophonref10_quoted.j2 kj5 a0 a1 a2 a3 x9_1 x10_1 bt161.1 bt161.2.1 bt161.2.2 false)) else (none)) else (none))) = some (r1, r2) := by rw [if_pos rfl] at H; exact H
      clear H
      have H := H1
      clear H1
      replace H := Option.bind_eq_some_iff.mp H
      obtain ⟨⟨t161, t162, t163⟩, A110, H⟩ := H
      replace H : (if 0 ≤ x9_1 then (if x9_1 < (a0.size : Int) then (if (bt a0 x9_1) = a2 then (if a3 = true then (colophonref10_quoted.j2 kj5 a0 a1 a2 a3 x9_1 x10_1 t161 t162 t163 (x10_1 == 1)) else (colophonref10_quoted.j2 kj5 a0 a1 a2 a3 x9_1 x10_1 t161 t162 t163 true)) else (colophonref10_quoted.j2 kj5 a0 a1 a2 a3 x9_1 x10_1 t161 t162 t163 false)) else (none)) else (none)) = some (r1, r2) := H
      have A11 := Aside0.mk A110
      clear A110
      have HC12 := Aside0.mk H
      clear H
      go_upto_region 6 with (first|((with_reducible refine gate_callee (f := 61) rfl ?_); refine goesL_ (some 33) rfl rfl Tryd.func61 (by kernel_rfl) rfl #[.string a0, .int .i64 x9_1] rfl (by (try simp only [List.map_toArray, List.map_cons, List.map_nil]); first|done|rfl|(simp only [List.length_drop, List.length_take]; rfl)) ?_; (with_reducible refine (colophonref01_Next.calls kj5 a0 x9_1 t161 t162 t163 _ A11.out).mono ?_); rintro e w' ⟨rfl, ⟨nd, rfl⟩⟩; refine ⟨_, rfl, ?_⟩))
      (try simp only [Act.put, List.setIfInBounds_toArray, List.set_cons_zero, List.set_cons_succ])
      go_cut [14] (fun v14 wc => ∃ (kq : Nat) (x14_11 : Bool), v14 = .bool x14_11 ∧ Aside0 (colophonref10_quoted.j2 kq a0 a1 a2 a3 x9_1 x10_1 t161 t162 t163 x14_11 = some (r1, r2)) ∧ Aside0 (kq ≤ kj5) ∧ Aside0 (wc.heap[gb160]? = some (.cells #[.int .i64 x161000_1, .int .i64 x161001_1] 66 (0, 0))) ∧ Aside0 (Below w.heap.size w wc))
      case first =>
       have H := HC12.out
       clear HC12
       by_cases c13 : 0 ≤ x9_1
       ·rw [if_pos c13] at H
        have c13b0 : decide (0 ≤ x9_1) = true := decide_eq_true c13
        clear c13
        (first|rw [c13b0]|(simp only [i64_w, i32_w]; rw [c13b0])|skip)
        by_cases c14 : x9_1 < (a0.size : Int)
        ·rw [if_pos c14] at H
         have c14b0 : decide (x9_1 < (a0.size : Int)) = true := decide_eq_true c14
         clear c14
         by_cases c16 : (bt a0 x9_1) = a2
         ·rw [if_pos c16] at H
          have c16b0 : ((bt a0 x9_1) == a2) = true := beq_iff_eq.mpr c16
          have c16b1 : ((bt a0 x9_1) != a2) = false := bne_eq_false_iff_eq.mpr c16
          clear c16
          by_cases c17 : a3 = true
          ·subst c17
           have H1 : (colophonref10_quoted.j2 kj5 a0 a1 a2 true x9_1 x10_1 t161 t162 t163 (x10_1 == 1)) = some (r1, r2) := by rw [if_pos rfl] at H; exact H
           clear H
           have H := H1
           clear H1
           have H' := Aside0.mk H
           clear H
           have p15 : 0 ≤ (x9_1 : Int) := of_decide_eq_true (by first|(with_reducible assumption)|assumption)
           have q15 : x9_1 < (a0.size : Int) := of_decide_eq_true (by first|(with_reducible assumption)|assumption)
           have hx15 := bt_at a0 x9_1
           replace p15 := eq_true p15
           replace q15 := eq_true q15
           go_wp2
           go_meet
           case rel => exact ⟨_, ((x10_1 == 1)), (by first|rfl|(simp; done)|(simp [*]; done)), H', ⟨by have := HK1.out; have := HJ5.out; first|omega|exact Nat.le_refl _⟩, ⟨by (with_reducible repeat (first|refine blk_drewN ?_ _|refine blk_drew ?_|refine blk_alloc ?_ _)); exact BK160.out⟩, ⟨by repeat (first|(with_reducible first|exact HB.out|apply below_alloc|apply pw_below_drewN|apply below_drew1|refine below_set ?_ GE160.out)|exact HB.out)⟩⟩
          ·replace c17 := Bool.eq_false_iff.mpr c17
           subst c17
           have H1 : (colophonref10_quoted.j2 kj5 a0 a1 a2 false x9_1 x10_1 t161 t162 t163 true) = some (r1, r2) := by rw [if_neg (show ¬ (false = true) by decide)] at H; exact H
           clear H
           have H := H1
           clear H1
           have H' := Aside0.mk H
           clear H
           have p15 : 0 ≤ (x9_1 : Int) := of_decide_eq_true (by first|(with_reducible assumption)|assumption)
           have q15 : x9_1 < (a0.size : Int) := of_decide_eq_true (by first|(with_reducible assumption)|assumption)
           have hx15 := bt_at a0 x9_1
           replace p15 := eq_true p15
           replace q15 := eq_true q15
           go_wp2
           go_meet
           case rel => exact ⟨_, (true), (by first|rfl|(simp; done)|(simp [*]; done)), H', ⟨by have := HK1.out; have := HJ5.out; first|omega|exact Nat.le_refl _⟩, ⟨by (with_reducible repeat (first|refine blk_drewN ?_ _|refine blk_drew ?_|refine blk_alloc ?_ _)); exact BK160.out⟩, ⟨by repeat (first|(with_reducible first|exact HB.out|apply below_alloc|apply pw_below_drewN|apply below_drew1|refine below_set ?_ GE160.out)|exact HB.out)⟩⟩
         ·rw [if_neg c16] at H
          have c16b0 : ((bt a0 x9_1) == a2) = false := beq_eq_false_iff_ne.mpr c16
          have c16b1 : ((bt a0 x9_1) != a2) = true := bne_iff_ne.mpr c16
          have H' := Aside0.mk H
          clear H
          have p15 : 0 ≤ (x9_1 : Int) := of_decide_eq_true (by first|(with_reducible assumption)|assumption)
          have q15 : x9_1 < (a0.size : Int) := of_decide_eq_true (by first|(with_reducible assumption)|assumption)
          have hx15 := bt_at a0 x9_1
          replace p15 := eq_true p15
          replace q15 := eq_true q15
          go_wp2
          go_meet
          case rel => exact ⟨_, (false), (by first|rfl|(simp; done)|(simp [*]; done)), H', ⟨by have := HK1.out; have := HJ5.out; first|omega|exact Nat.le_refl _⟩, ⟨by (with_reducible repeat (first|refine blk_drewN ?_ _|refine blk_drew ?_|refine blk_alloc ?_ _)); exact BK160.out⟩, ⟨by repeat (first|(with_reducible first|exact HB.out|apply below_alloc|apply pw_below_drewN|apply below_drew1|refine below_set ?_ GE160.out)|exact HB.out)⟩⟩
        ·rw [if_neg c14] at H
         exact absurd H (by simp)
       ·rw [if_neg c13] at H
        exact absurd H (by simp)
      case rest =>
       clear HC12
       try clear c1
       try clear p1
       try clear q1
       try clear hx1
       try clear p2
       try clear c6
       try clear p6
       try clear c7
       try clear c7b0
       try clear c8
       try clear c8b0
       try clear p9
       try clear q9
       try clear hx9
       try clear c10
       try clear c13
       try clear c13b0
       try clear c14
       try clear c14b0
       try clear p15
       try clear q15
       try clear hx15
       try clear c16
       try clear c16b0
       try clear c16b1
       try clear c17
       try clear p15
       try clear p2
       try clear p6
       try clear p9
       try clear q15
       try clear q9
       obtain ⟨kq, x14_11, rfl, HA, HJ11, BK160, HB⟩ := hcut
       cases kq with
       | zero => exact absurd HA.out (by simp [colophonref10_quoted.j2])
       | succ kj11 =>
        have H := HA.out
        clear HA
        simp only [colophonref10_quoted.j2] at H
        replace H := Option.bind_eq_some_iff.mp H
        obtain ⟨t164, A180, H⟩ := H
        replace H : (if (wrap64 ((wrap64 (x9_1 + t162)) - a1)) > 65535 then (some (a1, 103)) else (if x14_11 = true then (some (wrap64 (x9_1 + 1), 0)) else (if t164 = true then (some (x9_1, 102)) else (if a3 = true then (if x10_1 = 1 then (some (x9_1, 102)) else (if 0 ≤ x9_1 then (if x9_1 < (a0.size : Int) then (if (bt a0 x9_1) = a2 then (some (x9_1, 102)) else (colophonref10_quoted.l0 kj11 a0 a1 a2 a3 (wrap64 (x9_1 + t162)) (wrap64 (x10_1 + 1)))) else (none)) else (none))) else (colophonref10_quoted.l0 kj11 a0 a1 a2 a3 (wrap64 (x9_1 + t162)) (wrap64 (x10_1 + 1))))))) = some (r1, r2) := H
        have A18 := Aside0.mk A180
        clear A180
        by_cases c19 : (wrap64 ((wrap64 (x9_1 + t162)) - a1)) > 65535
        ·rw [if_pos c19] at H
         have c19b0 : decide (65535 < (wrap64 ((wrap64 (x9_1 + t162)) - a1))) = true := decide_eq_true c19
         clear c19
         simp only [Option.some.injEq, Prod.mk.injEq] at H
         obtain ⟨rfl, rfl⟩ := H
         go_wp2_with (first|((with_reducible refine gate_callee (f := 84) rfl ?_); refine goesL_ (some 52) rfl rfl Tryd.func84 (by kernel_rfl) rfl #[.int .i64 t161, .bool t163] rfl (by (try simp only [List.map_toArray, List.map_cons, List.map_nil]); first|done|rfl|(simp only [List.length_drop, List.length_take]; rfl)) ?_; (with_reducible refine (colophonref10_control.calls t161 t163 t164 _ A18.out).mono ?_); rintro e w' ⟨rfl, ⟨nd, rfl⟩⟩; refine ⟨_, rfl, ?_⟩; (try (rw [drewN_self wc]; generalize hq_ : World.drewN wc _ = wc; have n0_ : Aside0 (wc.heap[gb160]? = some (.cells #[.int .i64 x161000_1, .int .i64 x161001_1] 66 (0, 0))) := ⟨by rw [← hq_]; exact (by (with_reducible repeat (first|refine blk_drewN ?_ _|refine blk_drew ?_|refine blk_alloc ?_ _)); exact BK160.out)⟩; have n1_ : Aside0 (Below w.heap.size w wc) := ⟨by rw [← hq_]; exact (by repeat (first|(with_reducible first|exact HB.out|apply below_alloc|apply pw_below_drewN|apply below_drew1|refine below_set ?_ GE160.out)|exact HB.out))⟩; clear BK160 HB hq_; have BK160 := n0_; have HB := n1_; clear n0_ n1_)); have hcz20_0 : wc.cell? ⟨gb160, 0, none⟩ = some (.int .i64 x161000_1) := (blk_cell BK160.out 0).trans rfl; have hcz20_1 : wc.cell? ⟨gb160, 1, none⟩ = some (.int .i64 x161001_1) := (blk_cell BK160.out 1).trans rfl; have hfz20_0 := blk_frozen BK160.out 0; have hfz20_1 := blk_frozen BK160.out 1))
         refine bodyPost_ret (results_cell_row rfl _ _ gb160 66 #[.int .i64 a1, .int .i64 103] (0, 0) _ rfl (by (with_reducible repeat (first|refine blk_drewN ?_ _|refine blk_drew ?_|refine blk_alloc ?_ _)); refine blk_put (cs := #[.int .i64 a1, .int .i64 x161001_1]) ?_ 1 _ rfl; (with_reducible repeat (first|refine blk_drewN ?_ _|refine blk_drew ?_|refine blk_alloc ?_ _)); refine blk_put (cs := #[.int .i64 x161000_1, .int .i64 x161001_1]) ?_ 0 _ rfl; (with_reducible repeat (first|refine blk_drewN ?_ _|refine blk_drew ?_|refine blk_alloc ?_ _)); exact BK160.out) Tryd.underlying66 rfl (by kernel_rfl)) rfl ?_
         exact ⟨by first|rfl|(simp [errW_none, errW_some] <;> rfl)|(simp [*, errW_none, errW_some] <;> rfl), by repeat (first|(with_reducible first|exact HB.out|apply below_alloc|apply pw_below_drewN|apply below_drew1|refine below_set ?_ GE160.out)|exact HB.out)⟩
        ·rw [if_neg c19] at H
         have c19b0 : decide (65535 < (wrap64 ((wrap64 (x9_1 + t162)) - a1))) = false := decide_eq_false c19
         clear c19
         by_cases c21 : x14_11 = true
         ·subst c21
          have H1 : (some (wrap64 (x9_1 + 1), 0)) = some (r1, r2) := by rw [if_pos rfl] at H; exact H
          clear H
          have H := H1
          clear H1
          simp only [Option.some.injEq, Prod.mk.injEq] at H
          obtain ⟨rfl, rfl⟩ := H
          go_wp2_with (first|((with_reducible refine gate_callee (f := 84) rfl ?_); refine goesL_ (some 52) rfl rfl Tryd.func84 (by kernel_rfl) rfl #[.int .i64 t161, .bool t163] rfl (by (try simp only [List.map_toArray, List.map_cons, List.map_nil]); first|done|rfl|(simp only [List.length_drop, List.length_take]; rfl)) ?_; (with_reducible refine (colophonref10_control.calls t161 t163 t164 _ A18.out).mono ?_); rintro e w' ⟨rfl, ⟨nd, rfl⟩⟩; refine ⟨_, rfl, ?_⟩; (try (rw [drewN_self wc]; generalize hq_ : World.drewN wc _ = wc; have n0_ : Aside0 (wc.heap[gb160]? = some (.cells #[.int .i64 x161000_1, .int .i64 x161001_1] 66 (0, 0))) := ⟨by rw [← hq_]; exact (by (with_reducible repeat (first|refine blk_drewN ?_ _|refine blk_drew ?_|refine blk_alloc ?_ _)); exact BK160.out)⟩; have n1_ : Aside0 (Below w.heap.size w wc) := ⟨by rw [← hq_]; exact (by repeat (first|(with_reducible first|exact HB.out|apply below_alloc|apply pw_below_drewN|apply below_drew1|refine below_set ?_ GE160.out)|exact HB.out))⟩; clear BK160 HB hq_; have BK160 := n0_; have HB := n1_; clear n0_ n1_)); have hcz22_0 : wc.cell? ⟨gb160, 0, none⟩ = some (.int .i64 x161000_1) := (blk_cell BK160.out 0).trans rfl; have hcz22_1 : wc.cell? ⟨gb160, 1, none⟩ = some (.int .i64 x161001_1) := (blk_cell BK160.out 1).trans rfl; have hfz22_0 := blk_frozen BK160.out 0; have hfz22_1 := blk_frozen BK160.out 1))
          refine bodyPost_ret (results_cell_row rfl _ _ gb160 66 #[.int .i64 (wrap64 (x9_1 + 1)), .int .i64 0] (0, 0) _ rfl (by (with_reducible repeat (first|refine blk_drewN ?_ _|refine blk_drew ?_|refine blk_alloc ?_ _)); refine blk_put (cs := #[.int .i64 (wrap64 (x9_1 + 1)), .int .i64 x161001_1]) ?_ 1 _ rfl; (with_reducible repeat (first|refine blk_drewN ?_ _|refine blk_drew ?_|refine blk_alloc ?_ _)); refine blk_put (cs := #[.int .i64 x161000_1, .int .i64 x161001_1]) ?_ 0 _ rfl; (with_reducible repeat (first|refine blk_drewN ?_ _|refine blk_drew ?_|refine blk_alloc ?_ _)); exact BK160.out) Tryd.underlying66 rfl (by kernel_rfl)) rfl ?_
          exact ⟨by first|rfl|(simp [errW_none, errW_some] <;> rfl)|(simp [*, errW_none, errW_some] <;> rfl), by repeat (first|(with_reducible first|exact HB.out|apply below_alloc|apply pw_below_drewN|apply below_drew1|refine below_set ?_ GE160.out)|exact HB.out)⟩
         ·replace c21 := Bool.eq_false_iff.mpr c21
          subst c21
          have H1 : (if t164 = true then (some (x9_1, 102)) else (if a3 = true then (if x10_1 = 1 then (some (x9_1, 102)) else (if 0 ≤ x9_1 then (if x9_1 < (a0.size : Int) then (if (bt a0 x9_1) = a2 then (some (x9_1, 102)) else (colophonref10_quoted.l0 kj11 a0 a1 a2 a3 (wrap64 (x9_1 + t162)) (wrap64 (x10_1 + 1)))) else (none)) else (none))) else (colophonref10_quoted.l0 kj11 a0 a1 a2 a3 (wrap64 (x9_1 + t162)) (wrap64 (x10_1 + 1))))) = some (r1, r2) := by rw [if_neg (show ¬ (false = true) by decide)] at H; exact H
          clear H
          have H := H1
          clear H1
          by_cases c23 : t164 = true
          ·subst c23
           have H1 : (some (x9_1, 102)) = some (r1, r2) := by rw [if_pos rfl] at H; exact H
           clear H
           have H := H1
           clear H1
           simp only [Option.some.injEq, Prod.mk.injEq] at H
           obtain ⟨rfl, rfl⟩ := H
           go_wp2_with (first|((with_reducible refine gate_callee (f := 84) rfl ?_); refine goesL_ (some 52) rfl rfl Tryd.func84 (by kernel_rfl) rfl #[.int .i64 t161, .bool t163] rfl (by (try simp only [List.map_toArray, List.map_cons, List.map_nil]); first|done|rfl|(simp only [List.length_drop, List.length_take]; rfl)) ?_; (with_reducible refine (colophonref10_control.calls t161 t163 true _ A18.out).mono ?_); rintro e w' ⟨rfl, ⟨nd, rfl⟩⟩; refine ⟨_, rfl, ?_⟩; (try (rw [drewN_self wc]; generalize hq_ : World.drewN wc _ = wc; have n0_ : Aside0 (wc.heap[gb160]? = some (.cells #[.int .i64 x161000_1, .int .i64 x161001_1] 66 (0, 0))) := ⟨by rw [← hq_]; exact (by (with_reducible repeat (first|refine blk_drewN ?_ _|refine blk_drew ?_|refine blk_alloc ?_ _)); exact BK160.out)⟩; have n1_ : Aside0 (Below w.heap.size w wc) := ⟨by rw [← hq_]; exact (by repeat (first|(with_reducible first|exact HB.out|apply below_alloc|apply pw_below_drewN|apply below_drew1|refine below_set ?_ GE160.out)|exact HB.out))⟩; clear BK160 HB hq_; have BK160 := n0_; have HB := n1_; clear n0_ n1_)); have hcz24_0 : wc.cell? ⟨gb160, 0, none⟩ = some (.int .i64 x161000_1) := (blk_cell BK160.out 0).trans rfl; have hcz24_1 : wc.cell? ⟨gb160, 1, none⟩ = some (.int .i64 x161001_1) := (blk_cell BK160.out 1).trans rfl; have hfz24_0 := blk_frozen BK160.out 0; have hfz24_1 := blk_frozen BK160.out 1))
           refine bodyPost_ret (results_cell_row rfl _ _ gb160 66 #[.int .i64 x9_1, .int .i64 102] (0, 0) _ rfl (by (with_reducible repeat (first|refine blk_drewN ?_ _|refine blk_drew ?_|refine blk_alloc ?_ _)); refine blk_put (cs := #[.int .i64 x9_1, .int .i64 x161001_1]) ?_ 1 _ rfl; (with_reducible repeat (first|refine blk_drewN ?_ _|refine blk_drew ?_|refine blk_alloc ?_ _)); refine blk_put (cs := #[.int .i64 x161000_1, .int .i64 x161001_1]) ?_ 0 _ rfl; (with_reducible repeat (first|refine blk_drewN ?_ _|refine blk_drew ?_|refine blk_alloc ?_ _)); exact BK160.out) Tryd.underlying66 rfl (by kernel_rfl)) rfl ?_
           exact ⟨by first|rfl|(simp [errW_none, errW_some] <;> rfl)|(simp [*, errW_none, errW_some] <;> rfl), by repeat (first|(with_reducible first|exact HB.out|apply below_alloc|apply pw_below_drewN|apply below_drew1|refine below_set ?_ GE160.out)|exact HB.out)⟩
          ·replace c23 := Bool.eq_false_iff.mpr c23
           subst c23
           have H1 : (if a3 = true then (if x10_1 = 1 then (some (x9_1, 102)) else (if 0 ≤ x9_1 then (if x9_1 < (a0.size : Int) then (if (bt a0 x9_1) = a2 then (some (x9_1, 102)) else (colophonref10_quoted.l0 kj11 a0 a1 a2 a3 (wrap64 (x9_1 + t162)) (wrap64 (x10_1 + 1)))) else (none)) else (none))) else (colophonref10_quoted.l0 kj11 a0 a1 a2 a3 (wrap64 (x9_1 + t162)) (wrap64 (x10_1 + 1)))) = some (r1, r2) := by rw [if_neg (show ¬ (false = true) by decide)] at H; exact H
           clear H
           have H := H1
           clear H1
           by_cases c25 : a3 = true
           ·subst c25
            have H1 : (if x10_1 = 1 then (some (x9_1, 102)) else (if 0 ≤ x9_1 then (if x9_1 < (a0.size : Int) then (if (bt a0 x9_1) = a2 then (some (x9_1, 102)) else (colophonref10_quoted.l0 kj11 a0 a1 a2 true (wrap64 (x9_1 + t162)) (wrap64 (x10_1 + 1)))) else (none)) else (none))) = some (r1, r2) := by rw [if_pos rfl] at H; exact H
            clear H
            have H := H1
            clear H1
            by_cases c26 : x10_1 = 1
            ·rw [if_pos c26] at H
             have c26b0 : (x10_1 == 1) = true := beq_iff_eq.mpr c26
             have c26b1 : (x10_1 != 1) = false := bne_eq_false_iff_eq.mpr c26
             clear c26
             simp only [Option.some.injEq, Prod.mk.injEq] at H
             obtain ⟨rfl, rfl⟩ := H
             go_wp2_with (first|((with_reducible refine gate_callee (f := 84) rfl ?_); refine goesL_ (some 52) rfl rfl Tryd.func84 (by kernel_rfl) rfl #[.int .i64 t161, .bool t163] rfl (by (try simp only [List.map_toArray, List.map_cons, List.map_nil]); first|done|rfl|(simp only [List.length_drop, List.length_take]; rfl)) ?_; (with_reducible refine (colophonref10_control.calls t161 t163 false _ A18.out).mono ?_); rintro e w' ⟨rfl, ⟨nd, rfl⟩⟩; refine ⟨_, rfl, ?_⟩; (try (rw [drewN_self wc]; generalize hq_ : World.drewN wc _ = wc; have n0_ : Aside0 (wc.heap[gb160]? = some (.cells #[.int .i64 x161000_1, .int .i64 x161001_1] 66 (0, 0))) := ⟨by rw [← hq_]; exact (by (with_reducible repeat (first|refine blk_drewN ?_ _|refine blk_drew ?_|refine blk_alloc ?_ _)); exact BK160.out)⟩; have n1_ : Aside0 (Below w.heap.size w wc) := ⟨by rw [← hq_]; exact (by repeat (first|(with_reducible first|exact HB.out|apply below_alloc|apply pw_below_drewN|apply below_drew1|refine below_set ?_ GE160.out)|exact HB.out))⟩; clear BK160 HB hq_; have BK160 := n0_; have HB := n1_; clear n0_ n1_)); have hcz27_0 : wc.cell? ⟨gb160, 0, none⟩ = some (.int .i64 x161000_1) := (blk_cell BK160.out 0).trans rfl; have hcz27_1 : wc.cell? ⟨gb160, 1, none⟩ = some (.int .i64 x161001_1) := (blk_cell BK160.out 1).trans rfl; have hfz27_0 := blk_frozen BK160.out 0; have hfz27_1 := blk_frozen BK160.out 1))
             refine bodyPost_ret (results_cell_row rfl _ _ gb160 66 #[.int .i64 x9_1, .int .i64 102] (0, 0) _ rfl (by (with_reducible repeat (first|refine blk_drewN ?_ _|refine blk_drew ?_|refine blk_alloc ?_ _)); refine blk_put (cs := #[.int .i64 x9_1, .int .i64 x161001_1]) ?_ 1 _ rfl; (with_reducible repeat (first|refine blk_drewN ?_ _|refine blk_drew ?_|refine blk_alloc ?_ _)); refine blk_put (cs := #[.int .i64 x161000_1, .int .i64 x161001_1]) ?_ 0 _ rfl; (with_reducible repeat (first|refine blk_drewN ?_ _|refine blk_drew ?_|refine blk_alloc ?_ _)); exact BK160.out) Tryd.underlying66 rfl (by kernel_rfl)) rfl ?_
             exact ⟨by first|rfl|(simp [errW_none, errW_some] <;> rfl)|(simp [*, errW_none, errW_some] <;> rfl), by repeat (first|(with_reducible first|exact HB.out|apply below_alloc|apply pw_below_drewN|apply below_drew1|refine below_set ?_ GE160.out)|exact HB.out)⟩
            ·rw [if_neg c26] at H
             have c26b0 : (x10_1 == 1) = false := beq_eq_false_iff_ne.mpr c26
             have c26b1 : (x10_1 != 1) = true := bne_iff_ne.mpr c26
             by_cases c28 : 0 ≤ x9_1
             ·rw [if_pos c28] at H
              have c28b0 : decide (0 ≤ x9_1) = true := decide_eq_true c28
              clear c28
              by_cases c29 : x9_1 < (a0.size : Int)
              ·rw [if_pos c29] at H
               have c29b0 : decide (x9_1 < (a0.size : Int)) = true := decide_eq_true c29
               clear c29
               by_cases c31 : (bt a0 x9_1) = a2
               ·rw [if_pos c31] at H
                have c31b0 : ((bt a0 x9_1) == a2) = true := beq_iff_eq.mpr c31
                have c31b1 : ((bt a0 x9_1) != a2) = false := bne_eq_false_iff_eq.mpr c31
                clear c31
                simp only [Option.some.injEq, Prod.mk.injEq] at H
                obtain ⟨rfl, rfl⟩ := H
                go_wp2_with (first|((with_reducible refine gate_callee (f:=84) rfl ?_);refine goesL_ (some 52) rfl rfl Tryd.func84 (by kernel_rfl) rfl #[.int .i64 t161,.bool t163] rfl (by (try simp only [List.map_toArray,List.map_cons,List.map_nil]);first|done|rfl|(simp only [List.length_drop,List.length_take];rfl)) ?_;(with_reducible refine (colophonref10_control.calls t161 t163 false _ A18.out).mono ?_);rintro e w' ⟨rfl,⟨nd,rfl⟩⟩;refine ⟨_,rfl,?_⟩;(try (rw [drewN_self wc];generalize hq_ : World.drewN wc _ = wc;have n0_ : Aside0 (wc.heap[gb160]? = some (.cells #[.int .i64 x161000_1,.int .i64 x161001_1] 66 (0,0))):=⟨by rw [← hq_];exact (by (with_reducible repeat (first|refine blk_drewN ?_ _|refine blk_drew ?_|refine blk_alloc ?_ _));exact BK160.out)⟩;have n1_ : Aside0 (Below w.heap.size w wc):=⟨by rw [← hq_];exact (by repeat (first|(with_reducible first|exact HB.out|apply below_alloc|apply pw_below_drewN|apply below_drew1|refine below_set ?_ GE160.out)|exact HB.out))⟩;clear BK160 HB hq_;have BK160:=n0_;have HB:=n1_;clear n0_ n1_));have p30 : 0 ≤ (x9_1 : Int):=of_decide_eq_true (by first|(with_reducible assumption)|assumption);have q30 : x9_1 < (a0.size : Int):=of_decide_eq_true (by first|(with_reducible assumption)|assumption);have hx30:=bt_at a0 x9_1;replace p30:=eq_true p30;replace q30:=eq_true q30;have hcz32_0 : wc.cell? ⟨gb160,0,none⟩ = some (.int .i64 x161000_1):=(blk_cell BK160.out 0).trans rfl;have hcz32_1 : wc.cell? ⟨gb160,1,none⟩ = some (.int .i64 x161001_1):=(blk_cell BK160.out 1).trans rfl;have hfz32_0:=blk_frozen BK160.out 0;have hfz32_1:=blk_frozen BK160.out 1))
                refine bodyPost_ret (results_cell_row rfl _ _ gb160 66 #[.int .i64 x9_1, .int .i64 102] (0, 0) _ rfl (by (with_reducible repeat (first|refine blk_drewN ?_ _|refine blk_drew ?_|refine blk_alloc ?_ _)); refine blk_put (cs := #[.int .i64 x9_1, .int .i64 x161001_1]) ?_ 1 _ rfl; (with_reducible repeat (first|refine blk_drewN ?_ _|refine blk_drew ?_|refine blk_alloc ?_ _)); refine blk_put (cs := #[.int .i64 x161000_1, .int .i64 x161001_1]) ?_ 0 _ rfl; (with_reducible repeat (first|refine blk_drewN ?_ _|refine blk_drew ?_|refine blk_alloc ?_ _)); exact BK160.out) Tryd.underlying66 rfl (by kernel_rfl)) rfl ?_
                exact ⟨by first|rfl|(simp [errW_none, errW_some] <;> rfl)|(simp [*, errW_none, errW_some] <;> rfl), by repeat (first|(with_reducible first|exact HB.out|apply below_alloc|apply pw_below_drewN|apply below_drew1|refine below_set ?_ GE160.out)|exact HB.out)⟩
               ·rw [if_neg c31] at H
                have c31b0 : ((bt a0 x9_1) == a2) = false := beq_eq_false_iff_ne.mpr c31
                have c31b1 : ((bt a0 x9_1) != a2) = true := bne_iff_ne.mpr c31
                have H' := Aside0.mk H
                clear H
                go_wp2_with (first|((with_reducible refine gate_callee (f := 84) rfl ?_); refine goesL_ (some 52) rfl rfl Tryd.func84 (by kernel_rfl) rfl #[.int .i64 t161, .bool t163] rfl (by (try simp only [List.map_toArray, List.map_cons, List.map_nil]); first|done|rfl|(simp only [List.length_drop, List.length_take]; rfl)) ?_; (with_reducible refine (colophonref10_control.calls t161 t163 false _ A18.out).mono ?_); rintro e w' ⟨rfl, ⟨nd, rfl⟩⟩; refine ⟨_, rfl, ?_⟩; have p30 : 0 ≤ (x9_1 : Int) := of_decide_eq_true (by first|(with_reducible assumption)|assumption); have q30 : x9_1 < (a0.size : Int) := of_decide_eq_true (by first|(with_reducible assumption)|assumption); have hx30 := bt_at a0 x9_1; replace p30 := eq_true p30; replace q30 := eq_true q30))
                go_roundg kj11
                case measure => have := HK1.out; have := HJ5.out; have := HJ11.out; omega
                case rel => exact ⟨(wrap64 (x9_1 + t162)), (wrap64 (x10_1 + 1)), (x161000_1), (x161001_1), (by first|rfl|(simp; done)|(simp [*]; done)), (by first|rfl|(simp; done)|(simp [*]; done)), H', ⟨by have := HK1.out; have := HJ5.out; have := HJ11.out; omega⟩, ⟨by (with_reducible repeat (first|refine blk_drewN ?_ _|refine blk_drew ?_|refine blk_alloc ?_ _)); exact BK160.out⟩, ⟨by repeat (first|(with_reducible first|exact HB.out|apply below_alloc|apply pw_below_drewN|apply below_drew1|refine below_set ?_ GE160.out)|exact HB.out)⟩⟩
              ·rw [if_neg c29] at H
               exact absurd H (by simp)
             ·rw [if_neg c28] at H
              exact absurd H (by simp)
           ·replace c25 := Bool.eq_false_iff.mpr c25
            subst c25
            have H1 : (colophonref10_quoted.l0 kj11 a0 a1 a2 false (wrap64 (x9_1 + t162)) (wrap64 (x10_1 + 1))) = some (r1, r2) := by rw [if_neg (show ¬ (false = true) by decide)] at H; exact H
            clear H
            have H := H1
            clear H1
            have H' := Aside0.mk H
            clear H
            go_wp2_with (first|((with_reducible refine gate_callee (f := 84) rfl ?_); refine goesL_ (some 52) rfl rfl Tryd.func84 (by kernel_rfl) rfl #[.int .i64 t161, .bool t163] rfl (by (try simp only [List.map_toArray, List.map_cons, List.map_nil]); first|done|rfl|(simp only [List.length_drop, List.length_take]; rfl)) ?_; (with_reducible refine (colophonref10_control.calls t161 t163 false _ A18.out).mono ?_); rintro e w' ⟨rfl, ⟨nd, rfl⟩⟩; refine ⟨_, rfl, ?_⟩))
            go_roundg kj11
            case measure => have := HK1.out; have := HJ5.out; have := HJ11.out; omega
            case rel => exact ⟨(wrap64 (x9_1 + t162)), (wrap64 (x10_1 + 1)), (x161000_1), (x161001_1), (by first|rfl|(simp; done)|(simp [*]; done)), (by first|rfl|(simp; done)|(simp [*]; done)), H', ⟨by have := HK1.out; have := HJ5.out; have := HJ11.out; omega⟩, ⟨by (with_reducible repeat (first|refine blk_drewN ?_ _|refine blk_drew ?_|refine blk_alloc ?_ _)); exact BK160.out⟩, ⟨by repeat (first|(with_reducible first|exact HB.out|apply below_alloc|apply pw_below_drewN|apply below_drew1|refine below_set ?_ GE160.out)|exact HB.out)⟩⟩
     ·replace c10 := Bool.eq_false_iff.mpr c10
      subst c10
      have H1 : (some (a1, 101)) = some (r1, r2) := by rw [if_neg (show ¬ (false = true) by decide)] at H; exact H
      clear H
      have H := H1
      clear H1
      simp only [Option.some.injEq, Prod.mk.injEq] at H
      obtain ⟨rfl, rfl⟩ := H
      have hcz33_0 : wc.cell? ⟨gb160, 0, none⟩ = some (.int .i64 x161000_1) := (blk_cell BK160.out 0).trans rfl
      have hcz33_1 : wc.cell? ⟨gb160, 1, none⟩ = some (.int .i64 x161001_1) := (blk_cell BK160.out 1).trans rfl
      have hfz33_0 := blk_frozen BK160.out 0
      have hfz33_1 := blk_frozen BK160.out 1
      go_wp2
      refine bodyPost_ret (results_cell_row rfl _ _ gb160 66 #[.int .i64 a1, .int .i64 101] (0, 0) _ rfl (by (with_reducible repeat (first|refine blk_drewN ?_ _|refine blk_drew ?_|refine blk_alloc ?_ _)); refine blk_put (cs := #[.int .i64 a1, .int .i64 x161001_1]) ?_ 1 _ rfl; (with_reducible repeat (first|refine blk_drewN ?_ _|refine blk_drew ?_|refine blk_alloc ?_ _)); refine blk_put (cs := #[.int .i64 x161000_1, .int .i64 x161001_1]) ?_ 0 _ rfl; (with_reducible repeat (first|refine blk_drewN ?_ _|refine blk_drew ?_|refine blk_alloc ?_ _)); exact BK160.out) Tryd.underlying66 rfl (by kernel_rfl)) rfl ?_
      exact ⟨by first|rfl|(simp [errW_none, errW_some] <;> rfl)|(simp [*, errW_none, errW_some] <;> rfl), by repeat (first|(with_reducible first|exact HB.out|apply below_alloc|apply pw_below_drewN|apply below_drew1|refine below_set ?_ GE160.out)|exact HB.out)⟩
end Go.Proofs.YtgfloplakjmncaaDoor.PScan
