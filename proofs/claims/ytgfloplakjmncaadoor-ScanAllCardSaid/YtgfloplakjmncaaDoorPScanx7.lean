-- Printed by the prover's own program (wip/xprint.py) over the kit's print. Not trusted: Lean checks it.
import Derived.Test.YtgfloplakjmncaaDoorPScanx0
import Derived.Test.YtgfloplakjmncaaDoorPScanx4
import Derived.Test.YtgfloplakjmncaaDoorPScanx5
import Derived.Test.YtgfloplakjmncaaDoorPScanx6
namespace Go.Proofs.YtgfloplakjmncaaDoor.PScan
open Go.RowKit Go.Proofs.YtgfloplakjmncaaDoorW.PrintWords Go.Proofs.YtgfloplakjmncaaDoorW.PrintLast Go.Proofs.YtgfloplakjmncaaDoorW.PrintMore
attribute [local go_sem] max2_int min2_int max_two min_two max_three min_three max_four min_four   -- for this text's walks alone
set_option linter.unusedVariables false
set_option linter.unusedSimpArgs false
/-! ### colophonref10_comment: function 66 -/
mutual
def colophonref10_comment.l0 : Nat → ByteArray → Int → Bool → Int → Option (Int × Int)
 | 0, _, _, _, _ => none
 | k + 1, x0, x1, x2, x7 => if x7 < (x0.size : Int) then (if x2 = true then (colophonref10_comment.j1 k x0 x1 x2 x7 false) else (if 0 ≤ x7 then (colophonref10_comment.j1 k x0 x1 x2 x7 ((bt x0 x7) == 10)) else (none))) else (if x2 = true then (some (x1, 101)) else (some (x7, 0)))
def colophonref10_comment.j1 : Nat → ByteArray → Int → Bool → Int → Bool → Option (Int × Int)
 | 0, _, _, _, _, _ => none
 | k + 1, x0, x1, x2, x7, x20 => if x20 = true then (some (x7, 0)) else (if (wrap64 ((wrap64 (x7 + 1)) - x1)) > 65535 then (some (x1, 103)) else (if x2 = true then (if 0 ≤ x7 then (if x7 < (x0.size : Int) then (if (bt x0 x7) = 125 then (some (wrap64 (x7 + 1), 0)) else (colophonref10_comment.l0 k x0 x1 x2 (wrap64 (x7 + 1)))) else (none)) else (none)) else (colophonref10_comment.l0 k x0 x1 x2 (wrap64 (x7 + 1)))))
end
def colophonref10_comment.f (k : Nat) (a0 : ByteArray) (a1 : Int) (a2 : Bool) : Option (Int × Int) := colophonref10_comment.l0 k a0 a1 a2 a1
theorem colophonref10_comment.mono_l : ∀ k, (∀ y0 y1 y2 y3, LeO (colophonref10_comment.l0 k y0 y1 y2 y3) (colophonref10_comment.l0 (k + 1) y0 y1 y2 y3)) ∧ (∀ y0 y1 y2 y3 y4, LeO (colophonref10_comment.j1 k y0 y1 y2 y3 y4) (colophonref10_comment.j1 (k + 1) y0 y1 y2 y3 y4))
 | 0 => ⟨fun _ _ _ _ r h => by simp [colophonref10_comment.l0] at h, fun _ _ _ _ _ r h => by simp [colophonref10_comment.j1] at h⟩
 | k + 1 => by
  obtain ⟨ih0, ih1⟩ := colophonref10_comment.mono_l k
  refine ⟨?_, ?_⟩
  ·intro y0 y1 y2 y3
   unfold colophonref10_comment.l0
   repeat' first
   | (with_reducible exact ih0 _ _ _ _)
   | (with_reducible exact ih1 _ _ _ _ _)
   | (with_reducible exact LeO.refl _)
   | (with_reducible exact LeO.none _)
   | (with_reducible refine LeO.ite ?_ ?_)
   | (with_reducible refine LeO.bind ?_ (fun _ => ?_))
   | exact ih0 _ _ _ _
   | exact ih1 _ _ _ _ _
   | exact LeO.none _
   | refine LeO.ite ?_ ?_
   | refine LeO.bind ?_ (fun _ => ?_)
  ·intro y0 y1 y2 y3 y4
   unfold colophonref10_comment.j1
   repeat' first
   | (with_reducible exact ih0 _ _ _ _)
   | (with_reducible exact ih1 _ _ _ _ _)
   | (with_reducible exact LeO.refl _)
   | (with_reducible exact LeO.none _)
   | (with_reducible refine LeO.ite ?_ ?_)
   | (with_reducible refine LeO.bind ?_ (fun _ => ?_))
   | exact ih0 _ _ _ _
   | exact ih1 _ _ _ _ _
   | exact LeO.none _
   | refine LeO.ite ?_ ?_
   | refine LeO.bind ?_ (fun _ => ?_)
theorem colophonref10_comment.mono : ∀ a0 a1 a2 k, LeO (colophonref10_comment.f k a0 a1 a2) (colophonref10_comment.f (k + 1) a0 a1 a2) := by
 intro a0 a1 a2 k
 obtain ⟨ih0, ih1⟩ := colophonref10_comment.mono_l k
 unfold colophonref10_comment.f
 repeat' first
   | (with_reducible exact ih0 _ _ _ _)
   | (with_reducible exact ih1 _ _ _ _ _)
   | (with_reducible exact LeO.refl _)
   | (with_reducible exact LeO.none _)
   | (with_reducible refine LeO.ite ?_ ?_)
   | (with_reducible refine LeO.bind ?_ (fun _ => ?_))
   | exact ih0 _ _ _ _
   | exact ih1 _ _ _ _ _
   | exact LeO.none _
   | refine LeO.ite ?_ ?_
   | refine LeO.bind ?_ (fun _ => ?_)
set_option maxHeartbeats 8000000 in
set_option maxRecDepth 100000 in
theorem colophonref10_comment.calls (k : Nat) (a0 : ByteArray) (a1 : Int) (a2 : Bool) (r1 : Int) (r2 : Int) (w : World) (h : colophonref10_comment.f k a0 a1 a2 = some (r1, r2)) :
  Calls Tryd.prog 66 #[.string a0, .int .i64 a1, .bool a2] w fun e w' => e = .returned (.agg #[.int .i64 r1, .int .i64 r2]) ∧ Below w.heap.size w w' := by
 have hu66 := Tryd.underlying66
 have HB := Aside0.mk (Below.refl w.heap.size w)
 have H : (colophonref10_comment.l0 k a0 a1 a2 a1) = some (r1, r2) := h
 clear h
 have H' := Aside0.mk H
 clear H
 go_enter Tryd.func66, Tryd.ntmps66
 go_wp2_with (first|((with_reducible refine gate_dst (N := 6) rfl ?_); refine box_event ?hg (N := 6) ?hd (cs := #[.int .i64 0, .int .i64 0]) (t := 66) ?hr ?_; (case hd => rfl); (case hg => rfl); (case hr => first|(go_simp; done)|(go_simp; rfl)); intro gb165 hg w4 hbox hb; have n0_ := Aside0.mk (below_step (by repeat (first|(with_reducible first|exact HB.out|apply below_alloc|apply pw_below_drewN|apply below_drew1)|exact HB.out)) hb); have n1_ := Aside0.mk (hbox); have n2_ := Aside0.mk ((by rw [hg]; exact (below_size (by repeat (first|(with_reducible first|exact HB.out|apply below_alloc|apply pw_below_drewN|apply below_drew1)|exact HB.out))) : w.heap.size ≤ gb165)); have n3_ := Aside0.mk ((by rw [hg]; exact (below_size (by repeat (first|(with_reducible first|exact HB.out|apply below_alloc|apply pw_below_drewN|apply below_drew1)|exact HB.out))) : w.heap.size ≤ gb165)); clear HB; have HB := n0_; have BK165 := n1_; have GW165 := n2_; have GE165 := n3_; clear n0_ n1_ n2_ n3_; clear hb hbox hg))
 go_loopg [7] k (fun kq v7 w' => ∃ (x7_1 : Int) (x166000_1 : Int) (x166001_1 : Int), v7 = .int .i64 x7_1 ∧ Aside0 (colophonref10_comment.l0 kq a0 a1 a2 x7_1 = some (r1, r2)) ∧ Aside0 (kq ≤ k) ∧ Aside0 (w'.heap[gb165]? = some (.cells #[.int .i64 x166000_1, .int .i64 x166001_1] 66 (0, 0))) ∧ Aside0 (Below w.heap.size w w'))
 case atStart => exact ⟨(a1), (0), (0), (by first|rfl|(simp; done)|(simp [*]; done)), H', ⟨Nat.le_refl _⟩, ⟨by (with_reducible repeat (first|refine blk_drewN ?_ _|refine blk_drew ?_|refine blk_alloc ?_ _)); exact BK165.out⟩, ⟨by repeat (first|(with_reducible first|exact HB.out|apply below_alloc|apply pw_below_drewN|apply below_drew1|refine below_set ?_ GE165.out)|exact HB.out)⟩⟩
 case round =>
  clear H'
  try clear p2
  obtain ⟨x7_1, x166000_1, x166001_1, rfl, HA, HK1, BK165, HB⟩ := hrel
  cases gk with
  | zero => exact absurd HA.out (by simp [colophonref10_comment.l0])
  | succ k1 =>
   have H := HA.out
   clear HA
   simp only [colophonref10_comment.l0] at H
   by_cases c5 : x7_1 < (a0.size : Int)
   ·rw [if_pos c5] at H
    have c5b0 : decide (x7_1 < (a0.size : Int)) = true := decide_eq_true c5
    clear c5
    have HC6 := Aside0.mk H
    clear H
    go_upto_region 3 with (fail)
    go_cut [20] (fun v20 wc => ∃ (kq : Nat) (x20_5 : Bool), v20 = .bool x20_5 ∧ Aside0 (colophonref10_comment.j1 kq a0 a1 a2 x7_1 x20_5 = some (r1, r2)) ∧ Aside0 (kq ≤ k1) ∧ Aside0 (wc.heap[gb165]? = some (.cells #[.int .i64 x166000_1, .int .i64 x166001_1] 66 (0, 0))) ∧ Aside0 (Below w.heap.size w wc))
    case first =>
     have H := HC6.out
     clear HC6
     by_cases c7 : a2 = true
     ·subst c7
      have H1 : (colophonref10_comment.j1 k1 a0 a1 true x7_1 false) = some (r1, r2) := by rw [if_pos rfl] at H; exact H
      clear H
      have H := H1
      clear H1
      have H' := Aside0.mk H
      clear H
      go_wp2
      go_meet
      case rel => exact ⟨_, (false), (by first|rfl|(simp; done)|(simp [*]; done)), H', ⟨by have := HK1.out; first|omega|exact Nat.le_refl _⟩, ⟨by (with_reducible repeat (first|refine blk_drewN ?_ _|refine blk_drew ?_|refine blk_alloc ?_ _)); exact BK165.out⟩, ⟨by repeat (first|(with_reducible first|exact HB.out|apply below_alloc|apply pw_below_drewN|apply below_drew1|refine below_set ?_ GE165.out)|exact HB.out)⟩⟩
     ·replace c7 := Bool.eq_false_iff.mpr c7
      subst c7
      have H1 : (if 0 ≤ x7_1 then (colophonref10_comment.j1 k1 a0 a1 false x7_1 ((bt a0 x7_1) == 10)) else (none)) = some (r1, r2) := by rw [if_neg (show ¬ (false = true) by decide)] at H; exact H
      clear H
      have H := H1
      clear H1
      by_cases c8 : 0 ≤ x7_1
      ·rw [if_pos c8] at H
       have c8b0 : decide (0 ≤ x7_1) = true := decide_eq_true c8
       clear c8
       (first|rw [c8b0]|(simp only [i64_w, i32_w]; rw [c8b0])|skip)
       have H' := Aside0.mk H
       clear H
       have p9 : 0 ≤ (x7_1 : Int) := of_decide_eq_true (by first|(with_reducible assumption)|assumption)
       have q9 : x7_1 < (a0.size : Int) := of_decide_eq_true (by first|(with_reducible assumption)|assumption)
       have hx9 := bt_at a0 x7_1
       replace p9 := eq_true p9
       replace q9 := eq_true q9
       go_wp2
       go_meet
       case rel => exact ⟨_, (((bt a0 x7_1) == 10)), (by first|rfl|(simp; done)|(simp [*]; done)), H', ⟨by have := HK1.out; first|omega|exact Nat.le_refl _⟩, ⟨by (with_reducible repeat (first|refine blk_drewN ?_ _|refine blk_drew ?_|refine blk_alloc ?_ _)); exact BK165.out⟩, ⟨by repeat (first|(with_reducible first|exact HB.out|apply below_alloc|apply pw_below_drewN|apply below_drew1|refine below_set ?_ GE165.out)|exact HB.out)⟩⟩
      ·rw [if_neg c8] at H
       exact absurd H (by simp)
    case rest =>
     clear HC6
     try clear p2
     try clear c5
     try clear c5b0
     try clear c6
     try clear c7
     try clear c8
     try clear c8b0
     try clear p9
     try clear q9
     try clear hx9
     try clear p2
     try clear p9
     try clear q9
     obtain ⟨kq, x20_5, rfl, HA, HJ5, BK165, HB⟩ := hcut
     cases kq with
     | zero => exact absurd HA.out (by simp [colophonref10_comment.j1])
     | succ kj5 =>
      have H := HA.out
      clear HA
      simp only [colophonref10_comment.j1] at H
      by_cases c10 : x20_5 = true
      ·subst c10
       have H1 : (some (x7_1, 0)) = some (r1, r2) := by rw [if_pos rfl] at H; exact H
       clear H
       have H := H1
       clear H1
       simp only [Option.some.injEq, Prod.mk.injEq] at H
       obtain ⟨rfl, rfl⟩ := H
       have hcz11_0 : wc.cell? ⟨gb165, 0, none⟩ = some (.int .i64 x166000_1) := (blk_cell BK165.out 0).trans rfl
       have hcz11_1 : wc.cell? ⟨gb165, 1, none⟩ = some (.int .i64 x166001_1) := (blk_cell BK165.out 1).trans rfl
       have hfz11_0 := blk_frozen BK165.out 0
       have hfz11_1 := blk_frozen BK165.out 1
       go_wp2
       refine bodyPost_ret (results_cell_row rfl _ _ gb165 66 #[.int .i64 x7_1, .int .i64 0] (0, 0) _ rfl (by (with_reducible repeat (first|refine blk_drewN ?_ _|refine blk_drew ?_|refine blk_alloc ?_ _)); refine blk_put (cs := #[.int .i64 x7_1, .int .i64 x166001_1]) ?_ 1 _ rfl; (with_reducible repeat (first|refine blk_drewN ?_ _|refine blk_drew ?_|refine blk_alloc ?_ _)); refine blk_put (cs := #[.int .i64 x166000_1, .int .i64 x166001_1]) ?_ 0 _ rfl; (with_reducible repeat (first|refine blk_drewN ?_ _|refine blk_drew ?_|refine blk_alloc ?_ _)); exact BK165.out) Tryd.underlying66 rfl (by kernel_rfl)) rfl ?_
       exact ⟨by first|rfl|(simp [errW_none, errW_some] <;> rfl)|(simp [*, errW_none, errW_some] <;> rfl), by repeat (first|(with_reducible first|exact HB.out|apply below_alloc|apply pw_below_drewN|apply below_drew1|refine below_set ?_ GE165.out)|exact HB.out)⟩
      ·replace c10 := Bool.eq_false_iff.mpr c10
       subst c10
       have H1 : (if (wrap64 ((wrap64 (x7_1 + 1)) - a1)) > 65535 then (some (a1, 103)) else (if a2 = true then (if 0 ≤ x7_1 then (if x7_1 < (a0.size : Int) then (if (bt a0 x7_1) = 125 then (some (wrap64 (x7_1 + 1), 0)) else (colophonref10_comment.l0 kj5 a0 a1 a2 (wrap64 (x7_1 + 1)))) else (none)) else (none)) else (colophonref10_comment.l0 kj5 a0 a1 a2 (wrap64 (x7_1 + 1))))) = some (r1, r2) := by rw [if_neg (show ¬ (false = true) by decide)] at H; exact H
       clear H
       have H := H1
       clear H1
       by_cases c12 : (wrap64 ((wrap64 (x7_1 + 1)) - a1)) > 65535
       ·rw [if_pos c12] at H
        have c12b0 : decide (65535 < (wrap64 ((wrap64 (x7_1 + 1)) - a1))) = true := decide_eq_true c12
        clear c12
        simp only [Option.some.injEq, Prod.mk.injEq] at H
        obtain ⟨rfl, rfl⟩ := H
        have hcz13_0 : wc.cell? ⟨gb165, 0, none⟩ = some (.int .i64 x166000_1) := (blk_cell BK165.out 0).trans rfl
        have hcz13_1 : wc.cell? ⟨gb165, 1, none⟩ = some (.int .i64 x166001_1) := (blk_cell BK165.out 1).trans rfl
        have hfz13_0 := blk_frozen BK165.out 0
        have hfz13_1 := blk_frozen BK165.out 1
        go_wp2
        refine bodyPost_ret (results_cell_row rfl _ _ gb165 66 #[.int .i64 a1, .int .i64 103] (0, 0) _ rfl (by (with_reducible repeat (first|refine blk_drewN ?_ _|refine blk_drew ?_|refine blk_alloc ?_ _)); refine blk_put (cs := #[.int .i64 a1, .int .i64 x166001_1]) ?_ 1 _ rfl; (with_reducible repeat (first|refine blk_drewN ?_ _|refine blk_drew ?_|refine blk_alloc ?_ _)); refine blk_put (cs := #[.int .i64 x166000_1, .int .i64 x166001_1]) ?_ 0 _ rfl; (with_reducible repeat (first|refine blk_drewN ?_ _|refine blk_drew ?_|refine blk_alloc ?_ _)); exact BK165.out) Tryd.underlying66 rfl (by kernel_rfl)) rfl ?_
        exact ⟨by first|rfl|(simp [errW_none, errW_some] <;> rfl)|(simp [*, errW_none, errW_some] <;> rfl), by repeat (first|(with_reducible first|exact HB.out|apply below_alloc|apply pw_below_drewN|apply below_drew1|refine below_set ?_ GE165.out)|exact HB.out)⟩
       ·rw [if_neg c12] at H
        have c12b0 : decide (65535 < (wrap64 ((wrap64 (x7_1 + 1)) - a1))) = false := decide_eq_false c12
        clear c12
        by_cases c14 : a2 = true
        ·subst c14
         have H1 : (if 0 ≤ x7_1 then (if x7_1 < (a0.size : Int) then (if (bt a0 x7_1) = 125 then (some (wrap64 (x7_1 + 1), 0)) else (colophonref10_comment.l0 kj5 a0 a1 true (wrap64 (x7_1 + 1)))) else (none)) else (none)) = some (r1, r2) := by rw [if_pos rfl] at H; exact H
         clear H
         have H := H1
         clear H1
         by_cases c15 : 0 ≤ x7_1
         ·rw [if_pos c15] at H
          have c15b0 : decide (0 ≤ x7_1) = true := decide_eq_true c15
          clear c15
          by_cases c16 : x7_1 < (a0.size : Int)
          ·rw [if_pos c16] at H
           have c16b0 : decide (x7_1 < (a0.size : Int)) = true := decide_eq_true c16
           clear c16
           by_cases c18 : (bt a0 x7_1) = 125
           ·rw [if_pos c18] at H
            have c18b0 : ((bt a0 x7_1) == 125) = true := beq_iff_eq.mpr c18
            have c18b1 : ((bt a0 x7_1) != 125) = false := bne_eq_false_iff_eq.mpr c18
            clear c18
            simp only [Option.some.injEq, Prod.mk.injEq] at H
            obtain ⟨rfl, rfl⟩ := H
            have p17 : 0 ≤ (x7_1 : Int) := of_decide_eq_true (by first|(with_reducible assumption)|assumption)
            have q17 : x7_1 < (a0.size : Int) := of_decide_eq_true (by first|(with_reducible assumption)|assumption)
            have hx17 := bt_at a0 x7_1
            replace p17 := eq_true p17
            replace q17 := eq_true q17
            have hcz19_0 : wc.cell? ⟨gb165, 0, none⟩ = some (.int .i64 x166000_1) := (blk_cell BK165.out 0).trans rfl
            have hcz19_1 : wc.cell? ⟨gb165, 1, none⟩ = some (.int .i64 x166001_1) := (blk_cell BK165.out 1).trans rfl
            have hfz19_0 := blk_frozen BK165.out 0
            have hfz19_1 := blk_frozen BK165.out 1
            go_wp2
            refine bodyPost_ret (results_cell_row rfl _ _ gb165 66 #[.int .i64 (wrap64 (x7_1 + 1)), .int .i64 0] (0, 0) _ rfl (by (with_reducible repeat (first|refine blk_drewN ?_ _|refine blk_drew ?_|refine blk_alloc ?_ _)); refine blk_put (cs := #[.int .i64 (wrap64 (x7_1 + 1)), .int .i64 x166001_1]) ?_ 1 _ rfl; (with_reducible repeat (first|refine blk_drewN ?_ _|refine blk_drew ?_|refine blk_alloc ?_ _)); refine blk_put (cs := #[.int .i64 x166000_1, .int .i64 x166001_1]) ?_ 0 _ rfl; (with_reducible repeat (first|refine blk_drewN ?_ _|refine blk_drew ?_|refine blk_alloc ?_ _)); exact BK165.out) Tryd.underlying66 rfl (by kernel_rfl)) rfl ?_
            exact ⟨by first|rfl|(simp [errW_none, errW_some] <;> rfl)|(simp [*, errW_none, errW_some] <;> rfl), by repeat (first|(with_reducible first|exact HB.out|apply below_alloc|apply pw_below_drewN|apply below_drew1|refine below_set ?_ GE165.out)|exact HB.out)⟩
           ·rw [if_neg c18] at H
            have c18b0 : ((bt a0 x7_1) == 125) = false := beq_eq_false_iff_ne.mpr c18
            have c18b1 : ((bt a0 x7_1) != 125) = true := bne_iff_ne.mpr c18
            have H' := Aside0.mk H
            clear H
            have p17 : 0 ≤ (x7_1 : Int) := of_decide_eq_true (by first|(with_reducible assumption)|assumption)
            have q17 : x7_1 < (a0.size : Int) := of_decide_eq_true (by first|(with_reducible assumption)|assumption)
            have hx17 := bt_at a0 x7_1
            replace p17 := eq_true p17
            replace q17 := eq_true q17
            go_wp2
            go_roundg kj5
            case measure => have := HK1.out; have := HJ5.out; omega
            case rel => exact ⟨(wrap64 (x7_1 + 1)), (x166000_1), (x166001_1), (by first|rfl|(simp; done)|(simp [*]; done)), H', ⟨by have := HK1.out; have := HJ5.out; omega⟩, ⟨by (with_reducible repeat (first|refine blk_drewN ?_ _|refine blk_drew ?_|refine blk_alloc ?_ _)); exact BK165.out⟩, ⟨by repeat (first|(with_reducible first|exact HB.out|apply below_alloc|apply pw_below_drewN|apply below_drew1|refine below_set ?_ GE165.out)|exact HB.out)⟩⟩
          ·rw [if_neg c16] at H
           exact absurd H (by simp)
         ·rw [if_neg c15] at H
          exact absurd H (by simp)
        ·replace c14 := Bool.eq_false_iff.mpr c14
         subst c14
         have H1 : (colophonref10_comment.l0 kj5 a0 a1 false (wrap64 (x7_1 + 1))) = some (r1, r2) := by rw [if_neg (show ¬ (false = true) by decide)] at H; exact H
         clear H
         have H := H1
         clear H1
         have H' := Aside0.mk H
         clear H
         go_wp2
         go_roundg kj5
         case measure => have := HK1.out; have := HJ5.out; omega
         case rel => exact ⟨(wrap64 (x7_1 + 1)), (x166000_1), (x166001_1), (by first|rfl|(simp; done)|(simp [*]; done)), H', ⟨by have := HK1.out; have := HJ5.out; omega⟩, ⟨by (with_reducible repeat (first|refine blk_drewN ?_ _|refine blk_drew ?_|refine blk_alloc ?_ _)); exact BK165.out⟩, ⟨by repeat (first|(with_reducible first|exact HB.out|apply below_alloc|apply pw_below_drewN|apply below_drew1|refine below_set ?_ GE165.out)|exact HB.out)⟩⟩
   ·rw [if_neg c5] at H
    have c5b0 : decide (x7_1 < (a0.size : Int)) = false := decide_eq_false c5
    clear c5
    by_cases c20 : a2 = true
    ·subst c20
     have H1 : (some (a1, 101)) = some (r1, r2) := by rw [if_pos rfl] at H; exact H
     clear H
     have H := H1
     clear H1
     simp only [Option.some.injEq, Prod.mk.injEq] at H
     obtain ⟨rfl, rfl⟩ := H
     have hcz21_0 : wr.cell? ⟨gb165, 0, none⟩ = some (.int .i64 x166000_1) := (blk_cell BK165.out 0).trans rfl
     have hcz21_1 : wr.cell? ⟨gb165, 1, none⟩ = some (.int .i64 x166001_1) := (blk_cell BK165.out 1).trans rfl
     have hfz21_0 := blk_frozen BK165.out 0
     have hfz21_1 := blk_frozen BK165.out 1
     go_wp2
     refine bodyPost_ret (results_cell_row rfl _ _ gb165 66 #[.int .i64 a1, .int .i64 101] (0, 0) _ rfl (by (with_reducible repeat (first|refine blk_drewN ?_ _|refine blk_drew ?_|refine blk_alloc ?_ _)); refine blk_put (cs := #[.int .i64 a1, .int .i64 x166001_1]) ?_ 1 _ rfl; (with_reducible repeat (first|refine blk_drewN ?_ _|refine blk_drew ?_|refine blk_alloc ?_ _)); refine blk_put (cs := #[.int .i64 x166000_1, .int .i64 x166001_1]) ?_ 0 _ rfl; (with_reducible repeat (first|refine blk_drewN ?_ _|refine blk_drew ?_|refine blk_alloc ?_ _)); exact BK165.out) Tryd.underlying66 rfl (by kernel_rfl)) rfl ?_
     exact ⟨by first|rfl|(simp [errW_none, errW_some] <;> rfl)|(simp [*, errW_none, errW_some] <;> rfl), by repeat (first|(with_reducible first|exact HB.out|apply below_alloc|apply pw_below_drewN|apply below_drew1|refine below_set ?_ GE165.out)|exact HB.out)⟩
    ·replace c20 := Bool.eq_false_iff.mpr c20
     subst c20
     have H1 : (some (x7_1, 0)) = some (r1, r2) := by rw [if_neg (show ¬ (false = true) by decide)] at H; exact H
     clear H
     have H := H1
     clear H1
     simp only [Option.some.injEq, Prod.mk.injEq] at H
     obtain ⟨rfl, rfl⟩ := H
     have hcz22_0 : wr.cell? ⟨gb165, 0, none⟩ = some (.int .i64 x166000_1) := (blk_cell BK165.out 0).trans rfl
     have hcz22_1 : wr.cell? ⟨gb165, 1, none⟩ = some (.int .i64 x166001_1) := (blk_cell BK165.out 1).trans rfl
     have hfz22_0 := blk_frozen BK165.out 0
     have hfz22_1 := blk_frozen BK165.out 1
     go_wp2
     refine bodyPost_ret (results_cell_row rfl _ _ gb165 66 #[.int .i64 x7_1, .int .i64 0] (0, 0) _ rfl (by (with_reducible repeat (first|refine blk_drewN ?_ _|refine blk_drew ?_|refine blk_alloc ?_ _)); refine blk_put (cs := #[.int .i64 x7_1, .int .i64 x166001_1]) ?_ 1 _ rfl; (with_reducible repeat (first|refine blk_drewN ?_ _|refine blk_drew ?_|refine blk_alloc ?_ _)); refine blk_put (cs := #[.int .i64 x166000_1, .int .i64 x166001_1]) ?_ 0 _ rfl; (with_reducible repeat (first|refine blk_drewN ?_ _|refine blk_drew ?_|refine blk_alloc ?_ _)); exact BK165.out) Tryd.underlying66 rfl (by kernel_rfl)) rfl ?_
     exact ⟨by first|rfl|(simp [errW_none, errW_some] <;> rfl)|(simp [*, errW_none, errW_some] <;> rfl), by repeat (first|(with_reducible first|exact HB.out|apply below_alloc|apply pw_below_drewN|apply below_drew1|refine below_set ?_ GE165.out)|exact HB.out)⟩
/-! ### colophonref04_Part: function 85 -/
def colophonref04_Part.f (k : Nat) (a0 : Int) : Option (Bool) := (colophonref04_Letter.f k a0).bind fun t166 => (if t166 = true then (some true) else ((colophonref04_in.f k a0 (([48, 57, 95, 95, 768, 879] : List Int))).bind fun t170 => (some t170)))
theorem colophonref04_Part.mono : ∀ a0 k, LeO (colophonref04_Part.f k a0) (colophonref04_Part.f (k + 1) a0) := by
 intro a0 k
 unfold colophonref04_Part.f
 repeat' first
   | (with_reducible exact colophonref04_Letter.mono _ _)
   | (with_reducible exact colophonref04_in.mono _ _ _)
   | (with_reducible exact LeO.refl _)
   | (with_reducible exact LeO.none _)
   | (with_reducible refine LeO.ite ?_ ?_)
   | (with_reducible refine LeO.bind ?_ (fun _ => ?_))
   | exact colophonref04_Letter.mono _ _
   | exact colophonref04_in.mono _ _ _
   | exact LeO.none _
   | refine LeO.ite ?_ ?_
   | refine LeO.bind ?_ (fun _ => ?_)
set_option maxHeartbeats 8000000 in
set_option maxRecDepth 100000 in
theorem colophonref04_Part.calls (k : Nat) (a0 : Int) (r : Bool) (w : World) (h : colophonref04_Part.f k a0 = some r) :
  Calls Tryd.prog 85 #[.int .i64 a0] w fun e w' => e = .returned (.bool r) ∧ Below w.heap.size w w' := by
 have HB := Aside0.mk (Below.refl w.heap.size w)
 have H : ((colophonref04_Letter.f k a0).bind fun t166 => (if t166 = true then (some true) else ((colophonref04_in.f k a0 (([48, 57, 95, 95, 768, 879] : List Int))).bind fun t170 => (some t170)))) = some r := h
 clear h
 replace H := Option.bind_eq_some_iff.mp H
 obtain ⟨t166, A20, H⟩ := H
 replace H : (if t166 = true then (some true) else ((colophonref04_in.f k a0 (([48, 57, 95, 95, 768, 879] : List Int))).bind fun t170 => (some t170))) = some r := H
 have A2 := Aside0.mk A20
 clear A20
 by_cases c3 : t166 = true
 ·subst c3
  have H1 : (some true) = some r := by rw [if_pos rfl] at H; exact H
  clear H
  have H := H1
  clear H1
  obtain rfl := Option.some.inj H
  go_enter Tryd.func85, Tryd.ntmps85
  go_wp2_with (first|((with_reducible refine gate_callee (f := 62) rfl ?_); refine goesL_ (some 4) rfl rfl Tryd.func62 (by kernel_rfl) rfl #[.int .i64 a0] rfl (by (try simp only [List.map_toArray, List.map_cons, List.map_nil]); first|done|rfl|(simp only [List.length_drop, List.length_take]; rfl)) ?_; (with_reducible refine (colophonref04_Letter.calls k a0 true _ A2.out).mono ?_); rintro e w4 ⟨rfl, hb⟩; refine ⟨_, rfl, ?_⟩; have n0_ := Aside0.mk (below_step (by repeat (first|(with_reducible first|exact HB.out|apply below_alloc|apply pw_below_drewN|apply below_drew1)|exact HB.out)) hb); clear HB; have HB := n0_; clear n0_; (try clear hb); (try clear hb2); (try clear hk); (try clear hi)))
  go_ret
  exact ⟨by first|rfl|(simp [errW_none, errW_some] <;> rfl)|(simp [*, errW_none, errW_some] <;> rfl), by repeat (first|(with_reducible first|exact HB.out|apply below_alloc|apply pw_below_drewN|apply below_drew1)|exact HB.out)⟩
 ·replace c3 := Bool.eq_false_iff.mpr c3
  subst c3
  have H1 : ((colophonref04_in.f k a0 (([48, 57, 95, 95, 768, 879] : List Int))).bind fun t170 => (some t170)) = some r := by rw [if_neg (show ¬ (false = true) by decide)] at H; exact H
  clear H
  have H := H1
  clear H1
  obtain ⟨y167, hy167⟩ : ∃ y_ : List Int, y_ = (([48, 57, 95, 95, 768, 879] : List Int)) := ⟨_, rfl⟩
  replace H : ((colophonref04_in.f k a0 y167).bind fun t170 => (some t170)) = some r := by first|(rw [hy167]; with_reducible exact H)|(have H2_ := (Option.bind_some _ _).symm.trans H; rw [hy167]; with_reducible exact H2_)|(have H2_ := (Option.bind_some _ _).symm.trans H; with_reducible exact H2_)|with_reducible exact H|(rw [hy167]; exact H)|exact H
  have Ny167 := Aside0.mk hy167
  clear hy167
  replace H := Option.bind_eq_some_iff.mp H
  obtain ⟨t170, A50, H⟩ := H
  replace H : (some t170) = some r := H
  have A5 := Aside0.mk A50
  clear A50
  obtain rfl := Option.some.inj H
  go_enter Tryd.func85, Tryd.ntmps85
  go_wp2_with (first|((with_reducible refine gate_callee (f:=62) rfl ?_);refine goesL_ (some 4) rfl rfl Tryd.func62 (by kernel_rfl) rfl #[.int .i64 a0] rfl (by (try simp only [List.map_toArray,List.map_cons,List.map_nil]);first|done|rfl|(simp only [List.length_drop,List.length_take];rfl)) ?_;(with_reducible refine (colophonref04_Letter.calls k a0 false _ A2.out).mono ?_);rintro e w6 ⟨rfl,hb⟩;refine ⟨_,rfl,?_⟩;have n0_:=Aside0.mk (below_step (by repeat (first|(with_reducible first|exact HB.out|apply below_alloc|apply pw_below_drewN|apply below_drew1)|exact HB.out)) hb);clear HB;have HB:=n0_;clear n0_;(try clear hb);(try clear hb2);(try clear hk);(try clear hi))|((with_reducible refine gate_dst (N:=7) rfl ?_);(try (refine gate_guard (by rfl) ?_;dsimp only));refine Kd.R_lit (Kd.int .i64) _ 3 ?hg (N:=7) ?hd (xs:=([48,57,95,95,768,879] : List Int)) (inner:=[.int .i64 48,.int .i64 57,.int .i64 95,.int .i64 95,.int .i64 768,.int .i64 879]) (ok:=fun _ => True) (okp:=fun _ => True) ?hr ?hp (fun _ hk => hk) trivial (Below.refl _ _) (Nat.le_refl _) (by simp) ?_;(case hd => rfl);(case hg => rfl);(case hr => first|(go_simp;done)|(go_simp;rfl));(case hp => exact (Reps.one (show Kd.M (Kd.int .i64) _ _ _ 48 [.int .i64 48] from rfl) (Reps.one (show Kd.M (Kd.int .i64) _ _ _ 57 [.int .i64 57] from rfl) (Reps.one (show Kd.M (Kd.int .i64) _ _ _ 95 [.int .i64 95] from rfl) (Reps.one (show Kd.M (Kd.int .i64) _ _ _ 95 [.int .i64 95] from rfl) (Reps.one (show Kd.M (Kd.int .i64) _ _ _ 768 [.int .i64 768] from rfl) (Reps.one (show Kd.M (Kd.int .i64) _ _ _ 879 [.int .i64 879] from rfl) (Reps.none _ _))))))));intro v168 w7 ho8 hb hg_ hnew_;clear hg_ hnew_;(first|rw [← Ny167.out] at ho8|(simp only [Int.reduceToNat] at ho8;rw [← Ny167.out] at ho8));have n0_:=Aside0.mk (Kd.R_lower ho8 (below_size (by repeat (first|(with_reducible first|exact HB.out|apply below_alloc|apply pw_below_drewN|apply below_drew1)|exact HB.out))));have n1_:=Aside0.mk (below_step (by repeat (first|(with_reducible first|exact HB.out|apply below_alloc|apply pw_below_drewN|apply below_drew1)|exact HB.out)) hb);clear HB;have HO169:=n0_;have HB:=n1_;clear n0_ n1_;clear hb ho8;obtain ⟨Ao9,co9,eo9⟩:=Kd.R_slice HO169.out;subst eo9)|(go_at_call 82;(with_reducible refine (colophonref04_in.calls k a0 _ _ y167 t170 _ ?side1 ?side2 A5.out).mono ?_);(case side1 => repeat (first|exact (Kd.R_reads' HO169.out).2.2|(with_reducible refine Kd.C_alloc ?_ _)|(with_reducible refine Kd.C_drewN ?_ _)|(with_reducible refine Kd.C_drew ?_)));(case side2 => exact (Kd.R_reads' HO169.out).2.1);rintro e w' ⟨rfl,⟨nd,rfl⟩⟩))
  go_ret
  exact ⟨by first|rfl|(simp [errW_none, errW_some] <;> rfl)|(simp [*, errW_none, errW_some] <;> rfl), by repeat (first|(with_reducible first|exact HB.out|apply below_alloc|apply pw_below_drewN|apply below_drew1)|exact HB.out)⟩
/-! ### colophonref10_row: function 67 -/
mutual
def colophonref10_row.l0 : Nat → ByteArray → Int → Int → Int → Option (Int × Int)
 | 0, _, _, _, _ => none
 | k + 1, x0, x1, x2, x7 => if x7 < (x0.size : Int) then ((colophonref01_Next.f k x0 x7).bind fun bt172 => (if bt172.2.2 = true then ((colophonref04_Part.f k bt172.1).bind fun t175 => (colophonref10_row.j1 k x0 x1 x2 x7 bt172.2.1 t175)) else (colophonref10_row.j1 k x0 x1 x2 x7 bt172.2.1 false))) else (some (x7, 0))
def colophonref10_row.j1 : Nat → ByteArray → Int → Int → Int → Int → Bool → Option (Int × Int)
 | 0, _, _, _, _, _, _ => none
 | k + 1, x0, x1, x2, x7, x9, x11 => if x2 = 1 then (if x11 = true then (if x2 = 3 then (if 0 ≤ x7 then (if x7 < (x0.size : Int) then ((colophonref10_digit.f (bt x0 x7)).bind fun t176 => (colophonref10_row.j2 k x0 x1 x2 x7 x9 (!t176))) else (none)) else (none)) else (colophonref10_row.j2 k x0 x1 x2 x7 x9 false)) else (colophonref10_row.j2 k x0 x1 x2 x7 x9 true)) else (if x2 = 3 then (if 0 ≤ x7 then (if x7 < (x0.size : Int) then ((colophonref10_digit.f (bt x0 x7)).bind fun t177 => (colophonref10_row.j2 k x0 x1 x2 x7 x9 (!t177))) else (none)) else (none)) else (colophonref10_row.j2 k x0 x1 x2 x7 x9 false))
def colophonref10_row.j2 : Nat → ByteArray → Int → Int → Int → Int → Bool → Option (Int × Int)
 | 0, _, _, _, _, _, _ => none
 | k + 1, x0, x1, x2, x7, x9, x45 => if x45 = true then (some (x7, 0)) else (if (wrap64 ((wrap64 (x7 + x9)) - x1)) > 65535 then (some (x1, 103)) else (colophonref10_row.l0 k x0 x1 x2 (wrap64 (x7 + x9))))
end
def colophonref10_row.f (k : Nat) (a0 : ByteArray) (a1 : Int) (a2 : Int) : Option (Int × Int) := colophonref10_row.l0 k a0 a1 a2 a1
theorem colophonref10_row.mono_l : ∀ k, (∀ y0 y1 y2 y3, LeO (colophonref10_row.l0 k y0 y1 y2 y3) (colophonref10_row.l0 (k + 1) y0 y1 y2 y3)) ∧ (∀ y0 y1 y2 y3 y4 y5, LeO (colophonref10_row.j1 k y0 y1 y2 y3 y4 y5) (colophonref10_row.j1 (k + 1) y0 y1 y2 y3 y4 y5)) ∧ (∀ y0 y1 y2 y3 y4 y5, LeO (colophonref10_row.j2 k y0 y1 y2 y3 y4 y5) (colophonref10_row.j2 (k + 1) y0 y1 y2 y3 y4 y5))
 | 0 => ⟨fun _ _ _ _ r h => by simp [colophonref10_row.l0] at h, fun _ _ _ _ _ _ r h => by simp [colophonref10_row.j1] at h, fun _ _ _ _ _ _ r h => by simp [colophonref10_row.j2] at h⟩
 | k + 1 => by
  obtain ⟨ih0, ih1, ih2⟩ := colophonref10_row.mono_l k
  refine ⟨?_, ?_, ?_⟩
  ·intro y0 y1 y2 y3
   unfold colophonref10_row.l0
   repeat' first
   | (with_reducible exact ih0 _ _ _ _)
   | (with_reducible exact ih1 _ _ _ _ _ _)
   | (with_reducible exact ih2 _ _ _ _ _ _)
   | (with_reducible exact colophonref01_Next.mono _ _ _)
   | (with_reducible exact colophonref04_Part.mono _ _)
   | (with_reducible exact LeO.refl _)
   | (with_reducible exact LeO.none _)
   | (with_reducible refine LeO.ite ?_ ?_)
   | (with_reducible refine LeO.bind ?_ (fun _ => ?_))
   | exact ih0 _ _ _ _
   | exact ih1 _ _ _ _ _ _
   | exact ih2 _ _ _ _ _ _
   | exact colophonref01_Next.mono _ _ _
   | exact colophonref04_Part.mono _ _
   | exact LeO.none _
   | refine LeO.ite ?_ ?_
   | refine LeO.bind ?_ (fun _ => ?_)
  ·intro y0 y1 y2 y3 y4 y5
   unfold colophonref10_row.j1
   repeat' first
   | (with_reducible exact ih0 _ _ _ _)
   | (with_reducible exact ih1 _ _ _ _ _ _)
   | (with_reducible exact ih2 _ _ _ _ _ _)
   | (with_reducible exact colophonref01_Next.mono _ _ _)
   | (with_reducible exact colophonref04_Part.mono _ _)
   | (with_reducible exact LeO.refl _)
   | (with_reducible exact LeO.none _)
   | (with_reducible refine LeO.ite ?_ ?_)
   | (with_reducible refine LeO.bind ?_ (fun _ => ?_))
   | exact ih0 _ _ _ _
   | exact ih1 _ _ _ _ _ _
   | exact ih2 _ _ _ _ _ _
   | exact colophonref01_Next.mono _ _ _
   | exact colophonref04_Part.mono _ _
   | exact LeO.none _
   | refine LeO.ite ?_ ?_
   | refine LeO.bind ?_ (fun _ => ?_)
  ·intro y0 y1 y2 y3 y4 y5
   unfold colophonref10_row.j2
   repeat' first
   | (with_reducible exact ih0 _ _ _ _)
   | (with_reducible exact ih1 _ _ _ _ _ _)
   | (with_reducible exact ih2 _ _ _ _ _ _)
   | (with_reducible exact colophonref01_Next.mono _ _ _)
   | (with_reducible exact colophonref04_Part.mono _ _)
   | (with_reducible exact LeO.refl _)
   | (with_reducible exact LeO.none _)
   | (with_reducible refine LeO.ite ?_ ?_)
   | (with_reducible refine LeO.bind ?_ (fun _ => ?_))
   | exact ih0 _ _ _ _
   | exact ih1 _ _ _ _ _ _
   | exact ih2 _ _ _ _ _ _
   | exact colophonref01_Next.mono _ _ _
   | exact colophonref04_Part.mono _ _
   | exact LeO.none _
   | refine LeO.ite ?_ ?_
   | refine LeO.bind ?_ (fun _ => ?_)
theorem colophonref10_row.mono : ∀ a0 a1 a2 k, LeO (colophonref10_row.f k a0 a1 a2) (colophonref10_row.f (k + 1) a0 a1 a2) := by
 intro a0 a1 a2 k
 obtain ⟨ih0, ih1, ih2⟩ := colophonref10_row.mono_l k
 unfold colophonref10_row.f
 repeat' first
   | (with_reducible exact ih0 _ _ _ _)
   | (with_reducible exact ih1 _ _ _ _ _ _)
   | (with_reducible exact ih2 _ _ _ _ _ _)
   | (with_reducible exact colophonref01_Next.mono _ _ _)
   | (with_reducible exact colophonref04_Part.mono _ _)
   | (with_reducible exact LeO.refl _)
   | (with_reducible exact LeO.none _)
   | (with_reducible refine LeO.ite ?_ ?_)
   | (with_reducible refine LeO.bind ?_ (fun _ => ?_))
   | exact ih0 _ _ _ _
   | exact ih1 _ _ _ _ _ _
   | exact ih2 _ _ _ _ _ _
   | exact colophonref01_Next.mono _ _ _
   | exact colophonref04_Part.mono _ _
   | exact LeO.none _
   | refine LeO.ite ?_ ?_
   | refine LeO.bind ?_ (fun _ => ?_)
set_option maxHeartbeats 8000000 in
set_option maxRecDepth 100000 in
theorem colophonref10_row.calls (k : Nat) (a0 : ByteArray) (a1 : Int) (a2 : Int) (r1 : Int) (r2 : Int) (w : World) (h : colophonref10_row.f k a0 a1 a2 = some (r1, r2)) :
  Calls Tryd.prog 67 #[.string a0, .int .i64 a1, .int .u8 a2] w fun e w' => e = .returned (.agg #[.int .i64 r1, .int .i64 r2]) ∧ Below w.heap.size w w' := by
 have hu66 := Tryd.underlying66
 have HB := Aside0.mk (Below.refl w.heap.size w)
 have H : (colophonref10_row.l0 k a0 a1 a2 a1) = some (r1, r2) := h
 clear h
 have H' := Aside0.mk H
 clear H
 go_enter Tryd.func67, Tryd.ntmps67
 go_wp2_with (first|((with_reducible refine gate_dst (N := 6) rfl ?_); refine box_event ?hg (N := 6) ?hd (cs := #[.int .i64 0, .int .i64 0]) (t := 66) ?hr ?_; (case hd => rfl); (case hg => rfl); (case hr => first|(go_simp; done)|(go_simp; rfl)); intro gb171 hg w4 hbox hb; have n0_ := Aside0.mk (below_step (by repeat (first|(with_reducible first|exact HB.out|apply below_alloc|apply pw_below_drewN|apply below_drew1)|exact HB.out)) hb); have n1_ := Aside0.mk (hbox); have n2_ := Aside0.mk ((by rw [hg]; exact (below_size (by repeat (first|(with_reducible first|exact HB.out|apply below_alloc|apply pw_below_drewN|apply below_drew1)|exact HB.out))) : w.heap.size ≤ gb171)); have n3_ := Aside0.mk ((by rw [hg]; exact (below_size (by repeat (first|(with_reducible first|exact HB.out|apply below_alloc|apply pw_below_drewN|apply below_drew1)|exact HB.out))) : w.heap.size ≤ gb171)); clear HB; have HB := n0_; have BK171 := n1_; have GW171 := n2_; have GE171 := n3_; clear n0_ n1_ n2_ n3_; clear hb hbox hg))
 go_loopg [7] k (fun kq v7 w' => ∃ (x7_1 : Int) (x172000_1 : Int) (x172001_1 : Int), v7 = .int .i64 x7_1 ∧ Aside0 (colophonref10_row.l0 kq a0 a1 a2 x7_1 = some (r1, r2)) ∧ Aside0 (kq ≤ k) ∧ Aside0 (w'.heap[gb171]? = some (.cells #[.int .i64 x172000_1, .int .i64 x172001_1] 66 (0, 0))) ∧ Aside0 (Below w.heap.size w w'))
 case atStart => exact ⟨(a1), (0), (0), (by first|rfl|(simp; done)|(simp [*]; done)), H', ⟨Nat.le_refl _⟩, ⟨by (with_reducible repeat (first|refine blk_drewN ?_ _|refine blk_drew ?_|refine blk_alloc ?_ _)); exact BK171.out⟩, ⟨by repeat (first|(with_reducible first|exact HB.out|apply below_alloc|apply pw_below_drewN|apply below_drew1|refine below_set ?_ GE171.out)|exact HB.out)⟩⟩
 case round =>
  clear H'
  try clear p2
  obtain ⟨x7_1, x172000_1, x172001_1, rfl, HA, HK1, BK171, HB⟩ := hrel
  cases gk with
  | zero => exact absurd HA.out (by simp [colophonref10_row.l0])
  | succ k1 =>
   have H := HA.out
   clear HA
   simp only [colophonref10_row.l0] at H
   by_cases c5 : x7_1 < (a0.size : Int)
   ·rw [if_pos c5] at H
    have c5b0 : decide (x7_1 < (a0.size : Int)) = true := decide_eq_true c5
    clear c5
    replace H := Option.bind_eq_some_iff.mp H
    obtain ⟨⟨t172, t173, t174⟩, A60, H⟩ := H
    replace H : (if t174 = true then ((colophonref04_Part.f k1 t172).bind fun t175 => (colophonref10_row.j1 k1 a0 a1 a2 x7_1 t173 t175)) else (colophonref10_row.j1 k1 a0 a1 a2 x7_1 t173 false)) = some (r1, r2) := H
    have A6 := Aside0.mk A60
    clear A60
    have HC7 := Aside0.mk H
    clear H
    go_upto_region 4 with (first|((with_reducible refine gate_callee (f := 61) rfl ?_); refine goesL_ (some 20) rfl rfl Tryd.func61 (by kernel_rfl) rfl #[.string a0, .int .i64 x7_1] rfl (by (try simp only [List.map_toArray, List.map_cons, List.map_nil]); first|done|rfl|(simp only [List.length_drop, List.length_take]; rfl)) ?_; (with_reducible refine (colophonref01_Next.calls k1 a0 x7_1 t172 t173 t174 _ A6.out).mono ?_); rintro e w' ⟨rfl, ⟨nd, rfl⟩⟩; refine ⟨_, rfl, ?_⟩))
    (try simp only [Act.put, List.setIfInBounds_toArray, List.set_cons_zero, List.set_cons_succ])
    go_cut [11] (fun v11 wc => ∃ (kq : Nat) (x11_6 : Bool), v11 = .bool x11_6 ∧ Aside0 (colophonref10_row.j1 kq a0 a1 a2 x7_1 t173 x11_6 = some (r1, r2)) ∧ Aside0 (kq ≤ k1) ∧ Aside0 (wc.heap[gb171]? = some (.cells #[.int .i64 x172000_1, .int .i64 x172001_1] 66 (0, 0))) ∧ Aside0 (Below w.heap.size w wc))
    case first =>
     have H := HC7.out
     clear HC7
     by_cases c8 : t174 = true
     ·subst c8
      have H1 : ((colophonref04_Part.f k1 t172).bind fun t175 => (colophonref10_row.j1 k1 a0 a1 a2 x7_1 t173 t175)) = some (r1, r2) := by rw [if_pos rfl] at H; exact H
      clear H
      have H := H1
      clear H1
      replace H := Option.bind_eq_some_iff.mp H
      obtain ⟨t175, A90, H⟩ := H
      replace H : (colophonref10_row.j1 k1 a0 a1 a2 x7_1 t173 t175) = some (r1, r2) := H
      have A9 := Aside0.mk A90
      clear A90
      have H' := Aside0.mk H
      clear H
      go_wp2_with (first|(go_at_call 85; (with_reducible refine (colophonref04_Part.calls k1 t172 t175 _ A9.out).mono ?_); rintro e w10 ⟨rfl, hb⟩; have n0_ := Aside0.mk (blk_below (g := gb171) (o := .cells #[.int .i64 x172000_1, .int .i64 x172001_1] 66 (0, 0)) (by (with_reducible repeat (first|refine blk_drewN ?_ _|refine blk_drew ?_|refine blk_alloc ?_ _)); exact BK171.out) hb); have n1_ := Aside0.mk (below_step (by repeat (first|(with_reducible first|exact HB.out|apply below_alloc|apply pw_below_drewN|apply below_drew1|refine below_set ?_ GE171.out)|exact HB.out)) hb); clear BK171; clear HB; have BK171 := n0_; have HB := n1_; clear n0_ n1_; (try clear hb); (try clear hb2); (try clear hk); (try clear hi)))
      go_meet
      case rel => exact ⟨_, (t175), (by first|rfl|(simp; done)|(simp [*]; done)), H', ⟨by have := HK1.out; first|omega|exact Nat.le_refl _⟩, ⟨by (with_reducible repeat (first|refine blk_drewN ?_ _|refine blk_drew ?_|refine blk_alloc ?_ _)); exact BK171.out⟩, ⟨by repeat (first|(with_reducible first|exact HB.out|apply below_alloc|apply pw_below_drewN|apply below_drew1|refine below_set ?_ GE171.out)|exact HB.out)⟩⟩
     ·replace c8 := Bool.eq_false_iff.mpr c8
      subst c8
      have H1 : (colophonref10_row.j1 k1 a0 a1 a2 x7_1 t173 false) = some (r1, r2) := by rw [if_neg (show ¬ (false = true) by decide)] at H; exact H
      clear H
      have H := H1
      clear H1
      have H' := Aside0.mk H
      clear H
      go_wp2
      go_meet
      case rel => exact ⟨_, (false), (by first|rfl|(simp; done)|(simp [*]; done)), H', ⟨by have := HK1.out; first|omega|exact Nat.le_refl _⟩, ⟨by (with_reducible repeat (first|refine blk_drewN ?_ _|refine blk_drew ?_|refine blk_alloc ?_ _)); exact BK171.out⟩, ⟨by repeat (first|(with_reducible first|exact HB.out|apply below_alloc|apply pw_below_drewN|apply below_drew1|refine below_set ?_ GE171.out)|exact HB.out)⟩⟩
    case rest =>
     clear HC7
     try clear p2
     try clear c5
     try clear c5b0
     try clear c6
     try clear c8
     try clear p2
     obtain ⟨kq, x11_6, rfl, HA, HJ6, BK171, HB⟩ := hcut
     cases kq with
     | zero => exact absurd HA.out (by simp [colophonref10_row.j1])
     | succ kj6 =>
      have H := HA.out
      clear HA
      simp only [colophonref10_row.j1] at H
      have HC11 := Aside0.mk H
      clear H
      go_upto_region 5 with (fail)
      go_cut [45] (fun v45 wc => ∃ (kq : Nat) (x45_10 : Bool), v45 = .bool x45_10 ∧ Aside0 (colophonref10_row.j2 kq a0 a1 a2 x7_1 t173 x45_10 = some (r1, r2)) ∧ Aside0 (kq ≤ kj6) ∧ Aside0 (wc.heap[gb171]? = some (.cells #[.int .i64 x172000_1, .int .i64 x172001_1] 66 (0, 0))) ∧ Aside0 (Below w.heap.size w wc))
      case first =>
       have H := HC11.out
       clear HC11
       by_cases c12 : a2 = 1
       ·rw [if_pos c12] at H
        have c12b0 : (a2 == 1) = true := beq_iff_eq.mpr c12
        have c12b1 : (a2 != 1) = false := bne_eq_false_iff_eq.mpr c12
        clear c12
        (first|rw [c12b0]|(simp only [i64_w, i32_w]; rw [c12b0])|skip)
        by_cases c13 : x11_6 = true
        ·subst c13
         have H1 : (if a2 = 3 then (if 0 ≤ x7_1 then (if x7_1 < (a0.size : Int) then ((colophonref10_digit.f (bt a0 x7_1)).bind fun t176 => (colophonref10_row.j2 kj6 a0 a1 a2 x7_1 t173 (!t176))) else (none)) else (none)) else (colophonref10_row.j2 kj6 a0 a1 a2 x7_1 t173 false)) = some (r1, r2) := by rw [if_pos rfl] at H; exact H
         clear H
         have H := H1
         clear H1
         by_cases c14 : a2 = 3
         ·rw [if_pos c14] at H
          have c14b0 : (a2 == 3) = true := beq_iff_eq.mpr c14
          have c14b1 : (a2 != 3) = false := bne_eq_false_iff_eq.mpr c14
          clear c14
          by_cases c15 : 0 ≤ x7_1
          ·rw [if_pos c15] at H
           have c15b0 : decide (0 ≤ x7_1) = true := decide_eq_true c15
           clear c15
           by_cases c16 : x7_1 < (a0.size : Int)
           ·rw [if_pos c16] at H
            have c16b0 : decide (x7_1 < (a0.size : Int)) = true := decide_eq_true c16
            clear c16
            replace H := Option.bind_eq_some_iff.mp H
            obtain ⟨t176, A180, H⟩ := H
            replace H : (colophonref10_row.j2 kj6 a0 a1 a2 x7_1 t173 (!t176)) = some (r1, r2) := H
            have A18 := Aside0.mk A180
            clear A180
            have H' := Aside0.mk H
            clear H
            have p17 : 0 ≤ (x7_1 : Int) := of_decide_eq_true (by first|(with_reducible assumption)|assumption)
            have q17 : x7_1 < (a0.size : Int) := of_decide_eq_true (by first|(with_reducible assumption)|assumption)
            have hx17 := bt_at a0 x7_1
            replace p17 := eq_true p17
            replace q17 := eq_true q17
            go_wp2_with (first|(go_at_call 64; (with_reducible refine (colophonref10_digit.calls (bt a0 x7_1) t176 _ A18.out).mono ?_); rintro e w' ⟨rfl, ⟨nd, rfl⟩⟩))
            go_meet
            case rel => exact ⟨_, (!t176), (by first|rfl|(simp; done)|(simp [*]; done)), H', ⟨by have := HK1.out; have := HJ6.out; first|omega|exact Nat.le_refl _⟩, ⟨by (with_reducible repeat (first|refine blk_drewN ?_ _|refine blk_drew ?_|refine blk_alloc ?_ _)); exact BK171.out⟩, ⟨by repeat (first|(with_reducible first|exact HB.out|apply below_alloc|apply pw_below_drewN|apply below_drew1|refine below_set ?_ GE171.out)|exact HB.out)⟩⟩
           ·rw [if_neg c16] at H
            exact absurd H (by simp)
          ·rw [if_neg c15] at H
           exact absurd H (by simp)
         ·rw [if_neg c14] at H
          have c14b0 : (a2 == 3) = false := beq_eq_false_iff_ne.mpr c14
          have c14b1 : (a2 != 3) = true := bne_iff_ne.mpr c14
          have H' := Aside0.mk H
          clear H
          go_wp2
          go_meet
          case rel => exact ⟨_, (false), (by first|rfl|(simp; done)|(simp [*]; done)), H', ⟨by have := HK1.out; have := HJ6.out; first|omega|exact Nat.le_refl _⟩, ⟨by (with_reducible repeat (first|refine blk_drewN ?_ _|refine blk_drew ?_|refine blk_alloc ?_ _)); exact BK171.out⟩, ⟨by repeat (first|(with_reducible first|exact HB.out|apply below_alloc|apply pw_below_drewN|apply below_drew1|refine below_set ?_ GE171.out)|exact HB.out)⟩⟩
        ·replace c13 := Bool.eq_false_iff.mpr c13
         subst c13
         have H1 : (colophonref10_row.j2 kj6 a0 a1 a2 x7_1 t173 true) = some (r1, r2) := by rw [if_neg (show ¬ (false = true) by decide)] at H; exact H
         clear H
         have H := H1
         clear H1
         have H' := Aside0.mk H
         clear H
         go_wp2
         go_meet
         case rel => exact ⟨_, (true), (by first|rfl|(simp; done)|(simp [*]; done)), H', ⟨by have := HK1.out; have := HJ6.out; first|omega|exact Nat.le_refl _⟩, ⟨by (with_reducible repeat (first|refine blk_drewN ?_ _|refine blk_drew ?_|refine blk_alloc ?_ _)); exact BK171.out⟩, ⟨by repeat (first|(with_reducible first|exact HB.out|apply below_alloc|apply pw_below_drewN|apply below_drew1|refine below_set ?_ GE171.out)|exact HB.out)⟩⟩
       ·rw [if_neg c12] at H
        have c12b0 : (a2 == 1) = false := beq_eq_false_iff_ne.mpr c12
        have c12b1 : (a2 != 1) = true := bne_iff_ne.mpr c12
        (first|rw [c12b0]|(simp only [i64_w, i32_w]; rw [c12b0])|skip)
        by_cases c19 : a2 = 3
        ·rw [if_pos c19] at H
         have c19b0 : (a2 == 3) = true := beq_iff_eq.mpr c19
         have c19b1 : (a2 != 3) = false := bne_eq_false_iff_eq.mpr c19
         clear c19
         by_cases c20 : 0 ≤ x7_1
         ·rw [if_pos c20] at H
          have c20b0 : decide (0 ≤ x7_1) = true := decide_eq_true c20
          clear c20
          by_cases c21 : x7_1 < (a0.size : Int)
          ·rw [if_pos c21] at H
           have c21b0 : decide (x7_1 < (a0.size : Int)) = true := decide_eq_true c21
           clear c21
           replace H := Option.bind_eq_some_iff.mp H
           obtain ⟨t177, A230, H⟩ := H
           replace H : (colophonref10_row.j2 kj6 a0 a1 a2 x7_1 t173 (!t177)) = some (r1, r2) := H
           have A23 := Aside0.mk A230
           clear A230
           have H' := Aside0.mk H
           clear H
           have p22 : 0 ≤ (x7_1 : Int) := of_decide_eq_true (by first|(with_reducible assumption)|assumption)
           have q22 : x7_1 < (a0.size : Int) := of_decide_eq_true (by first|(with_reducible assumption)|assumption)
           have hx22 := bt_at a0 x7_1
           replace p22 := eq_true p22
           replace q22 := eq_true q22
           go_wp2_with (first|(go_at_call 64; (with_reducible refine (colophonref10_digit.calls (bt a0 x7_1) t177 _ A23.out).mono ?_); rintro e w' ⟨rfl, ⟨nd, rfl⟩⟩))
           go_meet
           case rel => exact ⟨_, (!t177), (by first|rfl|(simp; done)|(simp [*]; done)), H', ⟨by have := HK1.out; have := HJ6.out; first|omega|exact Nat.le_refl _⟩, ⟨by (with_reducible repeat (first|refine blk_drewN ?_ _|refine blk_drew ?_|refine blk_alloc ?_ _)); exact BK171.out⟩, ⟨by repeat (first|(with_reducible first|exact HB.out|apply below_alloc|apply pw_below_drewN|apply below_drew1|refine below_set ?_ GE171.out)|exact HB.out)⟩⟩
          ·rw [if_neg c21] at H
           exact absurd H (by simp)
         ·rw [if_neg c20] at H
          exact absurd H (by simp)
        ·rw [if_neg c19] at H
         have c19b0 : (a2 == 3) = false := beq_eq_false_iff_ne.mpr c19
         have c19b1 : (a2 != 3) = true := bne_iff_ne.mpr c19
         have H' := Aside0.mk H
         clear H
         go_wp2
         go_meet
         case rel => exact ⟨_, (false), (by first|rfl|(simp; done)|(simp [*]; done)), H', ⟨by have := HK1.out; have := HJ6.out; first|omega|exact Nat.le_refl _⟩, ⟨by (with_reducible repeat (first|refine blk_drewN ?_ _|refine blk_drew ?_|refine blk_alloc ?_ _)); exact BK171.out⟩, ⟨by repeat (first|(with_reducible first|exact HB.out|apply below_alloc|apply pw_below_drewN|apply below_drew1|refine below_set ?_ GE171.out)|exact HB.out)⟩⟩
      case rest =>
       clear HC11
       try clear c1
       try clear p1
       try clear q1
       try clear hx1
       try clear c2
       try clear p2
       try clear q2
       try clear hx2
       try clear c5
       try clear c5b0
       try clear c6
       try clear c8
       try clear c12
       try clear c12b0
       try clear c12b1
       try clear c13
       try clear c14
       try clear c14b0
       try clear c14b1
       try clear c15
       try clear c15b0
       try clear c16
       try clear c16b0
       try clear p17
       try clear q17
       try clear hx17
       try clear c19
       try clear c19b0
       try clear c19b1
       try clear c20
       try clear c20b0
       try clear c21
       try clear c21b0
       try clear p22
       try clear q22
       try clear hx22
       try clear p17
       try clear p2
       try clear p22
       try clear q17
       try clear q22
       obtain ⟨kq, x45_10, rfl, HA, HJ10, BK171, HB⟩ := hcut
       cases kq with
       | zero => exact absurd HA.out (by simp [colophonref10_row.j2])
       | succ kj10 =>
        have H := HA.out
        clear HA
        simp only [colophonref10_row.j2] at H
        by_cases c24 : x45_10 = true
        ·subst c24
         have H1 : (some (x7_1, 0)) = some (r1, r2) := by rw [if_pos rfl] at H; exact H
         clear H
         have H := H1
         clear H1
         simp only [Option.some.injEq, Prod.mk.injEq] at H
         obtain ⟨rfl, rfl⟩ := H
         have hcz25_0 : wc.cell? ⟨gb171, 0, none⟩ = some (.int .i64 x172000_1) := (blk_cell BK171.out 0).trans rfl
         have hcz25_1 : wc.cell? ⟨gb171, 1, none⟩ = some (.int .i64 x172001_1) := (blk_cell BK171.out 1).trans rfl
         have hfz25_0 := blk_frozen BK171.out 0
         have hfz25_1 := blk_frozen BK171.out 1
         go_wp2
         refine bodyPost_ret (results_cell_row rfl _ _ gb171 66 #[.int .i64 x7_1, .int .i64 0] (0, 0) _ rfl (by (with_reducible repeat (first|refine blk_drewN ?_ _|refine blk_drew ?_|refine blk_alloc ?_ _)); refine blk_put (cs := #[.int .i64 x7_1, .int .i64 x172001_1]) ?_ 1 _ rfl; (with_reducible repeat (first|refine blk_drewN ?_ _|refine blk_drew ?_|refine blk_alloc ?_ _)); refine blk_put (cs := #[.int .i64 x172000_1, .int .i64 x172001_1]) ?_ 0 _ rfl; (with_reducible repeat (first|refine blk_drewN ?_ _|refine blk_drew ?_|refine blk_alloc ?_ _)); exact BK171.out) Tryd.underlying66 rfl (by kernel_rfl)) rfl ?_
         exact ⟨by first|rfl|(simp [errW_none, errW_some] <;> rfl)|(simp [*, errW_none, errW_some] <;> rfl), by repeat (first|(with_reducible first|exact HB.out|apply below_alloc|apply pw_below_drewN|apply below_drew1|refine below_set ?_ GE171.out)|exact HB.out)⟩
        ·replace c24 := Bool.eq_false_iff.mpr c24
         subst c24
         have H1 : (if (wrap64 ((wrap64 (x7_1 + t173)) - a1)) > 65535 then (some (a1, 103)) else (colophonref10_row.l0 kj10 a0 a1 a2 (wrap64 (x7_1 + t173)))) = some (r1, r2) := by rw [if_neg (show ¬ (false = true) by decide)] at H; exact H
         clear H
         have H := H1
         clear H1
         by_cases c26 : (wrap64 ((wrap64 (x7_1 + t173)) - a1)) > 65535
         ·rw [if_pos c26] at H
          have c26b0 : decide (65535 < (wrap64 ((wrap64 (x7_1 + t173)) - a1))) = true := decide_eq_true c26
          clear c26
          simp only [Option.some.injEq, Prod.mk.injEq] at H
          obtain ⟨rfl, rfl⟩ := H
          have hcz27_0 : wc.cell? ⟨gb171, 0, none⟩ = some (.int .i64 x172000_1) := (blk_cell BK171.out 0).trans rfl
          have hcz27_1 : wc.cell? ⟨gb171, 1, none⟩ = some (.int .i64 x172001_1) := (blk_cell BK171.out 1).trans rfl
          have hfz27_0 := blk_frozen BK171.out 0
          have hfz27_1 := blk_frozen BK171.out 1
          go_wp2
          refine bodyPost_ret (results_cell_row rfl _ _ gb171 66 #[.int .i64 a1, .int .i64 103] (0, 0) _ rfl (by (with_reducible repeat (first|refine blk_drewN ?_ _|refine blk_drew ?_|refine blk_alloc ?_ _)); refine blk_put (cs := #[.int .i64 a1, .int .i64 x172001_1]) ?_ 1 _ rfl; (with_reducible repeat (first|refine blk_drewN ?_ _|refine blk_drew ?_|refine blk_alloc ?_ _)); refine blk_put (cs := #[.int .i64 x172000_1, .int .i64 x172001_1]) ?_ 0 _ rfl; (with_reducible repeat (first|refine blk_drewN ?_ _|refine blk_drew ?_|refine blk_alloc ?_ _)); exact BK171.out) Tryd.underlying66 rfl (by kernel_rfl)) rfl ?_
          exact ⟨by first|rfl|(simp [errW_none, errW_some] <;> rfl)|(simp [*, errW_none, errW_some] <;> rfl), by repeat (first|(with_reducible first|exact HB.out|apply below_alloc|apply pw_below_drewN|apply below_drew1|refine below_set ?_ GE171.out)|exact HB.out)⟩
         ·rw [if_neg c26] at H
          have c26b0 : decide (65535 < (wrap64 ((wrap64 (x7_1 + t173)) - a1))) = false := decide_eq_false c26
          clear c26
          have H' := Aside0.mk H
          clear H
          go_wp2
          go_roundg kj10
          case measure => have := HK1.out; have := HJ6.out; have := HJ10.out; omega
          case rel => exact ⟨(wrap64 (x7_1 + t173)), (x172000_1), (x172001_1), (by first|rfl|(simp; done)|(simp [*]; done)), H', ⟨by have := HK1.out; have := HJ6.out; have := HJ10.out; omega⟩, ⟨by (with_reducible repeat (first|refine blk_drewN ?_ _|refine blk_drew ?_|refine blk_alloc ?_ _)); exact BK171.out⟩, ⟨by repeat (first|(with_reducible first|exact HB.out|apply below_alloc|apply pw_below_drewN|apply below_drew1|refine below_set ?_ GE171.out)|exact HB.out)⟩⟩
   ·rw [if_neg c5] at H
    have c5b0 : decide (x7_1 < (a0.size : Int)) = false := decide_eq_false c5
    clear c5
    simp only [Option.some.injEq, Prod.mk.injEq] at H
    obtain ⟨rfl, rfl⟩ := H
    have hcz28_0 : wr.cell? ⟨gb171, 0, none⟩ = some (.int .i64 x172000_1) := (blk_cell BK171.out 0).trans rfl
    have hcz28_1 : wr.cell? ⟨gb171, 1, none⟩ = some (.int .i64 x172001_1) := (blk_cell BK171.out 1).trans rfl
    have hfz28_0 := blk_frozen BK171.out 0
    have hfz28_1 := blk_frozen BK171.out 1
    go_wp2
    refine bodyPost_ret (results_cell_row rfl _ _ gb171 66 #[.int .i64 x7_1, .int .i64 0] (0, 0) _ rfl (by (with_reducible repeat (first|refine blk_drewN ?_ _|refine blk_drew ?_|refine blk_alloc ?_ _)); refine blk_put (cs := #[.int .i64 x7_1, .int .i64 x172001_1]) ?_ 1 _ rfl; (with_reducible repeat (first|refine blk_drewN ?_ _|refine blk_drew ?_|refine blk_alloc ?_ _)); refine blk_put (cs := #[.int .i64 x172000_1, .int .i64 x172001_1]) ?_ 0 _ rfl; (with_reducible repeat (first|refine blk_drewN ?_ _|refine blk_drew ?_|refine blk_alloc ?_ _)); exact BK171.out) Tryd.underlying66 rfl (by kernel_rfl)) rfl ?_
    exact ⟨by first|rfl|(simp [errW_none, errW_some] <;> rfl)|(simp [*, errW_none, errW_some] <;> rfl), by repeat (first|(with_reducible first|exact HB.out|apply below_alloc|apply pw_below_drewN|apply below_drew1|refine below_set ?_ GE171.out)|exact HB.out)⟩
/-! ### colophonref10_ends: function 46 -/
def colophonref10_ends.f (k : Nat) (a0 : ByteArray) (a1 : Int) (a2 : Int) : Option (Int × Int) := if a2 = 4 then ((colophonref10_quoted.f k a0 a1 34 false).bind fun bt179 => (some (bt179.1, bt179.2))) else (if a2 = 5 then ((colophonref10_quoted.f k a0 a1 39 true).bind fun bt181 => (some (bt181.1, bt181.2))) else (if a2 = 7 then ((colophonref10_comment.f k a0 a1 false).bind fun bt183 => (some (bt183.1, bt183.2))) else (if a2 = 8 then ((colophonref10_comment.f k a0 a1 true).bind fun bt185 => (some (bt185.1, bt185.2))) else (if a2 = 6 then ((colophonref04_Sign.f k a0 a1).bind fun t187 => (some (wrap64 (a1 + (t187.size : Int)), 0))) else ((colophonref10_row.f k a0 a1 a2).bind fun bt188 => (some (bt188.1, bt188.2)))))))
theorem colophonref10_ends.mono : ∀ a0 a1 a2 k, LeO (colophonref10_ends.f k a0 a1 a2) (colophonref10_ends.f (k + 1) a0 a1 a2) := by
 intro a0 a1 a2 k
 unfold colophonref10_ends.f
 repeat' first
   | (with_reducible exact colophonref04_Sign.mono _ _ _)
   | (with_reducible exact colophonref10_comment.mono _ _ _ _)
   | (with_reducible exact colophonref10_quoted.mono _ _ _ _ _)
   | (with_reducible exact colophonref10_row.mono _ _ _ _)
   | (with_reducible exact LeO.refl _)
   | (with_reducible exact LeO.none _)
   | (with_reducible refine LeO.ite ?_ ?_)
   | (with_reducible refine LeO.bind ?_ (fun _ => ?_))
   | exact colophonref04_Sign.mono _ _ _
   | exact colophonref10_comment.mono _ _ _ _
   | exact colophonref10_quoted.mono _ _ _ _ _
   | exact colophonref10_row.mono _ _ _ _
   | exact LeO.none _
   | refine LeO.ite ?_ ?_
   | refine LeO.bind ?_ (fun _ => ?_)
set_option maxHeartbeats 8000000 in
set_option maxRecDepth 100000 in
theorem colophonref10_ends.calls (k : Nat) (a0 : ByteArray) (a1 : Int) (a2 : Int) (r1 : Int) (r2 : Int) (w : World) (h : colophonref10_ends.f k a0 a1 a2 = some (r1, r2)) :
  Calls Tryd.prog 46 #[.string a0, .int .i64 a1, .int .u8 a2] w fun e w' => e = .returned (.agg #[.int .i64 r1, .int .i64 r2]) ∧ Below w.heap.size w w' := by
 have hu66 := Tryd.underlying66
 have HB := Aside0.mk (Below.refl w.heap.size w)
 have H : (if a2 = 4 then ((colophonref10_quoted.f k a0 a1 34 false).bind fun bt179 => (some (bt179.1, bt179.2))) else (if a2 = 5 then ((colophonref10_quoted.f k a0 a1 39 true).bind fun bt181 => (some (bt181.1, bt181.2))) else (if a2 = 7 then ((colophonref10_comment.f k a0 a1 false).bind fun bt183 => (some (bt183.1, bt183.2))) else (if a2 = 8 then ((colophonref10_comment.f k a0 a1 true).bind fun bt185 => (some (bt185.1, bt185.2))) else (if a2 = 6 then ((colophonref04_Sign.f k a0 a1).bind fun t187 => (some (wrap64 (a1 + (t187.size : Int)), 0))) else ((colophonref10_row.f k a0 a1 a2).bind fun bt188 => (some (bt188.1, bt188.2)))))))) = some (r1, r2) := h
 clear h
 by_cases c4 : a2 = 4
 ·rw [if_pos c4] at H
  have c4b0 : (a2 == 4) = true := beq_iff_eq.mpr c4
  have c4b1 : (a2 != 4) = false := bne_eq_false_iff_eq.mpr c4
  clear c4
  replace H := Option.bind_eq_some_iff.mp H
  obtain ⟨⟨t179, t180⟩, A50, H⟩ := H
  replace H : (some (t179, t180)) = some (r1, r2) := H
  have A5 := Aside0.mk A50
  clear A50
  simp only [Option.some.injEq, Prod.mk.injEq] at H
  obtain ⟨rfl, rfl⟩ := H
  go_enter Tryd.func46, Tryd.ntmps46
  go_wp2_with (first|((with_reducible refine gate_dst (N:=6) rfl ?_);refine box_event ?hg (N:=6) ?hd (cs:=#[.int .i64 0,.int .i64 0]) (t:=66) ?hr ?_;(case hd => rfl);(case hg => rfl);(case hr => first|(go_simp;done)|(go_simp;rfl));intro gb178 hg w6 hbox hb;have n0_:=Aside0.mk (below_step (by repeat (first|(with_reducible first|exact HB.out|apply below_alloc|apply pw_below_drewN|apply below_drew1)|exact HB.out)) hb);have n1_:=Aside0.mk (hbox);have n2_:=Aside0.mk ((by rw [hg];exact (below_size (by repeat (first|(with_reducible first|exact HB.out|apply below_alloc|apply pw_below_drewN|apply below_drew1)|exact HB.out))) : w.heap.size ≤ gb178));have n3_:=Aside0.mk ((by rw [hg];exact (below_size (by repeat (first|(with_reducible first|exact HB.out|apply below_alloc|apply pw_below_drewN|apply below_drew1)|exact HB.out))) : w.heap.size ≤ gb178));clear HB;have HB:=n0_;have BK178:=n1_;have GW178:=n2_;have GE178:=n3_;clear n0_ n1_ n2_ n3_;clear hb hbox hg)|((with_reducible refine gate_callee (f:=65) rfl ?_);refine goesL_ (some 13) rfl rfl Tryd.func65 (by kernel_rfl) rfl #[.string a0,.int .i64 a1,.int .u8 34,.bool false] rfl (by (try simp only [List.map_toArray,List.map_cons,List.map_nil]);first|done|rfl|(simp only [List.length_drop,List.length_take];rfl)) ?_;(with_reducible refine (colophonref10_quoted.calls k a0 a1 34 false t179 t180 _ A5.out).mono ?_);rintro e w7 ⟨rfl,hb⟩;refine ⟨_,rfl,?_⟩;have n0_:=Aside0.mk (blk_below (g:=gb178) (o:=.cells #[.int .i64 0,.int .i64 0] 66 (0,0)) (by (with_reducible repeat (first|refine blk_drewN ?_ _|refine blk_drew ?_|refine blk_alloc ?_ _));exact BK178.out) hb);have n1_:=Aside0.mk (below_step (by repeat (first|(with_reducible first|exact HB.out|apply below_alloc|apply pw_below_drewN|apply below_drew1|refine below_set ?_ GE178.out)|exact HB.out)) hb);clear BK178;clear HB;have BK178:=n0_;have HB:=n1_;clear n0_ n1_;(try clear hb);(try clear hb2);(try clear hk);(try clear hi);have hcz8_0 : w7.cell? ⟨gb178,0,none⟩ = some (.int .i64 0):=(blk_cell BK178.out 0).trans rfl;have hcz8_1 : w7.cell? ⟨gb178,1,none⟩ = some (.int .i64 0):=(blk_cell BK178.out 1).trans rfl;have hfz8_0:=blk_frozen BK178.out 0;have hfz8_1:=blk_frozen BK178.out 1))
  refine bodyPost_ret (results_cell_row rfl _ _ gb178 66 #[.int .i64 t179, .int .i64 t180] (0, 0) _ rfl (by (with_reducible repeat (first|refine blk_drewN ?_ _|refine blk_drew ?_|refine blk_alloc ?_ _)); refine blk_put (cs := #[.int .i64 t179, .int .i64 0]) ?_ 1 _ rfl; (with_reducible repeat (first|refine blk_drewN ?_ _|refine blk_drew ?_|refine blk_alloc ?_ _)); refine blk_put (cs := #[.int .i64 0, .int .i64 0]) ?_ 0 _ rfl; (with_reducible repeat (first|refine blk_drewN ?_ _|refine blk_drew ?_|refine blk_alloc ?_ _)); exact BK178.out) Tryd.underlying66 rfl (by kernel_rfl)) rfl ?_
  exact ⟨by first|rfl|(simp [errW_none, errW_some] <;> rfl)|(simp [*, errW_none, errW_some] <;> rfl), by repeat (first|(with_reducible first|exact HB.out|apply below_alloc|apply pw_below_drewN|apply below_drew1|refine below_set ?_ GE178.out)|exact HB.out)⟩
 ·rw [if_neg c4] at H
  have c4b0 : (a2 == 4) = false := beq_eq_false_iff_ne.mpr c4
  have c4b1 : (a2 != 4) = true := bne_iff_ne.mpr c4
  by_cases c9 : a2 = 5
  ·rw [if_pos c9] at H
   have c9b0 : (a2 == 5) = true := beq_iff_eq.mpr c9
   have c9b1 : (a2 != 5) = false := bne_eq_false_iff_eq.mpr c9
   clear c9
   replace H := Option.bind_eq_some_iff.mp H
   obtain ⟨⟨t181, t182⟩, A100, H⟩ := H
   replace H : (some (t181, t182)) = some (r1, r2) := H
   have A10 := Aside0.mk A100
   clear A100
   simp only [Option.some.injEq, Prod.mk.injEq] at H
   obtain ⟨rfl, rfl⟩ := H
   go_enter Tryd.func46, Tryd.ntmps46
   go_wp2_with (first|((with_reducible refine gate_dst (N:=6) rfl ?_);refine box_event ?hg (N:=6) ?hd (cs:=#[.int .i64 0,.int .i64 0]) (t:=66) ?hr ?_;(case hd => rfl);(case hg => rfl);(case hr => first|(go_simp;done)|(go_simp;rfl));intro gb178 hg w11 hbox hb;have n0_:=Aside0.mk (below_step (by repeat (first|(with_reducible first|exact HB.out|apply below_alloc|apply pw_below_drewN|apply below_drew1)|exact HB.out)) hb);have n1_:=Aside0.mk (hbox);have n2_:=Aside0.mk ((by rw [hg];exact (below_size (by repeat (first|(with_reducible first|exact HB.out|apply below_alloc|apply pw_below_drewN|apply below_drew1)|exact HB.out))) : w.heap.size ≤ gb178));have n3_:=Aside0.mk ((by rw [hg];exact (below_size (by repeat (first|(with_reducible first|exact HB.out|apply below_alloc|apply pw_below_drewN|apply below_drew1)|exact HB.out))) : w.heap.size ≤ gb178));clear HB;have HB:=n0_;have BK178:=n1_;have GW178:=n2_;have GE178:=n3_;clear n0_ n1_ n2_ n3_;clear hb hbox hg)|((with_reducible refine gate_callee (f:=65) rfl ?_);refine goesL_ (some 18) rfl rfl Tryd.func65 (by kernel_rfl) rfl #[.string a0,.int .i64 a1,.int .u8 39,.bool true] rfl (by (try simp only [List.map_toArray,List.map_cons,List.map_nil]);first|done|rfl|(simp only [List.length_drop,List.length_take];rfl)) ?_;(with_reducible refine (colophonref10_quoted.calls k a0 a1 39 true t181 t182 _ A10.out).mono ?_);rintro e w12 ⟨rfl,hb⟩;refine ⟨_,rfl,?_⟩;have n0_:=Aside0.mk (blk_below (g:=gb178) (o:=.cells #[.int .i64 0,.int .i64 0] 66 (0,0)) (by (with_reducible repeat (first|refine blk_drewN ?_ _|refine blk_drew ?_|refine blk_alloc ?_ _));exact BK178.out) hb);have n1_:=Aside0.mk (below_step (by repeat (first|(with_reducible first|exact HB.out|apply below_alloc|apply pw_below_drewN|apply below_drew1|refine below_set ?_ GE178.out)|exact HB.out)) hb);clear BK178;clear HB;have BK178:=n0_;have HB:=n1_;clear n0_ n1_;(try clear hb);(try clear hb2);(try clear hk);(try clear hi);have hcz13_0 : w12.cell? ⟨gb178,0,none⟩ = some (.int .i64 0):=(blk_cell BK178.out 0).trans rfl;have hcz13_1 : w12.cell? ⟨gb178,1,none⟩ = some (.int .i64 0):=(blk_cell BK178.out 1).trans rfl;have hfz13_0:=blk_frozen BK178.out 0;have hfz13_1:=blk_frozen BK178.out 1))
   refine bodyPost_ret (results_cell_row rfl _ _ gb178 66 #[.int .i64 t181, .int .i64 t182] (0, 0) _ rfl (by (with_reducible repeat (first|refine blk_drewN ?_ _|refine blk_drew ?_|refine blk_alloc ?_ _)); refine blk_put (cs := #[.int .i64 t181, .int .i64 0]) ?_ 1 _ rfl; (with_reducible repeat (first|refine blk_drewN ?_ _|refine blk_drew ?_|refine blk_alloc ?_ _)); refine blk_put (cs := #[.int .i64 0, .int .i64 0]) ?_ 0 _ rfl; (with_reducible repeat (first|refine blk_drewN ?_ _|refine blk_drew ?_|refine blk_alloc ?_ _)); exact BK178.out) Tryd.underlying66 rfl (by kernel_rfl)) rfl ?_
   exact ⟨by first|rfl|(simp [errW_none, errW_some] <;> rfl)|(simp [*, errW_none, errW_some] <;> rfl), by repeat (first|(with_reducible first|exact HB.out|apply below_alloc|apply pw_below_drewN|apply below_drew1|refine below_set ?_ GE178.out)|exact HB.out)⟩
  ·rw [if_neg c9] at H
   have c9b0 : (a2 == 5) = false := beq_eq_false_iff_ne.mpr c9
   have c9b1 : (a2 != 5) = true := bne_iff_ne.mpr c9
   by_cases c14 : a2 = 7
   ·rw [if_pos c14] at H
    have c14b0 : (a2 == 7) = true := beq_iff_eq.mpr c14
    have c14b1 : (a2 != 7) = false := bne_eq_false_iff_eq.mpr c14
    clear c14
    replace H := Option.bind_eq_some_iff.mp H
    obtain ⟨⟨t183, t184⟩, A150, H⟩ := H
    replace H : (some (t183, t184)) = some (r1, r2) := H
    have A15 := Aside0.mk A150
    clear A150
    simp only [Option.some.injEq, Prod.mk.injEq] at H
    obtain ⟨rfl, rfl⟩ := H
    go_enter Tryd.func46, Tryd.ntmps46
    go_wp2_with (first|((with_reducible refine gate_dst (N:=6) rfl ?_);refine box_event ?hg (N:=6) ?hd (cs:=#[.int .i64 0,.int .i64 0]) (t:=66) ?hr ?_;(case hd => rfl);(case hg => rfl);(case hr => first|(go_simp;done)|(go_simp;rfl));intro gb178 hg w16 hbox hb;have n0_:=Aside0.mk (below_step (by repeat (first|(with_reducible first|exact HB.out|apply below_alloc|apply pw_below_drewN|apply below_drew1)|exact HB.out)) hb);have n1_:=Aside0.mk (hbox);have n2_:=Aside0.mk ((by rw [hg];exact (below_size (by repeat (first|(with_reducible first|exact HB.out|apply below_alloc|apply pw_below_drewN|apply below_drew1)|exact HB.out))) : w.heap.size ≤ gb178));have n3_:=Aside0.mk ((by rw [hg];exact (below_size (by repeat (first|(with_reducible first|exact HB.out|apply below_alloc|apply pw_below_drewN|apply below_drew1)|exact HB.out))) : w.heap.size ≤ gb178));clear HB;have HB:=n0_;have BK178:=n1_;have GW178:=n2_;have GE178:=n3_;clear n0_ n1_ n2_ n3_;clear hb hbox hg)|((with_reducible refine gate_callee (f:=66) rfl ?_);refine goesL_ (some 23) rfl rfl Tryd.func66 (by kernel_rfl) rfl #[.string a0,.int .i64 a1,.bool false] rfl (by (try simp only [List.map_toArray,List.map_cons,List.map_nil]);first|done|rfl|(simp only [List.length_drop,List.length_take];rfl)) ?_;(with_reducible refine (colophonref10_comment.calls k a0 a1 false t183 t184 _ A15.out).mono ?_);rintro e w17 ⟨rfl,hb⟩;refine ⟨_,rfl,?_⟩;have n0_:=Aside0.mk (blk_below (g:=gb178) (o:=.cells #[.int .i64 0,.int .i64 0] 66 (0,0)) (by (with_reducible repeat (first|refine blk_drewN ?_ _|refine blk_drew ?_|refine blk_alloc ?_ _));exact BK178.out) hb);have n1_:=Aside0.mk (below_step (by repeat (first|(with_reducible first|exact HB.out|apply below_alloc|apply pw_below_drewN|apply below_drew1|refine below_set ?_ GE178.out)|exact HB.out)) hb);clear BK178;clear HB;have BK178:=n0_;have HB:=n1_;clear n0_ n1_;(try clear hb);(try clear hb2);(try clear hk);(try clear hi);have hcz18_0 : w17.cell? ⟨gb178,0,none⟩ = some (.int .i64 0):=(blk_cell BK178.out 0).trans rfl;have hcz18_1 : w17.cell? ⟨gb178,1,none⟩ = some (.int .i64 0):=(blk_cell BK178.out 1).trans rfl;have hfz18_0:=blk_frozen BK178.out 0;have hfz18_1:=blk_frozen BK178.out 1))
    refine bodyPost_ret (results_cell_row rfl _ _ gb178 66 #[.int .i64 t183, .int .i64 t184] (0, 0) _ rfl (by (with_reducible repeat (first|refine blk_drewN ?_ _|refine blk_drew ?_|refine blk_alloc ?_ _)); refine blk_put (cs := #[.int .i64 t183, .int .i64 0]) ?_ 1 _ rfl; (with_reducible repeat (first|refine blk_drewN ?_ _|refine blk_drew ?_|refine blk_alloc ?_ _)); refine blk_put (cs := #[.int .i64 0, .int .i64 0]) ?_ 0 _ rfl; (with_reducible repeat (first|refine blk_drewN ?_ _|refine blk_drew ?_|refine blk_alloc ?_ _)); exact BK178.out) Tryd.underlying66 rfl (by kernel_rfl)) rfl ?_
    exact ⟨by first|rfl|(simp [errW_none, errW_some] <;> rfl)|(simp [*, errW_none, errW_some] <;> rfl), by repeat (first|(with_reducible first|exact HB.out|apply below_alloc|apply pw_below_drewN|apply below_drew1|refine below_set ?_ GE178.out)|exact HB.out)⟩
   ·rw [if_neg c14] at H
    have c14b0 : (a2 == 7) = false := beq_eq_false_iff_ne.mpr c14
    have c14b1 : (a2 != 7) = true := bne_iff_ne.mpr c14
    by_cases c19 : a2 = 8
    ·rw [if_pos c19] at H
     have c19b0 : (a2 == 8) = true := beq_iff_eq.mpr c19
     have c19b1 : (a2 != 8) = false := bne_eq_false_iff_eq.mpr c19
     clear c19
     replace H := Option.bind_eq_some_iff.mp H
     obtain ⟨⟨t185, t186⟩, A200, H⟩ := H
     replace H : (some (t185, t186)) = some (r1, r2) := H
     have A20 := Aside0.mk A200
     clear A200
     simp only [Option.some.injEq, Prod.mk.injEq] at H
     obtain ⟨rfl, rfl⟩ := H
     go_enter Tryd.func46, Tryd.ntmps46
     go_wp2_with (first|((with_reducible refine gate_dst (N:=6) rfl ?_);refine box_event ?hg (N:=6) ?hd (cs:=#[.int .i64 0,.int .i64 0]) (t:=66) ?hr ?_;(case hd => rfl);(case hg => rfl);(case hr => first|(go_simp;done)|(go_simp;rfl));intro gb178 hg w21 hbox hb;have n0_:=Aside0.mk (below_step (by repeat (first|(with_reducible first|exact HB.out|apply below_alloc|apply pw_below_drewN|apply below_drew1)|exact HB.out)) hb);have n1_:=Aside0.mk (hbox);have n2_:=Aside0.mk ((by rw [hg];exact (below_size (by repeat (first|(with_reducible first|exact HB.out|apply below_alloc|apply pw_below_drewN|apply below_drew1)|exact HB.out))) : w.heap.size ≤ gb178));have n3_:=Aside0.mk ((by rw [hg];exact (below_size (by repeat (first|(with_reducible first|exact HB.out|apply below_alloc|apply pw_below_drewN|apply below_drew1)|exact HB.out))) : w.heap.size ≤ gb178));clear HB;have HB:=n0_;have BK178:=n1_;have GW178:=n2_;have GE178:=n3_;clear n0_ n1_ n2_ n3_;clear hb hbox hg)|((with_reducible refine gate_callee (f:=66) rfl ?_);refine goesL_ (some 28) rfl rfl Tryd.func66 (by kernel_rfl) rfl #[.string a0,.int .i64 a1,.bool true] rfl (by (try simp only [List.map_toArray,List.map_cons,List.map_nil]);first|done|rfl|(simp only [List.length_drop,List.length_take];rfl)) ?_;(with_reducible refine (colophonref10_comment.calls k a0 a1 true t185 t186 _ A20.out).mono ?_);rintro e w22 ⟨rfl,hb⟩;refine ⟨_,rfl,?_⟩;have n0_:=Aside0.mk (blk_below (g:=gb178) (o:=.cells #[.int .i64 0,.int .i64 0] 66 (0,0)) (by (with_reducible repeat (first|refine blk_drewN ?_ _|refine blk_drew ?_|refine blk_alloc ?_ _));exact BK178.out) hb);have n1_:=Aside0.mk (below_step (by repeat (first|(with_reducible first|exact HB.out|apply below_alloc|apply pw_below_drewN|apply below_drew1|refine below_set ?_ GE178.out)|exact HB.out)) hb);clear BK178;clear HB;have BK178:=n0_;have HB:=n1_;clear n0_ n1_;(try clear hb);(try clear hb2);(try clear hk);(try clear hi);have hcz23_0 : w22.cell? ⟨gb178,0,none⟩ = some (.int .i64 0):=(blk_cell BK178.out 0).trans rfl;have hcz23_1 : w22.cell? ⟨gb178,1,none⟩ = some (.int .i64 0):=(blk_cell BK178.out 1).trans rfl;have hfz23_0:=blk_frozen BK178.out 0;have hfz23_1:=blk_frozen BK178.out 1))
     refine bodyPost_ret (results_cell_row rfl _ _ gb178 66 #[.int .i64 t185, .int .i64 t186] (0, 0) _ rfl (by (with_reducible repeat (first|refine blk_drewN ?_ _|refine blk_drew ?_|refine blk_alloc ?_ _)); refine blk_put (cs := #[.int .i64 t185, .int .i64 0]) ?_ 1 _ rfl; (with_reducible repeat (first|refine blk_drewN ?_ _|refine blk_drew ?_|refine blk_alloc ?_ _)); refine blk_put (cs := #[.int .i64 0, .int .i64 0]) ?_ 0 _ rfl; (with_reducible repeat (first|refine blk_drewN ?_ _|refine blk_drew ?_|refine blk_alloc ?_ _)); exact BK178.out) Tryd.underlying66 rfl (by kernel_rfl)) rfl ?_
     exact ⟨by first|rfl|(simp [errW_none, errW_some] <;> rfl)|(simp [*, errW_none, errW_some] <;> rfl), by repeat (first|(with_reducible first|exact HB.out|apply below_alloc|apply pw_below_drewN|apply below_drew1|refine below_set ?_ GE178.out)|exact HB.out)⟩
    ·rw [if_neg c19] at H
     have c19b0 : (a2 == 8) = false := beq_eq_false_iff_ne.mpr c19
     have c19b1 : (a2 != 8) = true := bne_iff_ne.mpr c19
     by_cases c24 : a2 = 6
     ·rw [if_pos c24] at H
      have c24b0 : (a2 == 6) = true := beq_iff_eq.mpr c24
      have c24b1 : (a2 != 6) = false := bne_eq_false_iff_eq.mpr c24
      clear c24
      replace H := Option.bind_eq_some_iff.mp H
      obtain ⟨t187, A250, H⟩ := H
      replace H : (some (wrap64 (a1 + (t187.size : Int)), 0)) = some (r1, r2) := H
      have A25 := Aside0.mk A250
      clear A250
      simp only [Option.some.injEq, Prod.mk.injEq] at H
      obtain ⟨rfl, rfl⟩ := H
      go_enter Tryd.func46, Tryd.ntmps46
      go_wp2_with (first|((with_reducible refine gate_dst (N:=6) rfl ?_);refine box_event ?hg (N:=6) ?hd (cs:=#[.int .i64 0,.int .i64 0]) (t:=66) ?hr ?_;(case hd => rfl);(case hg => rfl);(case hr => first|(go_simp;done)|(go_simp;rfl));intro gb178 hg w26 hbox hb;have n0_:=Aside0.mk (below_step (by repeat (first|(with_reducible first|exact HB.out|apply below_alloc|apply pw_below_drewN|apply below_drew1)|exact HB.out)) hb);have n1_:=Aside0.mk (hbox);have n2_:=Aside0.mk ((by rw [hg];exact (below_size (by repeat (first|(with_reducible first|exact HB.out|apply below_alloc|apply pw_below_drewN|apply below_drew1)|exact HB.out))) : w.heap.size ≤ gb178));have n3_:=Aside0.mk ((by rw [hg];exact (below_size (by repeat (first|(with_reducible first|exact HB.out|apply below_alloc|apply pw_below_drewN|apply below_drew1)|exact HB.out))) : w.heap.size ≤ gb178));clear HB;have HB:=n0_;have BK178:=n1_;have GW178:=n2_;have GE178:=n3_;clear n0_ n1_ n2_ n3_;clear hb hbox hg)|((with_reducible refine gate_callee (f:=63) rfl ?_);refine goesL_ (some 33) rfl rfl Tryd.func63 (by kernel_rfl) rfl #[.string a0,.int .i64 a1] rfl (by (try simp only [List.map_toArray,List.map_cons,List.map_nil]);first|done|rfl|(simp only [List.length_drop,List.length_take];rfl)) ?_;(with_reducible refine (colophonref04_Sign.calls k a0 a1 t187 _ A25.out).mono ?_);rintro e w27 ⟨rfl,hb⟩;refine ⟨_,rfl,?_⟩;have n0_:=Aside0.mk (blk_below (g:=gb178) (o:=.cells #[.int .i64 0,.int .i64 0] 66 (0,0)) (by (with_reducible repeat (first|refine blk_drewN ?_ _|refine blk_drew ?_|refine blk_alloc ?_ _));exact BK178.out) hb);have n1_:=Aside0.mk (below_step (by repeat (first|(with_reducible first|exact HB.out|apply below_alloc|apply pw_below_drewN|apply below_drew1|refine below_set ?_ GE178.out)|exact HB.out)) hb);clear BK178;clear HB;have BK178:=n0_;have HB:=n1_;clear n0_ n1_;(try clear hb);(try clear hb2);(try clear hk);(try clear hi);have hcz28_0 : w27.cell? ⟨gb178,0,none⟩ = some (.int .i64 0):=(blk_cell BK178.out 0).trans rfl;have hcz28_1 : w27.cell? ⟨gb178,1,none⟩ = some (.int .i64 0):=(blk_cell BK178.out 1).trans rfl;have hfz28_0:=blk_frozen BK178.out 0;have hfz28_1:=blk_frozen BK178.out 1))
      refine bodyPost_ret (results_cell_row rfl _ _ gb178 66 #[.int .i64 (wrap64 (a1 + (t187.size : Int))), .int .i64 0] (0, 0) _ rfl (by (with_reducible repeat (first|refine blk_drewN ?_ _|refine blk_drew ?_|refine blk_alloc ?_ _)); refine blk_put (cs := #[.int .i64 (wrap64 (a1 + (t187.size : Int))), .int .i64 0]) ?_ 1 _ rfl; (with_reducible repeat (first|refine blk_drewN ?_ _|refine blk_drew ?_|refine blk_alloc ?_ _)); refine blk_put (cs := #[.int .i64 0, .int .i64 0]) ?_ 0 _ rfl; (with_reducible repeat (first|refine blk_drewN ?_ _|refine blk_drew ?_|refine blk_alloc ?_ _)); exact BK178.out) Tryd.underlying66 rfl (by kernel_rfl)) rfl ?_
      exact ⟨by first|rfl|(simp [errW_none, errW_some] <;> rfl)|(simp [*, errW_none, errW_some] <;> rfl), by repeat (first|(with_reducible first|exact HB.out|apply below_alloc|apply pw_below_drewN|apply below_drew1|refine below_set ?_ GE178.out)|exact HB.out)⟩
     ·rw [if_neg c24] at H
      have c24b0 : (a2 == 6) = false := beq_eq_false_iff_ne.mpr c24
      have c24b1 : (a2 != 6) = true := bne_iff_ne.mpr c24
      replace H := Option.bind_eq_some_iff.mp H
      obtain ⟨⟨t188, t189⟩, A290, H⟩ := H
      replace H : (some (t188, t189)) = some (r1, r2) := H
      have A29 := Aside0.mk A290
      clear A290
      simp only [Option.some.injEq, Prod.mk.injEq] at H
      obtain ⟨rfl, rfl⟩ := H
      go_enter Tryd.func46, Tryd.ntmps46
      go_wp2_with (first|((with_reducible refine gate_dst (N:=6) rfl ?_);refine box_event ?hg (N:=6) ?hd (cs:=#[.int .i64 0,.int .i64 0]) (t:=66) ?hr ?_;(case hd => rfl);(case hg => rfl);(case hr => first|(go_simp;done)|(go_simp;rfl));intro gb178 hg w30 hbox hb;have n0_:=Aside0.mk (below_step (by repeat (first|(with_reducible first|exact HB.out|apply below_alloc|apply pw_below_drewN|apply below_drew1)|exact HB.out)) hb);have n1_:=Aside0.mk (hbox);have n2_:=Aside0.mk ((by rw [hg];exact (below_size (by repeat (first|(with_reducible first|exact HB.out|apply below_alloc|apply pw_below_drewN|apply below_drew1)|exact HB.out))) : w.heap.size ≤ gb178));have n3_:=Aside0.mk ((by rw [hg];exact (below_size (by repeat (first|(with_reducible first|exact HB.out|apply below_alloc|apply pw_below_drewN|apply below_drew1)|exact HB.out))) : w.heap.size ≤ gb178));clear HB;have HB:=n0_;have BK178:=n1_;have GW178:=n2_;have GE178:=n3_;clear n0_ n1_ n2_ n3_;clear hb hbox hg)|((with_reducible refine gate_callee (f:=67) rfl ?_);refine goesL_ (some 42) rfl rfl Tryd.func67 (by kernel_rfl) rfl #[.string a0,.int .i64 a1,.int .u8 a2] rfl (by (try simp only [List.map_toArray,List.map_cons,List.map_nil]);first|done|rfl|(simp only [List.length_drop,List.length_take];rfl)) ?_;(with_reducible refine (colophonref10_row.calls k a0 a1 a2 t188 t189 _ A29.out).mono ?_);rintro e w31 ⟨rfl,hb⟩;refine ⟨_,rfl,?_⟩;have n0_:=Aside0.mk (blk_below (g:=gb178) (o:=.cells #[.int .i64 0,.int .i64 0] 66 (0,0)) (by (with_reducible repeat (first|refine blk_drewN ?_ _|refine blk_drew ?_|refine blk_alloc ?_ _));exact BK178.out) hb);have n1_:=Aside0.mk (below_step (by repeat (first|(with_reducible first|exact HB.out|apply below_alloc|apply pw_below_drewN|apply below_drew1|refine below_set ?_ GE178.out)|exact HB.out)) hb);clear BK178;clear HB;have BK178:=n0_;have HB:=n1_;clear n0_ n1_;(try clear hb);(try clear hb2);(try clear hk);(try clear hi);have hcz32_0 : w31.cell? ⟨gb178,0,none⟩ = some (.int .i64 0):=(blk_cell BK178.out 0).trans rfl;have hcz32_1 : w31.cell? ⟨gb178,1,none⟩ = some (.int .i64 0):=(blk_cell BK178.out 1).trans rfl;have hfz32_0:=blk_frozen BK178.out 0;have hfz32_1:=blk_frozen BK178.out 1))
      refine bodyPost_ret (results_cell_row rfl _ _ gb178 66 #[.int .i64 t188, .int .i64 t189] (0, 0) _ rfl (by (with_reducible repeat (first|refine blk_drewN ?_ _|refine blk_drew ?_|refine blk_alloc ?_ _)); refine blk_put (cs := #[.int .i64 t188, .int .i64 0]) ?_ 1 _ rfl; (with_reducible repeat (first|refine blk_drewN ?_ _|refine blk_drew ?_|refine blk_alloc ?_ _)); refine blk_put (cs := #[.int .i64 0, .int .i64 0]) ?_ 0 _ rfl; (with_reducible repeat (first|refine blk_drewN ?_ _|refine blk_drew ?_|refine blk_alloc ?_ _)); exact BK178.out) Tryd.underlying66 rfl (by kernel_rfl)) rfl ?_
      exact ⟨by first|rfl|(simp [errW_none, errW_some] <;> rfl)|(simp [*, errW_none, errW_some] <;> rfl), by repeat (first|(with_reducible first|exact HB.out|apply below_alloc|apply pw_below_drewN|apply below_drew1|refine below_set ?_ GE178.out)|exact HB.out)⟩
/-! ### colophonref04_Keys: function 68 -/
def colophonref04_Keys.f  : Option (List ByteArray) := some (([(⟨#[97, 110, 100]⟩ : ByteArray), (⟨#[97, 114, 114, 97, 121]⟩ : ByteArray), (⟨#[98, 101, 103, 105, 110]⟩ : ByteArray), (⟨#[99, 111, 110, 115, 116]⟩ : ByteArray), (⟨#[100, 111]⟩ : ByteArray), (⟨#[101, 108, 105, 102]⟩ : ByteArray), (⟨#[101, 108, 115, 101]⟩ : ByteArray), (⟨#[101, 110, 100]⟩ : ByteArray), (⟨#[102, 111, 114]⟩ : ByteArray), (⟨#[105, 102]⟩ : ByteArray), (⟨#[110, 111, 116]⟩ : ByteArray), (⟨#[111, 102]⟩ : ByteArray), (⟨#[111, 114]⟩ : ByteArray), (⟨#[112, 114, 111, 99]⟩ : ByteArray), (⟨#[112, 114, 111, 103, 114, 97, 109]⟩ : ByteArray), (⟨#[114, 101, 99, 111, 114, 100]⟩ : ByteArray), (⟨#[114, 101, 112, 101, 97, 116]⟩ : ByteArray), (⟨#[114, 101, 116, 117, 114, 110]⟩ : ByteArray), (⟨#[115, 107, 105, 112]⟩ : ByteArray), (⟨#[116, 104, 101, 110]⟩ : ByteArray), (⟨#[116, 111]⟩ : ByteArray), (⟨#[117, 110, 116, 105, 108]⟩ : ByteArray), (⟨#[118, 97, 114]⟩ : ByteArray), (⟨#[119, 104, 105, 108, 101]⟩ : ByteArray)] : List ByteArray))
set_option maxHeartbeats 8000000 in
set_option maxRecDepth 100000 in
theorem colophonref04_Keys.calls  (r : List ByteArray) (w : World) (h : colophonref04_Keys.f  = some r) :
  Calls Tryd.prog 68 #[] w fun e w' => ∃ v0_ : Value, e = .returned (v0_) ∧ Kd.R Kd.string 9 w' w.heap.size (fun _ => True) v0_ r ∧ Below w.heap.size w w' := by
 have HB := Aside0.mk (Below.refl w.heap.size w)
 have H : (some (([(⟨#[97, 110, 100]⟩ : ByteArray), (⟨#[97, 114, 114, 97, 121]⟩ : ByteArray), (⟨#[98, 101, 103, 105, 110]⟩ : ByteArray), (⟨#[99, 111, 110, 115, 116]⟩ : ByteArray), (⟨#[100, 111]⟩ : ByteArray), (⟨#[101, 108, 105, 102]⟩ : ByteArray), (⟨#[101, 108, 115, 101]⟩ : ByteArray), (⟨#[101, 110, 100]⟩ : ByteArray), (⟨#[102, 111, 114]⟩ : ByteArray), (⟨#[105, 102]⟩ : ByteArray), (⟨#[110, 111, 116]⟩ : ByteArray), (⟨#[111, 102]⟩ : ByteArray), (⟨#[111, 114]⟩ : ByteArray), (⟨#[112, 114, 111, 99]⟩ : ByteArray), (⟨#[112, 114, 111, 103, 114, 97, 109]⟩ : ByteArray), (⟨#[114, 101, 99, 111, 114, 100]⟩ : ByteArray), (⟨#[114, 101, 112, 101, 97, 116]⟩ : ByteArray), (⟨#[114, 101, 116, 117, 114, 110]⟩ : ByteArray), (⟨#[115, 107, 105, 112]⟩ : ByteArray), (⟨#[116, 104, 101, 110]⟩ : ByteArray), (⟨#[116, 111]⟩ : ByteArray), (⟨#[117, 110, 116, 105, 108]⟩ : ByteArray), (⟨#[118, 97, 114]⟩ : ByteArray), (⟨#[119, 104, 105, 108, 101]⟩ : ByteArray)] : List ByteArray))) = some r := h
 clear h
 obtain ⟨y190, hy190⟩ : ∃ y_ : List ByteArray, y_ = (([(⟨#[97, 110, 100]⟩ : ByteArray), (⟨#[97, 114, 114, 97, 121]⟩ : ByteArray), (⟨#[98, 101, 103, 105, 110]⟩ : ByteArray), (⟨#[99, 111, 110, 115, 116]⟩ : ByteArray), (⟨#[100, 111]⟩ : ByteArray), (⟨#[101, 108, 105, 102]⟩ : ByteArray), (⟨#[101, 108, 115, 101]⟩ : ByteArray), (⟨#[101, 110, 100]⟩ : ByteArray), (⟨#[102, 111, 114]⟩ : ByteArray), (⟨#[105, 102]⟩ : ByteArray), (⟨#[110, 111, 116]⟩ : ByteArray), (⟨#[111, 102]⟩ : ByteArray), (⟨#[111, 114]⟩ : ByteArray), (⟨#[112, 114, 111, 99]⟩ : ByteArray), (⟨#[112, 114, 111, 103, 114, 97, 109]⟩ : ByteArray), (⟨#[114, 101, 99, 111, 114, 100]⟩ : ByteArray), (⟨#[114, 101, 112, 101, 97, 116]⟩ : ByteArray), (⟨#[114, 101, 116, 117, 114, 110]⟩ : ByteArray), (⟨#[115, 107, 105, 112]⟩ : ByteArray), (⟨#[116, 104, 101, 110]⟩ : ByteArray), (⟨#[116, 111]⟩ : ByteArray), (⟨#[117, 110, 116, 105, 108]⟩ : ByteArray), (⟨#[118, 97, 114]⟩ : ByteArray), (⟨#[119, 104, 105, 108, 101]⟩ : ByteArray)] : List ByteArray)) := ⟨_, rfl⟩
 replace H : (some y190) = some r := by first|(rw [hy190]; with_reducible exact H)|(have H2_ := (Option.bind_some _ _).symm.trans H; rw [hy190]; with_reducible exact H2_)|(have H2_ := (Option.bind_some _ _).symm.trans H; with_reducible exact H2_)|with_reducible exact H|(rw [hy190]; exact H)|exact H
 have Ny190 := Aside0.mk hy190
 clear hy190
 obtain rfl := Option.some.inj H
 go_enter Tryd.func68, Tryd.ntmps68
 go_wp2_with (first|((with_reducible refine gate_dst (N:=1) rfl ?_);refine Kd.R_lit Kd.string _ 9 ?hg (N:=1) ?hd (xs:=([(⟨#[97,110,100]⟩ : ByteArray),(⟨#[97,114,114,97,121]⟩ : ByteArray),(⟨#[98,101,103,105,110]⟩ : ByteArray),(⟨#[99,111,110,115,116]⟩ : ByteArray),(⟨#[100,111]⟩ : ByteArray),(⟨#[101,108,105,102]⟩ : ByteArray),(⟨#[101,108,115,101]⟩ : ByteArray),(⟨#[101,110,100]⟩ : ByteArray),(⟨#[102,111,114]⟩ : ByteArray),(⟨#[105,102]⟩ : ByteArray),(⟨#[110,111,116]⟩ : ByteArray),(⟨#[111,102]⟩ : ByteArray),(⟨#[111,114]⟩ : ByteArray),(⟨#[112,114,111,99]⟩ : ByteArray),(⟨#[112,114,111,103,114,97,109]⟩ : ByteArray),(⟨#[114,101,99,111,114,100]⟩ : ByteArray),(⟨#[114,101,112,101,97,116]⟩ : ByteArray),(⟨#[114,101,116,117,114,110]⟩ : ByteArray),(⟨#[115,107,105,112]⟩ : ByteArray),(⟨#[116,104,101,110]⟩ : ByteArray),(⟨#[116,111]⟩ : ByteArray),(⟨#[117,110,116,105,108]⟩ : ByteArray),(⟨#[118,97,114]⟩ : ByteArray),(⟨#[119,104,105,108,101]⟩ : ByteArray)] : List ByteArray)) (inner:=[.string (⟨#[97,110,100]⟩ : ByteArray),.string (⟨#[97,114,114,97,121]⟩ : ByteArray),.string (⟨#[98,101,103,105,110]⟩ : ByteArray),.string (⟨#[99,111,110,115,116]⟩ : ByteArray),.string (⟨#[100,111]⟩ : ByteArray),.string (⟨#[101,108,105,102]⟩ : ByteArray),.string (⟨#[101,108,115,101]⟩ : ByteArray),.string (⟨#[101,110,100]⟩ : ByteArray),.string (⟨#[102,111,114]⟩ : ByteArray),.string (⟨#[105,102]⟩ : ByteArray),.string (⟨#[110,111,116]⟩ : ByteArray),.string (⟨#[111,102]⟩ : ByteArray),.string (⟨#[111,114]⟩ : ByteArray),.string (⟨#[112,114,111,99]⟩ : ByteArray),.string (⟨#[112,114,111,103,114,97,109]⟩ : ByteArray),.string (⟨#[114,101,99,111,114,100]⟩ : ByteArray),.string (⟨#[114,101,112,101,97,116]⟩ : ByteArray),.string (⟨#[114,101,116,117,114,110]⟩ : ByteArray),.string (⟨#[115,107,105,112]⟩ : ByteArray),.string (⟨#[116,104,101,110]⟩ : ByteArray),.string (⟨#[116,111]⟩ : ByteArray),.string (⟨#[117,110,116,105,108]⟩ : ByteArray),.string (⟨#[118,97,114]⟩ : ByteArray),.string (⟨#[119,104,105,108,101]⟩ : ByteArray)]) (ok:=fun _ => True) (okp:=fun _ => True) ?hr ?hp (fun _ hk => hk) trivial (Below.refl _ _) (Nat.le_refl _) (by simp) ?_;(case hd => rfl);(case hg => rfl);(case hr => first|(go_simp;done)|(go_simp;rfl));(case hp => exact (Reps.one (show Kd.M Kd.string _ _ _ (⟨#[97,110,100]⟩ : ByteArray) [.string (⟨#[97,110,100]⟩ : ByteArray)] from rfl) (Reps.one (show Kd.M Kd.string _ _ _ (⟨#[97,114,114,97,121]⟩ : ByteArray) [.string (⟨#[97,114,114,97,121]⟩ : ByteArray)] from rfl) (Reps.one (show Kd.M Kd.string _ _ _ (⟨#[98,101,103,105,110]⟩ : ByteArray) [.string (⟨#[98,101,103,105,110]⟩ : ByteArray)] from rfl) (Reps.one (show Kd.M Kd.string _ _ _ (⟨#[99,111,110,115,116]⟩ : ByteArray) [.string (⟨#[99,111,110,115,116]⟩ : ByteArray)] from rfl) (Reps.one (show Kd.M Kd.string _ _ _ (⟨#[100,111]⟩ : ByteArray) [.string (⟨#[100,111]⟩ : ByteArray)] from rfl) (Reps.one (show Kd.M Kd.string _ _ _ (⟨#[101,108,105,102]⟩ : ByteArray) [.string (⟨#[101,108,105,102]⟩ : ByteArray)] from rfl) (Reps.one (show Kd.M Kd.string _ _ _ (⟨#[101,108,115,101]⟩ : ByteArray) [.string (⟨#[101,108,115,101]⟩ : ByteArray)] from rfl) (Reps.one (show Kd.M Kd.string _ _ _ (⟨#[101,110,100]⟩ : ByteArray) [.string (⟨#[101,110,100]⟩ : ByteArray)] from rfl) (Reps.one (show Kd.M Kd.string _ _ _ (⟨#[102,111,114]⟩ : ByteArray) [.string (⟨#[102,111,114]⟩ : ByteArray)] from rfl) (Reps.one (show Kd.M Kd.string _ _ _ (⟨#[105,102]⟩ : ByteArray) [.string (⟨#[105,102]⟩ : ByteArray)] from rfl) (Reps.one (show Kd.M Kd.string _ _ _ (⟨#[110,111,116]⟩ : ByteArray) [.string (⟨#[110,111,116]⟩ : ByteArray)] from rfl) (Reps.one (show Kd.M Kd.string _ _ _ (⟨#[111,102]⟩ : ByteArray) [.string (⟨#[111,102]⟩ : ByteArray)] from rfl) (Reps.one (show Kd.M Kd.string _ _ _ (⟨#[111,114]⟩ : ByteArray) [.string (⟨#[111,114]⟩ : ByteArray)] from rfl) (Reps.one (show Kd.M Kd.string _ _ _ (⟨#[112,114,111,99]⟩ : ByteArray) [.string (⟨#[112,114,111,99]⟩ : ByteArray)] from rfl) (Reps.one (show Kd.M Kd.string _ _ _ (⟨#[112,114,111,103,114,97,109]⟩ : ByteArray) [.string (⟨#[112,114,111,103,114,97,109]⟩ : ByteArray)] from rfl) (Reps.one (show Kd.M Kd.string _ _ _ (⟨#[114,101,99,111,114,100]⟩ : ByteArray) [.string (⟨#[114,101,99,111,114,100]⟩ : ByteArray)] from rfl) (Reps.one (show Kd.M Kd.string _ _ _ (⟨#[114,101,112,101,97,116]⟩ : ByteArray) [.string (⟨#[114,101,112,101,97,116]⟩ : ByteArray)] from rfl) (Reps.one (show Kd.M Kd.string _ _ _ (⟨#[114,101,116,117,114,110]⟩ : ByteArray) [.string (⟨#[114,101,116,117,114,110]⟩ : ByteArray)] from rfl) (Reps.one (show Kd.M Kd.string _ _ _ (⟨#[115,107,105,112]⟩ : ByteArray) [.string (⟨#[115,107,105,112]⟩ : ByteArray)] from rfl) (Reps.one (show Kd.M Kd.string _ _ _ (⟨#[116,104,101,110]⟩ : ByteArray) [.string (⟨#[116,104,101,110]⟩ : ByteArray)] from rfl) (Reps.one (show Kd.M Kd.string _ _ _ (⟨#[116,111]⟩ : ByteArray) [.string (⟨#[116,111]⟩ : ByteArray)] from rfl) (Reps.one (show Kd.M Kd.string _ _ _ (⟨#[117,110,116,105,108]⟩ : ByteArray) [.string (⟨#[117,110,116,105,108]⟩ : ByteArray)] from rfl) (Reps.one (show Kd.M Kd.string _ _ _ (⟨#[118,97,114]⟩ : ByteArray) [.string (⟨#[118,97,114]⟩ : ByteArray)] from rfl) (Reps.one (show Kd.M Kd.string _ _ _ (⟨#[119,104,105,108,101]⟩ : ByteArray) [.string (⟨#[119,104,105,108,101]⟩ : ByteArray)] from rfl) (Reps.none _ _))))))))))))))))))))))))));intro v191 w1 ho2 hb hg_ hnew_;clear hg_ hnew_;(first|rw [← Ny190.out] at ho2|(simp only [Int.reduceToNat] at ho2;rw [← Ny190.out] at ho2));have n0_:=Aside0.mk (Kd.R_lower ho2 (below_size (by repeat (first|(with_reducible first|exact HB.out|apply below_alloc|apply pw_below_drewN|apply below_drew1)|exact HB.out))));have n1_:=Aside0.mk (below_step (by repeat (first|(with_reducible first|exact HB.out|apply below_alloc|apply pw_below_drewN|apply below_drew1)|exact HB.out)) hb);clear HB;have HO192:=n0_;have HB:=n1_;clear n0_ n1_;clear hb ho2))
 go_ret
 exact ⟨_, by first|rfl|(simp [errW_none, errW_some] <;> rfl)|(simp [*, errW_none, errW_some] <;> rfl), by (with_reducible repeat (first|apply Kd.R_alloc|apply Kd.R_drewN|apply Kd.R_drew)); exact HO192.out, by repeat (first|(with_reducible first|exact HB.out|apply below_alloc|apply pw_below_drewN|apply below_drew1)|exact HB.out)⟩
end Go.Proofs.YtgfloplakjmncaaDoor.PScan
