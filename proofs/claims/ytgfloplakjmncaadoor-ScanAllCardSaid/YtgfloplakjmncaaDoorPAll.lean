/- ScanAll, the pure statement: what the printed function comes to. By an AI agent; no person has read it. -/
import Derived.Test.YtgfloplakjmncaaDoorPRef5
import Derived.Test.YtgfloplakjmncaaDoorPSame
set_option linter.unusedSimpArgs false
set_option linter.unusedVariables false
namespace Go.Proofs.YtgfloplakjmncaaDoor.PScan
open Go Go.RowKit Go.Proofs.YtgfloplakjmncaaDoor Go.Proofs.YtgfloplakjmncaaDoorW.PrintWords Go.Proofs.YtgfloplakjmncaaDoorW.PrintLast
theorem all_len (s : ByteArray) : (allR s).1.length ≤ s.size := by
  have hcov := allR_cov s
  generalize allR s = R at *
  obtain ⟨tks, er, q⟩ := R
  dsimp only at hcov ⊢
  by_cases h0 : tks = []
  · subst h0; simp
  · have := covd_len s tks 0 0 er q hcov h0; omega
theorem scanAll_j0 (a b : ByteArray) (ha : a.size ≤ 67108864) (hb : b.size ≤ 67108864) : Ev (fun k => colophonlaw10_ScanAll.j0 k a b true false) true := by
  have fa := all_f a (by omega)
  have fb := all_f b (by omega)
  have ra := rall_f a (by omega)
  have rb := rall_f b (by omega)
  have la := all_len a
  have lb := all_len b
  generalize allR a = A at *
  generalize allR b = C at *
  obtain ⟨ta, ea, qa⟩ := A
  obtain ⟨tb, eb, qb⟩ := C
  dsimp only at fa fb ra rb la lb
  have sa := same_f (ta.map tkS) (by rw [List.length_map]; omega)
  have sb := same_f (tb.map tkS) (by rw [List.length_map]; omega)
  have pa := spoil_f (ta.map tkS) (by rw [List.length_map]; omega)
  have pb := spoil_f (tb.map tkS) (by rw [List.length_map]; omega)
  refine Ev.step (fun k => by simp only [colophonlaw10_ScanAll.j0, Bool.false_eq_true, if_false, fa, fb, Option.bind_some]; rfl) ?_
  refine Ev.bind ra ?_
  refine Ev.bind rb ?_
  refine Ev.bind sa ?_
  refine Ev.bind sb ?_
  refine Ev.bind pa ?_
  refine Ev.bind pb ?_
  refine Ev.bind sa ?_
  simp only [if_true, beq_self_eq_true, Bool.and_self]
  exact Ev.now _
/-- The pure statement. -/
theorem scanAll (a b : ByteArray) : Ev (fun k => colophonlaw10_ScanAll.f k a b) true := by
  refine Ev.congr (f := fun k => (colophonlaw10_awake.f k).bind fun t => (if t = true then (if (a.size : Int) > 67108864 then (colophonlaw10_ScanAll.j0 k a b t true) else (colophonlaw10_ScanAll.j0 k a b t (decide ((b.size : Int) > 67108864)))) else (colophonlaw10_ScanAll.j0 k a b t true))) (fun k => rfl) (Ev.bind awake_f ?_)
  simp only [if_true]
  have big : Ev (fun k => colophonlaw10_ScanAll.j0 k a b true true) true := by
    refine Ev.step (f := fun k => some true) (fun k => ?_) (Ev.now true)
    simp only [colophonlaw10_ScanAll.j0, if_true]
  by_cases h1 : (a.size : Int) > 67108864
  · simp only [if_pos h1]; exact big
  · simp only [if_neg h1]
    by_cases h2 : (b.size : Int) > 67108864
    · simp only [decide_eq_true h2]; exact big
    · simp only [decide_eq_false h2]; exact scanAll_j0 a b (by omega) (by omega)
end Go.Proofs.YtgfloplakjmncaaDoor.PScan
