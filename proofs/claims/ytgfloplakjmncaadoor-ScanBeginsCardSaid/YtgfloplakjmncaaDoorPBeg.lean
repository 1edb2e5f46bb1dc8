/- ScanBegins, the pure statement: what the printed function comes to. By an AI agent; no person has read it. -/
import Derived.Test.YtgfloplakjmncaaDoorBegLaw
import Derived.Test.YtgfloplakjmncaaDoorPScanx11
import Derived.Test.YtgfloplakjmncaaDoorPSame
set_option linter.unusedSimpArgs false
set_option linter.unusedVariables false
namespace Go.Proofs.YtgfloplakjmncaaDoor.PScan
open Go Go.RowKit Go.Proofs.YtgfloplakjmncaaDoor Go.Proofs.YtgfloplakjmncaaDoorW.PrintWords Go.Proofs.YtgfloplakjmncaaDoorW.PrintLast

theorem begins_j2 (l m : List S35) (hl : 0 < l.length) (hsz : l.length < 4611686018427387904) (h1 : l.length - 1 ≤ m.length) (h2 : l.take (l.length - 1) = m.take (l.length - 1)) :
    Ev (fun k => colophonlaw10_ScanBegins.j2 k l m false) true := by
  obtain ⟨n, hn⟩ : ∃ n, l.length = n + 1 := ⟨l.length - 1, by omega⟩
  have hw : wrap64 ((l.length : Int) - 1) = (n : Int) := by unfold wrap64; omega
  rw [hn, Nat.add_sub_cancel] at h1 h2
  have hs := same_f (l.take n) (by rw [List.length_take]; omega)
  refine Ev.step (f := fun k => (colophonlaw10_same.f k (l.take n) (l.take n)).bind fun t => some t) (fun k => ?_) (Ev.bind hs (Ev.now true))
  simp only [colophonlaw10_ScanBegins.j2, Bool.false_eq_true, if_false]
  rw [hw, if_neg (by omega), if_pos (by omega), if_pos (by omega), if_pos (by omega), Int.toNat_natCast, ← h2]
theorem begins_j1 (s : ByteArray) (hs : s.size ≤ 67108864) (c : Int) (hc : 0 ≤ c) : Ev (fun k => colophonlaw10_ScanBegins.j1 k s c) true := by
  have hw : wrap64 ((s.size : Int) + 1) = (s.size : Int) + 1 := by unfold wrap64; omega
  obtain ⟨n, hn, hle⟩ : ∃ n : Nat, Int.tmod c ((s.size : Int) + 1) = (n : Int) ∧ n ≤ s.size := by
    have e := Int.tmod_eq_emod_of_nonneg (b := (s.size : Int) + 1) hc
    have h1 := Int.emod_nonneg c (b := (s.size : Int) + 1) (by omega)
    have h2 := Int.emod_lt_of_pos c (b := (s.size : Int) + 1) (by omega)
    refine ⟨(c % ((s.size : Int) + 1)).toNat, ?_, ?_⟩ <;> omega
  have hb := all_f (s.extract 0 n) (by simp; omega)
  have hm := all_f s (by omega)
  have hlist : s.data.toList = (s.extract 0 n).data.toList ++ s.data.toList.drop n := by rw [ext_list]; simp
  have hbeg := begins_R (s.extract 0 n) s _ hlist
  have hcnt : (allR (s.extract 0 n)).1.length < 4611686018427387904 := by
    have hcov := allR_cov (s.extract 0 n)
    generalize allR (s.extract 0 n) = R at *
    obtain ⟨tks, er, q⟩ := R
    by_cases h0 : tks = []
    · subst h0; simp
    · have := covd_len _ tks 0 0 er q hcov h0
      simp at this
      dsimp only; omega
  generalize allR (s.extract 0 n) = B at *
  generalize allR s = S at *
  obtain ⟨lb, eb, qb⟩ := B
  obtain ⟨ls, es, qs⟩ := S
  dsimp only at hb hm hbeg hcnt
  have fin : ∀ b : Bool, (b = false → eb = 0 ∧ 0 < lb.length) → Ev (fun k => colophonlaw10_ScanBegins.j2 k (lb.map tkS) (ls.map tkS) b) true := by
    intro b hcase
    cases b with
    | true =>
      refine Ev.step (f := fun k => some true) (fun k => ?_) (Ev.now true)
      simp only [colophonlaw10_ScanBegins.j2, if_true]
    | false =>
      obtain ⟨c1, c2⟩ := hcase rfl
      obtain ⟨b1, b2⟩ := hbeg c1
      refine begins_j2 _ _ (by simpa using c2) (by simpa using hcnt) (by simpa using b1) ?_
      rw [List.length_map, ← List.map_take, ← List.map_take, b2]
  refine Ev.step (f := fun k => if (eb : Int) = 0 then (if (es : Int) = 0 then (colophonlaw10_ScanBegins.j2 k (lb.map tkS) (ls.map tkS) (((lb.map tkS).length : Int) == 0)) else (colophonlaw10_ScanBegins.j2 k (lb.map tkS) (ls.map tkS) true)) else (colophonlaw10_ScanBegins.j2 k (lb.map tkS) (ls.map tkS) true)) (fun k => ?_) ?_
  · simp only [colophonlaw10_ScanBegins.j1]
    rw [hw, if_neg (by omega), hn, if_pos (by omega), if_pos (by omega), Int.toNat_natCast, hb, hm]
    rfl
  · by_cases c1 : (eb : Int) = 0
    · simp only [if_pos c1]
      by_cases c2 : (es : Int) = 0
      · simp only [if_pos c2]
        refine fin _ (fun hf => ⟨by omega, ?_⟩)
        rw [beq_eq_false_iff_ne, List.length_map] at hf
        omega
      · simp only [if_neg c2]; exact fin true (fun h => by cases h)
    · simp only [if_neg c1]; exact fin true (fun h => by cases h)
/-- The pure statement. -/
theorem begins (s : ByteArray) (c : Int) (h1 : -9223372036854775808 ≤ c) (h2 : c < 9223372036854775808) : Ev (fun k => colophonlaw10_ScanBegins.f k s c) true := by
  refine Ev.congr (f := fun k => (colophonlaw10_awake.f k).bind fun t => (if t = true then (colophonlaw10_ScanBegins.j0 k s c t (decide ((s.size : Int) > 67108864))) else (colophonlaw10_ScanBegins.j0 k s c t true))) (fun k => rfl) (Ev.bind awake_f ?_)
  simp only [if_true]
  by_cases hbig : (s.size : Int) > 67108864
  · refine Ev.step (f := fun k => some true) (fun k => ?_) (Ev.now true)
    simp only [colophonlaw10_ScanBegins.j0]
    rw [decide_eq_true hbig, if_pos rfl]
  · by_cases hneg : c < 0
    · refine Ev.step (f := fun k => colophonlaw10_ScanBegins.j1 k s (-(c + 1))) (fun k => ?_) (begins_j1 s (by omega) _ (by omega))
      have e1 : wrap64 (c + 1) = c + 1 := by unfold wrap64; omega
      have e2 : wrap64 (-(c + 1)) = -(c + 1) := by unfold wrap64; omega
      simp only [colophonlaw10_ScanBegins.j0]
      rw [decide_eq_false hbig, if_neg (by decide), if_pos hneg, e1, e2]
    · refine Ev.step (f := fun k => colophonlaw10_ScanBegins.j1 k s c) (fun k => ?_) (begins_j1 s (by omega) _ (by omega))
      simp only [colophonlaw10_ScanBegins.j0]
      rw [decide_eq_false hbig, if_neg (by decide), if_neg hneg]
end Go.Proofs.YtgfloplakjmncaaDoor.PScan
