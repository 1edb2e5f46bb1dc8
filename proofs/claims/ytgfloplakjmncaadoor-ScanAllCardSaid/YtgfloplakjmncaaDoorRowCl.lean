/- The tables of letters, as a row lays them. By an AI agent; no person has read it. -/
import Derived.Test.YtgfloplakjmncaaDoorRowKit
import Derived.Test.YtgfloplakjmncaaDoorScanW
set_option linter.unusedSimpArgs false
set_option linter.unusedVariables false
namespace Go.Proofs.YtgfloplakjmncaaDoor
open Go Go.RowKit Go.WideShapes Go.ChangeShapes
theorem letters_data : (Rows.laid_colophon_class_letters : DataW Unit) = .agg (letterTab.map fun z => .agg [.lit (.int .i64 z.1), .lit (.int .i64 z.2)]) := by kernel_rfl
theorem others_data : (Rows.laid_colophon_class_others : DataW Unit) = .agg (otherTab.map fun z => .agg [.lit (.int .i64 z.1), .lit (.int .i64 z.2)]) := by kernel_rfl
/-- A listed array of pairs of whole numbers: its block. -/
theorem tab_of_reads {w : World} {name : String} {g : Nat} {t e i0 : TypeId} {n : Nat} {f0 f1 : Field} (zs : List (Int × Int)) (hn : zs.length = n) (hg : Tryd.prog.globalNamed name = some g) (hy : (Tryd.prog.globals[g]?).map (·.type) = some t)
    (ht : Tryd.prog.underlying t = some (.array n e)) (hct : Tryd.prog.cellsOf t = 2 * n) (hs : Tryd.prog.underlying e = some (.struct #[f0, f1])) (h0 : f0.type = i0 ∧ f0.offset = 0) (h1 : f1.type = i0 ∧ f1.offset = 1) (hi0 : Tryd.prog.underlying i0 = some (.int .i64)) (hci : Tryd.prog.cellsOf i0 = 1) (hce : Tryd.prog.cellsOf e = 2)
    (h : Lib.VarReads Tryd.prog w name (.agg (zs.map fun z => .agg [.lit (.int .i64 z.1), .lit (.int .i64 z.2)]))) : Tab w g zs := by
  have hpair := fun i hi hz => pairs_of_reads (g := g) zs hg hy ht hs h0 h1 hi0 hci hce h i hi hz
  obtain ⟨g', t', cs, fuel, p, hg', hty, hvar, hd⟩ := h
  obtain rfl := Option.some.inj (hg.symm.trans hg')
  obtain rfl := Option.some.inj (hy.symm.trans hty)
  have hlen : cs.toList.length = 2 * n := by
    cases fuel with
    | zero => simp [DataW.trod] at hd
    | succ fuel =>
      simp only [DataW.trod, ht] at hd
      split at hd
      · rename_i hl; rw [hl, hct]
      · cases hd
  have hcell := World.var?_cell hg hvar
  have hcs : cs = ((tabCells zs).map fun z => Value.int .i64 z).toArray := by
    have hl2 : (tabCells zs).length = 2 * n := by
      rw [← hn]; clear hn hpair hd h0 h1
      induction zs with
      | nil => rfl
      | cons z l ih => simp [tabCells] at ih ⊢; omega
    apply Array.ext'
    apply List.ext_getElem?
    intro j
    by_cases hj : j < 2 * n
    · obtain ⟨i, hi | hi⟩ : ∃ i, j = 2 * i ∨ j = 2 * i + 1 := ⟨j / 2, by omega⟩
      all_goals
        have hin : i < n := by omega
        have hp := hpair i hin (by omega)
        have hc := hcell j
        have ha : ∀ (l : List (Int × Int)) (i : Nat), i < l.length → (tabCells l)[2 * i]? = some (l.getD i (0, 0)).1 ∧ (tabCells l)[2 * i + 1]? = some (l.getD i (0, 0)).2 := by
          intro l
          induction l with
          | nil => intro i h; simp at h
          | cons z l ih =>
            intro i h
            cases i with
            | zero => simp [tabCells]
            | succ i =>
              have := ih i (by simpa using h)
              simpa [tabCells, Nat.mul_add, Nat.add_assoc] using this
        have hb := ha zs i (by omega)
        subst hi
        rw [Array.getElem?_toList, ← hc]
        first | rw [hp.1] | rw [hp.2]
        simp [List.getElem?_map, hb.1, hb.2]
    · rw [List.getElem?_eq_none (by omega), List.getElem?_eq_none (by simp; omega)]
  subst hcs
  simp only [World.var?, hg, Option.bind_some] at hvar
  split at hvar
  · rename_i cs' t' fr heq
    injection hvar with hvar
    subst hvar
    exact ⟨t', fr, heq⟩
  · cases hvar
theorem cl_of_reads {w : World} (h3 : Lib.VarReads Tryd.prog w "colophon/class.letters" Rows.laid_colophon_class_letters) (h4 : Lib.VarReads Tryd.prog w "colophon/class.others" Rows.laid_colophon_class_others) : Cl w := by
  rw [letters_data] at h3
  rw [others_data] at h4
  exact ⟨tab_of_reads letterTab rfl (by kernel_rfl) (by kernel_rfl) Tryd.underlying75 (by kernel_rfl) Tryd.underlying74 ⟨rfl, rfl⟩ ⟨rfl, rfl⟩ Tryd.underlying3 (by kernel_rfl) (by kernel_rfl) h3,
    tab_of_reads otherTab rfl (by kernel_rfl) (by kernel_rfl) Tryd.underlying87 (by kernel_rfl) Tryd.underlying74 ⟨rfl, rfl⟩ ⟨rfl, rfl⟩ Tryd.underlying3 (by kernel_rfl) (by kernel_rfl) h4⟩
end Go.Proofs.YtgfloplakjmncaaDoor
