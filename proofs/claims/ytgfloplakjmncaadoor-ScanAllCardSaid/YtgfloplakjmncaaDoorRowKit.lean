/- What every row's proof wants: the end of a row whose call leaves what was there; what the listed tables hold. By an AI agent; no person has read it. -/
import Derived.Test.YtgfloplakjmncaaDoorRows
import Derived.Test.YtgfloplakjmncaaDoorBase
import Derived.ProofKit
import Derived.Below
import Derived.ChangeSame
import Derived.Deep.DeepHandedRow
import Derived.Lib.LaidTab
import Derived.Lib.LaidU8
set_option linter.unusedSimpArgs false
set_option linter.unusedVariables false
namespace Go.Proofs.YtgfloplakjmncaaDoor
open Go Go.RowKit Go.WideShapes Go.ChangeShapes
section
variable {H : Type} {enc : TypeId × Value → H} {P : Program}
theorem post_of_below {f : Func} {s : ChangeSpec} {apart fresh handsOn again : Bool} {W W' : World} {args : Array Value} {v : Value} {ds gs : List (DataW H)} {before pa pv : List MemPlace}
    (hW : DataW.Whole enc P f.params.toList s.vars apart W args.toList ds gs before)
    (hres : ∀ (b : Nat) (sp : Nat → Bool) (hd : Bool), DataW.TrodAll enc P W' b sp hd f.resultTypes.toList (v.resultList f.resultTypes.size) (s.fn H (ds ++ gs)).results [])
    (hargs : ∀ sp : Nat → Bool, (∀ p ∈ before, sp p.block = true) → DataW.TrodAll enc P W' 0 sp true f.params.toList args.toList (s.fn H (ds ++ gs)).args pa)
    (hvars : ∀ sp : Nat → Bool, (∀ p ∈ before, sp p.block = true) → DataW.TrodVars enc P W' sp s.vars (s.fn H (ds ++ gs)).vars pv)
    (hps : before = pa ++ pv) (hb : Below W.heap.size W W')
    (hok : ∀ (j : Nat) (t : TypeId) (r : Value), f.resultTypes[j]? = some t → (v.resultList f.resultTypes.size)[j]? = some r → Value.okWide P W' .any 0 t r) :
    s.post enc P f apart fresh handsOn again W args v W' := by
  have hlt : ∀ p ∈ before, p.block < W.heap.size := fun p hp => hW.lt p hp
  have hold : ∀ p ∈ before, (fun b => decide (b < W.heap.size)) p.block = true := fun p hp => by simpa using hlt p hp
  refine ⟨ds, gs, before, [], pa, pv, hW, hres _ _ _, hargs _ hold, hvars _ hold, World.keptBut_mono (fun p hp => ⟨hp, ?_⟩) (hb.frame (· ∈ before)), fun _ => ?_⟩
  · rw [hps, List.mem_append] at hp
    exact Or.inr hp
  · obtain ⟨_, _, _, _, _, hz, hn⟩ := hW
    refine ⟨hok, _, _, ([] ++ pa) ++ pv, ⟨[] ++ pa, pv, trodAll_append (hargs _ (fun _ _ => rfl)) (hres _ _ _), hvars _ (fun _ _ => rfl), rfl, ?_, ?_⟩, ?_⟩
    · intro b off hp
      have hin : MemPlace.cell b off ∈ before := by rw [hps]; simpa using hp
      rw [hb.frozen (hlt _ hin)]
      exact hz b off hin
    · intro ha
      have := hn ha
      rw [hps] at this
      simpa using this
    · intro p hp _
      rw [hps]
      simpa using hp
end
theorem own : ownKnob Tryd.prog.godebug = none := by kernel_rfl
/-- A listed array of pairs of whole numbers: its cells. -/
theorem pairs_of_reads {w : World} {name : String} {g : Nat} {t e i0 : TypeId} {n : Nat} {k : IntKind} {f0 f1 : Field} (zs : List (Int × Int)) (hg : Tryd.prog.globalNamed name = some g) (hy : (Tryd.prog.globals[g]?).map (·.type) = some t)
    (ht : Tryd.prog.underlying t = some (.array n e)) (hs : Tryd.prog.underlying e = some (.struct #[f0, f1])) (h0 : f0.type = i0 ∧ f0.offset = 0) (h1 : f1.type = i0 ∧ f1.offset = 1) (hi0 : Tryd.prog.underlying i0 = some (.int k)) (hci : Tryd.prog.cellsOf i0 = 1) (hce : Tryd.prog.cellsOf e = 2)
    (h : Lib.VarReads Tryd.prog w name (.agg (zs.map fun z => .agg [.lit (.int k z.1), .lit (.int k z.2)]))) (i : Nat) (hi : i < n) (hz : i < zs.length) :
    w.cell? ⟨g, 2 * i, none⟩ = some (.int k (zs.getD i (0, 0)).1) ∧ w.cell? ⟨g, 2 * i + 1, none⟩ = some (.int k (zs.getD i (0, 0)).2) := by
  obtain ⟨g', t', cs, fuel, p, hg', hty, hvar, hd⟩ := h
  obtain rfl := Option.some.inj (hg.symm.trans hg')
  obtain rfl := Option.some.inj (hy.symm.trans hty)
  obtain ⟨fuel', d, q, hdi, he⟩ := Lib.array_elem ht hd i hi
  simp only [List.getElem?_map, List.getElem?_eq_getElem hz, Option.map_some, Option.some.injEq] at hdi
  subst hdi
  rw [hce] at he
  have hcs := Lib.ints_of_struct (zs := [(zs[i]'hz).1, (zs[i]'hz).2]) hs (fun j f hj => by
    match j, hj with
    | 0, hj => simp at hj; subst hj; rw [h0.1, h0.2]; exact ⟨hi0, rfl, hci⟩
    | 1, hj => simp at hj; subst hj; rw [h1.1, h1.2]; exact ⟨hi0, rfl, hci⟩
    | j + 2, hj => simp at hj) (by rw [hce]; rfl) he
  have e0 := congrArg (·[0]?) hcs
  have e1 := congrArg (·[1]?) hcs
  simp only [List.getElem?_take, List.getElem?_drop] at e0 e1
  have hget : zs.getD i (0, 0) = zs[i]'hz := by simp [List.getD_eq_getElem?_getD, List.getElem?_eq_getElem hz]
  rw [hget]
  constructor
  · rw [World.var?_cell hg hvar (2 * i), ← Array.getElem?_toList]
    simpa [Nat.mul_comm] using e0
  · rw [World.var?_cell hg hvar (2 * i + 1), ← Array.getElem?_toList]
    simpa [Nat.mul_comm] using e1
end Go.Proofs.YtgfloplakjmncaaDoor
