/- colophonlaw10.ScanAll: for every two sources the law returns true: the whole statement, no condition beside the tables that the program's text lays. By an AI agent; no person has read it. -/
import Derived.Test.YtgfloplakjmncaaDoorCards
import Derived.Test.YtgfloplakjmncaaDoorTie
import Derived.Test.YtgfloplakjmncaaDoorRowKit
import Derived.Test.YtgfloplakjmncaaDoorRowCl
import Derived.Test.YtgfloplakjmncaaDoorPAll
import Derived.Lib.SmallJoins
import Derived.OpenShut
set_option linter.unusedSimpArgs false
set_option linter.unusedVariables false
namespace Go.Proofs.YtgfloplakjmncaaDoor.scanAll
open Go Go.ChangeShapes Go.WideShapes Go.ChangeAt Go.RowKit Go.Joins
open Go.ChangeMaps (open_string shut_string)
set_option maxRecDepth 100000 in
set_option maxHeartbeats 1000000 in
theorem contract (H : Type) (enc : TypeId × Value → H) (W : World) (base : Nat) (args : Array Value) (ds gs : List (DataW H)) (before : List MemPlace)
    (hval : ∀ (j : Nat) t v, Tryd.f3.params[j]? = some t → args[j]? = some v → Value.okWide Tryd.prog W .any base t v)
    (hW : DataW.Whole enc Tryd.prog Tryd.f3.params.toList Rows.scanAllSpec.vars false W args.toList ds gs before) (hL : laidMetH Tryd.prog Rows.scanAllRow.laid W) :
    Calls Tryd.prog 3 args W fun e W' => ∃ v, e = .returned v ∧ Rows.scanAllSpec.post enc Tryd.prog Tryd.f3 false true false false W args v W' := by
  have hW' := hW
  obtain ⟨p, q, hA0, hV, rfl, hfz, hnd⟩ := hW
  have hA : DataW.TrodAll enc Tryd.prog W 0 (fun _ => true) true Tryd.f3.params.toList args.toList ds p := hA0
  rw [Tryd.params3] at hA hval
  obtain ⟨v0, vs0, d0, ds0, p0, q0, hargs, rfl, rfl, h0, r0⟩ := trodAll_cons hA
  obtain ⟨v1, vs1, d1, ds1, p1, q1, rfl, rfl, rfl, h1, r1⟩ := trodAll_cons r0
  obtain ⟨rfl, rfl, rfl⟩ := trodAll_nil r1
  obtain rfl : args = #[v0, v1] := by cases args; simp_all
  obtain ⟨rfl, rfl⟩ := trodVars_none hV
  obtain ⟨a0, rfl, rfl, rfl, y0⟩ := open_string Tryd.underlying9 (hval 0 9 v0 rfl rfl) h0
  obtain ⟨a1, rfl, rfl, rfl, y1⟩ := open_string Tryd.underlying9 (hval 1 9 v1 rfl rfl) h1
  clear hA0
  simp only [List.append_nil] at hW'
  have hR_accept : Lib.VarReads Tryd.prog W "unicode/utf8.acceptRanges" Rows.laid_unicode_utf8_acceptRanges := Lib.laidMet.reads (l := Rows.scanAllRow.laid) hL (.head _)
  have hR_letters : Lib.VarReads Tryd.prog W "colophon/class.letters" Rows.laid_colophon_class_letters := Lib.laidMet.reads (l := Rows.scanAllRow.laid) hL (.tail _ (.head _))
  have hR_others : Lib.VarReads Tryd.prog W "colophon/class.others" Rows.laid_colophon_class_others := Lib.laidMet.reads (l := Rows.scanAllRow.laid) hL (.tail _ (.tail _ (.head _)))
  have hR_first : Lib.VarReads Tryd.prog W "unicode/utf8.first" Go.Pinned.utf8First := Lib.laidMet.reads (l := Rows.scanAllRow.laid) hL (.tail _ (.tail _ (.tail _ (.head _))))
  have hC := cl_of_reads hR_letters hR_others
  have walk : Calls Tryd.prog 3 #[.string a0, .string a1] W fun e w' => e = .returned (.bool true) ∧ Kp W w' := by
    obtain ⟨k, hk⟩ := (PScan.scanAll a0 a1).rounds
    exact PScan.colophonlaw10_ScanAll.calls k a0 a1 true W hC hk
  refine walk.mono fun e W' ⟨he, hk⟩ => ?_
  subst he
  exact ⟨_, rfl, post_of_below (pa := []) (pv := []) hW' (fun _ _ _ => trodAll_mk1 (shut_bool Tryd.underlying4 _)) (fun sp _ => (trodAll_cons_mk (shut_string Tryd.underlying9 y0) (trodAll_cons_mk (shut_string Tryd.underlying9 y1) trodAll_mk0))) (fun _ _ => rfl) rfl hk (ok_one (by kernel_rfl) rfl (okWide_bool_mk Tryd.underlying4 _))⟩
/-- Other cells in a block. -/
def laying (cs : Array Value) : Obj → Obj
  | .cells _ t frozen => .cells cs t frozen
  | o => o
/-- A world for the witness: the settled one, the listed tables as the program's text lays them. -/
noncomputable def laidWorld (os : Os) : World :=
  { World.holding Tryd.prog os ⟨#[], #[], []⟩ with heap := (((((World.holding Tryd.prog os ⟨#[], #[], []⟩).heap.modify 4 (laying (#[.int .u8 128, .int .u8 191, .int .u8 160, .int .u8 191, .int .u8 128, .int .u8 159, .int .u8 144, .int .u8 191, .int .u8 128, .int .u8 143, .int .u8 0, .int .u8 0, .int .u8 0, .int .u8 0, .int .u8 0, .int .u8 0, .int .u8 0, .int .u8 0, .int .u8 0, .int .u8 0, .int .u8 0, .int .u8 0, .int .u8 0, .int .u8 0, .int .u8 0, .int .u8 0, .int .u8 0, .int .u8 0, .int .u8 0, .int .u8 0, .int .u8 0, .int .u8 0]))).modify 1 (laying (((tabCells letterTab).map fun z => Value.int .i64 z).toArray))).modify 2 (laying (((tabCells otherTab).map fun z => Value.int .i64 z).toArray))).modify 3 (laying ((Go.Pinned.utf8FirstZ.map fun z => .int .u8 z).toArray))) }
def wargs : Array Value := #[.string ⟨#[]⟩, .string ⟨#[]⟩]
theorem laid_met (os : Os) : laidMet Tryd.prog Rows.scanAllRow.laid ((laidWorld os).forCall (fun _ _ => 0) ⟨#[], wargs, []⟩).memory :=
  laidMet_of_run' 8 (by kernel_rfl) (by kernel_rfl)
theorem reads (os : Os) {H : Type} (enc : TypeId × Value → H) : ∃ places, DataW.whole enc Tryd.prog ((laidWorld os).forCall (fun _ _ => 0) ⟨#[], wargs, []⟩).memory Tryd.f3.params.toList Rows.scanAllSpec.vars false wargs.toList 8 = some ([.lit (.string []), .lit (.string [])], [], places) :=
  ⟨[], by kernel_rfl⟩
set_option maxRecDepth 100000 in
theorem lifted (os : Os) (started : os.Started) (H : Type) (enc : TypeId × Value → H) (F : Stop.Interp) :
    ReturnsInHanded {} Tryd.checked os 3 .any ((OpenSpec.ofChange Rows.scanAllSpec).preRow enc Tryd.prog Tryd.f3 Rows.scanAllRow.domain false Rows.scanAllRow.laid) (((OpenSpec.ofChange Rows.scanAllSpec).at F).post enc Tryd.prog Tryd.f3 false true false false) := by
  obtain ⟨places, hx⟩ := reads os enc
  refine returnsInHanded_of_row (C := Tryd.checked) (s := OpenSpec.ofChange Rows.scanAllSpec) own started (by kernel_rfl) Tryd.func3
    (witness_row_at (enc := enc) (C := Tryd.checked) false (laidWorld os) wargs rfl (by kernel_rfl) (by kernel_rfl) (by kernel_rfl)
      (OpenSpec.preRow_of_cond 8 hx (by kernel_rfl) (fun k hk => by cases hk) (by kernel_rfl) (laid_met os))) ?_
  intro W base args ds gs before hval hW _ _ _ hL hS _
  exact contract H enc W base args ds gs before hval hW hL
theorem said : Rows.ScanAllSaid :=
  OpenClaim.holds_of_cond 3 Tryd.f3 rfl rfl rfl rfl rfl rfl rfl ⟨rfl, rfl, rfl, rfl, rfl⟩ rfl rfl rfl rfl rfl (by kernel_rfl) Tryd.func3 (by kernel_rfl)
    (of_decide_eq_true (by kernel_rfl)) (by unfold Func.isWrapper; first | (rw [if_pos (by decide +kernel)]; kernel_rfl) | (rw [if_neg (by decide +kernel)]; exact ⟨rfl, rfl⟩))
    (fun os started H enc _ F => by rw [OpenClaim.pre_eq_preRow]; exact lifted os started H enc F)
theorem plain (f : FuncId) (fn : Func) (hf : Tryd.pinned.checked.prog.funcNamed "colophon/colophonlaw10.ScanAll" = some f) (hfn : Tryd.pinned.checked.prog.funcs[f]? = some fn) :
    Rows.scanAllCard.stood.looks = Tryd.pinned.checked.prog.looks [] ∧ ∀ (j : Nat) t, fn.params[j]? = some t → Tryd.pinned.checked.prog.wantsStandIn t = false := by
  obtain rfl : f = 3 := Option.some.inj ((show Tryd.prog.funcNamed "colophon/colophonlaw10.ScanAll" = some 3 by kernel_rfl).symm.trans hf) |>.symm
  obtain rfl : fn = Tryd.f3 := (Option.some.inj (Tryd.func3.symm.trans hfn)).symm
  refine ⟨by kernel_rfl, fun j t ht => ?_⟩
  rw [Tryd.params3] at ht
  have hm : t = 9 := by simpa using Array.mem_of_getElem? ht
  subst hm
  exact (show Tryd.prog.wantsStandIn 9 = false by kernel_rfl)
theorem card : Rows.ScanAllCardSaid :=
  Claim7.holds_tied_plain_at .later [] _ _ _ _ said (fun _ h => by cases h) (by kernel_rfl) (fun _ h => by cases h) scanAll_row_tie rfl ⟨rfl, rfl⟩ (by kernel_rfl) rfl plain (by kernel_rfl)
end Go.Proofs.YtgfloplakjmncaaDoor.scanAll
#print axioms Go.Proofs.YtgfloplakjmncaaDoor.scanAll.card
