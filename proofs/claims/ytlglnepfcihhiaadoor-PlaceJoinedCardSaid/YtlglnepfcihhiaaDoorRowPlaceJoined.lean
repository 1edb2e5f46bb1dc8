/- colophonlaw03.PlaceJoined: for every place and every two texts the law returns true: the whole statement, no condition beside the tables that the program's text lays. By an AI agent; no person has read it. -/
import Derived.Test.YtlglnepfcihhiaaDoorCards
import Derived.Test.YtlglnepfcihhiaaDoorTie
import Derived.Test.YtlglnepfcihhiaaDoorRowKit
import Derived.Test.YtlglnepfcihhiaaDoorPlaceJoined
import Derived.Lib.SmallJoins
import Derived.OpenShut
set_option linter.unusedSimpArgs false
set_option linter.unusedVariables false
namespace Go.Proofs.YtlglnepfcihhiaaDoor.placeJoined
open Go Go.ChangeShapes Go.WideShapes Go.ChangeAt Go.RowKit Go.Joins
open Go.ChangeMaps (open_string shut_string)

theorem cells_place : Tryd.prog.cellsOf 23 = 3 := by kernel_rfl
theorem ok_of_wf {x : Int} (h : (Lit.int .i64 x).wf = true) : okI x := by
  have := bounds_i64 h
  exact ⟨this.1, by omega⟩

set_option maxRecDepth 100000 in
set_option maxHeartbeats 1000000 in
theorem contract (H : Type) (enc : TypeId × Value → H) (W : World) (base : Nat) (args : Array Value) (ds gs : List (DataW H)) (before : List MemPlace)
    (hval : ∀ (j : Nat) t v, Tryd.f3.params[j]? = some t → args[j]? = some v → Value.okWide Tryd.prog W .any base t v)
    (hW : DataW.Whole enc Tryd.prog Tryd.f3.params.toList Rows.placeJoinedSpec.vars false W args.toList ds gs before) (hL : laidMetH Tryd.prog Rows.placeJoinedRow.laid W) (hM : ML W) :
    Calls Tryd.prog 3 args W fun e W' => ∃ v, e = .returned v ∧ Rows.placeJoinedSpec.post enc Tryd.prog Tryd.f3 false true false false W args v W' := by
  have hW' := hW
  obtain ⟨p, q, hA0, hV, rfl, hfz, hnd⟩ := hW
  have hA : DataW.TrodAll enc Tryd.prog W 0 (fun _ => true) true Tryd.f3.params.toList args.toList ds p := hA0
  rw [Tryd.params3] at hA hval
  obtain ⟨v0, vs0, d0, ds0, p0, q0, hargs, rfl, rfl, h0, r0⟩ := trodAll_cons hA
  obtain ⟨v1, vs1, d1, ds1, p1, q1, rfl, rfl, rfl, h1, r1⟩ := trodAll_cons r0
  obtain ⟨v2, vs2, d2, ds2, p2, q2, rfl, rfl, rfl, h2, r2⟩ := trodAll_cons r1
  obtain ⟨rfl, rfl, rfl⟩ := trodAll_nil r2
  obtain rfl : args = #[v0, v1, v2] := by cases args; simp_all
  obtain ⟨rfl, rfl⟩ := trodVars_none hV
  obtain ⟨c0, c1, c2, y0, y1, y2, m, rfl, rfl, rfl, hy0, hy1, hy2⟩ := open_agg3 Tryd.underlying23 (by kernel_rfl) cells_place (hval 0 23 v0 rfl rfl) h0
  obtain ⟨a, e0, rfl, wa⟩ := DataW.trod_int Tryd.underlying3 hy0
  obtain ⟨b, e1, rfl, wb⟩ := DataW.trod_int Tryd.underlying3 hy1
  obtain ⟨c, e2, rfl, wc⟩ := DataW.trod_int Tryd.underlying3 hy2
  simp at e0 e1 e2
  subst e0 e1 e2
  obtain ⟨s, rfl, rfl, rfl, hs⟩ := open_string Tryd.underlying9 (hval 1 9 v1 rfl rfl) h1
  obtain ⟨u, rfl, rfl, rfl, hu⟩ := open_string Tryd.underlying9 (hval 2 9 v2 rfl rfl) h2
  clear hA0
  simp only [List.append_nil] at hW'
  have hR : Lib.VarReads Tryd.prog W "unicode/utf8.first" Go.Pinned.utf8First := Lib.laidMet.reads (l := Rows.placeJoinedRow.laid) hL (.tail _ (.head _))
  have hR2 : Lib.VarReads Tryd.prog W "unicode/utf8.acceptRanges" Rows.laid_unicode_utf8_acceptRanges := Lib.laidMet.reads (l := Rows.placeJoinedRow.laid) hL (.head _)
  have hT := u8_of_reads hR hR2
  have walk : Calls Tryd.prog 3 #[.agg #[.int .i64 a, .int .i64 b, .int .i64 c], .string s, .string u] W fun e w' => e = .returned (.bool true) ∧ Kp W w' := by
    by_cases h1 : (268435455 : Int) < (s.size : Int)
    · exact placeJoined_long ⟨a, b, c⟩ s u W h1
    · by_cases h2 : (268435455 : Int) < (u.size : Int)
      · exact placeJoined_long2 ⟨a, b, c⟩ s u W h1 h2
      · exact placeJoined_walk ⟨a, b, c⟩ ⟨ok_of_wf wa, ok_of_wf wb, ok_of_wf wc⟩ s u W h1 h2 hT hM
  have placeReads : ∀ (W' : World) (sp : Nat → Bool), DataW.Trod enc Tryd.prog W' 0 sp true 23 (.agg #[.int .i64 a, .int .i64 b, .int .i64 c]) (.agg [.lit (.int .i64 a), .lit (.int .i64 b), .lit (.int .i64 c)]) [] := fun W' sp =>
    shut_agg3 (y0 := (.lit (.int .i64 a), [])) (y1 := (.lit (.int .i64 b), [])) (y2 := (.lit (.int .i64 c), [])) Tryd.underlying23 (by kernel_rfl) cells_place ⟨1, by simp [DataW.trod, Tryd.underlying3, wa]⟩ ⟨1, by simp [DataW.trod, Tryd.underlying3, wb]⟩ ⟨1, by simp [DataW.trod, Tryd.underlying3, wc]⟩
  refine walk.mono fun e W' ⟨he, hk⟩ => ?_
  subst he
  exact ⟨_, rfl, post_of_below (pa := []) (pv := []) hW' (fun _ _ _ => trodAll_mk1 (shut_bool Tryd.underlying4 _)) (fun sp _ => trodAll_cons_mk (placeReads W' sp) (trodAll_cons_mk (shut_string Tryd.underlying9 hs) (trodAll_cons_mk (shut_string Tryd.underlying9 hu) trodAll_mk0))) (fun _ _ => rfl) rfl hk (ok_one (by kernel_rfl) rfl (okWide_bool_mk Tryd.underlying4 _))⟩

/-- Other cells in a block. -/
def laying (cs : Array Value) : Obj → Obj
  | .cells _ t frozen => .cells cs t frozen
  | o => o
/-- A world for the witness: the settled one, the two tables of unicode/utf8 as the program's text lays them. -/
noncomputable def laidWorld (os : Os) : World :=
  { World.holding Tryd.prog os ⟨#[], #[], []⟩ with heap := ((World.holding Tryd.prog os ⟨#[], #[], []⟩).heap.modify 0 (laying (Go.Pinned.utf8FirstZ.map fun z => .int .u8 z).toArray)).modify 1 (laying #[.int .u8 128, .int .u8 191, .int .u8 160, .int .u8 191, .int .u8 128, .int .u8 159, .int .u8 144, .int .u8 191, .int .u8 128, .int .u8 143, .int .u8 0, .int .u8 0, .int .u8 0, .int .u8 0, .int .u8 0, .int .u8 0, .int .u8 0, .int .u8 0, .int .u8 0, .int .u8 0, .int .u8 0, .int .u8 0, .int .u8 0, .int .u8 0, .int .u8 0, .int .u8 0, .int .u8 0, .int .u8 0, .int .u8 0, .int .u8 0, .int .u8 0, .int .u8 0]) }
def wargs : Array Value := #[.agg #[.int .i64 0, .int .i64 0, .int .i64 0], .string ⟨#[]⟩, .string ⟨#[]⟩]
theorem laid_met (os : Os) : laidMet Tryd.prog Rows.placeJoinedRow.laid ((laidWorld os).forCall (fun _ _ => 0) ⟨#[], wargs, []⟩).memory :=
  laidMet_of_run' 8 (by kernel_rfl) (by kernel_rfl)
theorem reads (os : Os) {H : Type} (enc : TypeId × Value → H) : ∃ places, DataW.whole enc Tryd.prog ((laidWorld os).forCall (fun _ _ => 0) ⟨#[], wargs, []⟩).memory Tryd.f3.params.toList Rows.placeJoinedSpec.vars false wargs.toList 8 = some ([.agg [.lit (.int .i64 0), .lit (.int .i64 0), .lit (.int .i64 0)], .lit (.string []), .lit (.string [])], [], places) :=
  ⟨[], by kernel_rfl⟩

set_option maxRecDepth 100000 in
theorem lifted (os : Os) (started : os.Started) (H : Type) (enc : TypeId × Value → H) (F : Stop.Interp) :
    ReturnsInHanded {} Tryd.checked os 3 .any ((OpenSpec.ofChange Rows.placeJoinedSpec).preRow enc Tryd.prog Tryd.f3 Rows.placeJoinedRow.domain false Rows.placeJoinedRow.laid) (((OpenSpec.ofChange Rows.placeJoinedSpec).at F).post enc Tryd.prog Tryd.f3 false true false false) := by
  obtain ⟨places, hx⟩ := reads os enc
  refine returnsInHanded_of_row (C := Tryd.checked) (s := OpenSpec.ofChange Rows.placeJoinedSpec) own started (by kernel_rfl) Tryd.func3
    (witness_row_at (enc := enc) (C := Tryd.checked) false (laidWorld os) wargs rfl (by kernel_rfl) (by kernel_rfl) (by kernel_rfl)
      (OpenSpec.preRow_of_cond 8 hx (by kernel_rfl) (fun k hk => by cases hk) (by kernel_rfl) (laid_met os))) ?_
  intro W base args ds gs before hval hW _ _ _ hL hS _
  exact contract H enc W base args ds gs before hval hW hL (Tryd.laysM145.s1_3 W hS)

theorem said : Rows.PlaceJoinedSaid :=
  OpenClaim.holds_of_cond 3 Tryd.f3 rfl rfl rfl rfl rfl rfl rfl ⟨rfl, rfl, rfl, rfl, rfl⟩ rfl rfl rfl rfl rfl (by kernel_rfl) Tryd.func3 (by kernel_rfl)
    (of_decide_eq_true (by kernel_rfl)) (by unfold Func.isWrapper; first | (rw [if_pos (by decide +kernel)]; kernel_rfl) | (rw [if_neg (by decide +kernel)]; exact ⟨rfl, rfl⟩))
    (fun os started H enc _ F => by rw [OpenClaim.pre_eq_preRow]; exact lifted os started H enc F)

theorem plain (f : FuncId) (fn : Func) (hf : Tryd.pinned.checked.prog.funcNamed "colophon/colophonlaw03.PlaceJoined" = some f) (hfn : Tryd.pinned.checked.prog.funcs[f]? = some fn) :
    Rows.placeJoinedCard.stood.looks = Tryd.pinned.checked.prog.looks [] ∧ ∀ (j : Nat) t, fn.params[j]? = some t → Tryd.pinned.checked.prog.wantsStandIn t = false := by
  obtain rfl : f = 3 := Option.some.inj ((show Tryd.prog.funcNamed "colophon/colophonlaw03.PlaceJoined" = some 3 by kernel_rfl).symm.trans hf) |>.symm
  obtain rfl : fn = Tryd.f3 := (Option.some.inj (Tryd.func3.symm.trans hfn)).symm
  refine ⟨by kernel_rfl, fun j t ht => ?_⟩
  rw [Tryd.params3] at ht
  have hm : t = 23 ∨ t = 9 := by simpa using Array.mem_of_getElem? ht
  rcases hm with rfl | rfl
  · exact (show Tryd.prog.wantsStandIn 23 = false by kernel_rfl)
  · exact (show Tryd.prog.wantsStandIn 9 = false by kernel_rfl)

theorem card : Rows.PlaceJoinedCardSaid :=
  Claim7.holds_tied_plain_at .later [] _ _ _ _ said (fun _ h => by cases h) (by kernel_rfl) (fun _ h => by cases h) placeJoined_row_tie rfl ⟨rfl, rfl⟩ (by kernel_rfl) rfl plain (by kernel_rfl)
end Go.Proofs.YtlglnepfcihhiaaDoor.placeJoined
#print axioms Go.Proofs.YtlglnepfcihhiaaDoor.placeJoined.card
