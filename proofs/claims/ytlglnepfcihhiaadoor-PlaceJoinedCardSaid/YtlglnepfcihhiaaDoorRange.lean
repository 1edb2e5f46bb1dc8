/- A range over place.lines, whatever its body. By an AI agent; no person has read it. -/
import Derived.Test.YtlglnepfcihhiaaDoorLines
set_option linter.unusedSimpArgs false
set_option linter.unusedVariables false
namespace Go.Proofs.YtlglnepfcihhiaaDoor
open Go Go.RowKit

/-- How a round's body may be left. -/
def lineRound (B : Nat) (I : ByteArray → World → Prop) (Id Ix : World → Prop) (t : ByteArray) (W : World) : Exit → Act → World → Prop
  | .normal, _, W' => KeepsOthers W W' ∧ Has W' B #[.string t] 9 ∧ (cut3 t = false → Id W') ∧ (cut3 t = true → I (cut2 t) (W'.setCell ⟨B, 0, none⟩ (.string (cut2 t))))
  | .ret, _, W' => KeepsOthers W W' ∧ Ix W'
  | _, _, _ => False
theorem below_put {b : Nat} {W : World} {l : Nat} (o : Obj) (hl : b ≤ l) : Below b W (W.putObj l o) :=
  ⟨rfl, rfl, rfl, by simp, fun i hi => World.putObj_heap_other (by omega)⟩

set_option maxHeartbeats 1000000 in
theorem wp_range_lines {n : Nat} {assign body : Code} {Q : Exit → Act → World → Prop} {a : Act} {w : World} {g : Operand} {p : Tmp} {B : Nat} (hB : B < w.heap.size)
    (hg : a.eval g = .func (.func 20) #[] #[.pointer (some ⟨B, 0, none⟩)]) (I : ByteArray → World → Prop) (Id Ix : World → Prop)
    (hI : ∀ t W W', I t W → Below w.heap.size W W' → I t W') (hId : ∀ W W', Id W → Below w.heap.size W W' → Id W') (hIx : ∀ W W', Ix W → Below w.heap.size W W' → Ix W')
    (hcell : ∀ t W, I t W → Has W B #[.string t] 9 ∧ t.size < 4294967281 ∧ ML W) (a₁ : ByteArray → Act)
    (hassign : ∀ (l : Nat) (x : ByteArray) (W : World) (K : Act → World → Prop), K (a₁ x) W →
      assign.wpIn (Fence.wide.inRound l) (n - 1 - 1) Tryd.prog (Exit.then K (fun _ _ _ => False)) { tmps := a.tmps.setIfInBounds p (.string x), defers := [] } W)
    (hbody : ∀ (l : Nat) (t : ByteArray) (W : World), I t W → body.wpIn (Fence.wide.inRound l) (n - 1 - 1) Tryd.prog (lineRound B I Id Ix t W) (a₁ (cut1 t)) W)
    (s : ByteArray) (h0 : I s w)
    (hdone : ∀ (D : Nat) (W : World), w.heap.size ≤ D → Id W → W.heap[D]? = some (.deferred (some [])) → Q .normal { a with defers := { target := .collected D, args := #[] } :: a.defers } W)
    (hstop : ∀ (D : Nat) (W : World), w.heap.size ≤ D → Ix W → W.heap[D]? = some (.deferred (some [])) → Code.ret.wpIn Fence.wide n Tryd.prog Q { a with defers := { target := .collected D, args := #[] } :: a.defers } W) :
    (Code.rangeFunc g #[p] assign body).wpIn Fence.wide n Tryd.prog Q a w := by
  have eg : ∀ args w, (callFunc 20 args).run Tryd.prog w = .ok (.enter 20 args) w := enters_of Tryd.func20 (by kernel_rfl) rfl
  refine wpIn_rangeFunc ?_
  intro fn _
  obtain ⟨rec, hrec⟩ : ∃ rec : LoopState → Option Code → Loop, rec = fun st pe => { state := st, pending := pe, fn, tmps := a.tmps, params := #[p], assign, body, defers := w.heap.size } := ⟨_, rfl⟩
  have hb1 : Below w.heap.size w ((w.alloc (.deferred (some []))).alloc (.loop (rec .ready none))) := ((Below.refl _ w).alloc (Nat.le_refl _) _).alloc (by simp) _
  have hL1 : ((w.alloc (.deferred (some []))).alloc (.loop (rec .ready none))).heap[w.heap.size + 1]? = some (.loop (rec .ready none)) := by
    have := World.alloc_heap_new (w.alloc (.deferred (some []))) (.loop (rec .ready none)); rwa [World.size_alloc] at this
  have hK1 : ((w.alloc (.deferred (some []))).alloc (.loop (rec .ready none))).heap[w.heap.size]? = some (.deferred (some [])) := by
    exact (Below.heap_alloc _ _ _ (by simp)).trans (World.alloc_heap_new w _)
  refine ⟨w.heap.size + 1, [{ target := .collected w.heap.size, args := #[] }], (w.alloc (.deferred (some []))).alloc (.loop (rec .ready none)), { target := .fn (.func 20) #[.pointer (some ⟨B, 0, none⟩)], args := #[.func (.yield (w.heap.size + 1)) #[] #[]] },
    (w.alloc (.deferred (some []))).alloc (.loop (rec .ready none)), 20, #[.func (.yield (w.heap.size + 1)) #[] #[], .pointer (some ⟨B, 0, none⟩)], (w.alloc (.deferred (some []))).alloc (.loop (rec .ready none)), ?_, ?_, fun _ _ => trivial, ?_, fun h => by simp [Fence.wide] at h, ?_⟩
  · rw [hrec]; exact run_enterLoop_outer _ _ _ _ _
  · simp only [resolve, hg]
    simp [go_sem]
  · simp [invoke, go_sem, eg]
  · -- the iterator's contract, over the caller's invariant and the loop's own two blocks
    refine (lines1_in (n - 1) (w.heap.size + 1) B
      (fun t W => I t W ∧ W.heap[w.heap.size + 1]? = some (.loop (rec .ready none)) ∧ W.heap[w.heap.size]? = some (.deferred (some [])))
      (fun W => Id W ∧ W.heap[w.heap.size + 1]? = some (.loop (rec .ready none)) ∧ W.heap[w.heap.size]? = some (.deferred (some [])))
      (fun W => Ix W ∧ W.heap[w.heap.size + 1]? = some (.loop (rec .done (some .ret))) ∧ W.heap[w.heap.size]? = some (.deferred (some [])))
      ?_ ?_ s ((w.alloc (.deferred (some []))).alloc (.loop (rec .ready none))) (show I s _ ∧ _ ∧ _ from ⟨hI _ _ _ h0 hb1, hL1, hK1⟩)).mono ?_
    · rintro t W ⟨hi, hl, hk⟩
      obtain ⟨h1, h2, h3⟩ := hcell t W hi
      exact ⟨by rw [h1.cell]; rfl, h2, h3, fun k => ⟨hI t W (W.drewN k) hi (⟨rfl, rfl, rfl, Nat.le_refl _, fun _ _ => rfl⟩ : Below w.heap.size W (W.drewN k)), hl, hk⟩⟩
    · -- one round
      rintro t W ⟨hi, hl, hk⟩
      have hlt : w.heap.size + 1 < W.heap.size := (Array.getElem?_eq_some_iff.1 hl).1
      have hy := run_yield (P := Tryd.prog) (args := #[.string (cut1 t)]) hl (by rw [hrec]; rfl)
      rw [hrec] at hy
      simp only [List.zip_toArray, List.zip_cons_cons, List.zip_nil_right, List.size_toArray, List.length_cons, List.length_nil, List.foldl_toArray', List.foldl_cons, List.foldl_nil] at hy
      refine ⟨fn, _, assign, body, hy, roundIn_of_wpIn trivial ?_⟩
      refine hassign _ (cut1 t) W _ ?_
      refine ⟨_, run_beginRound hl (by rw [hrec]), ?_⟩
      have hl2 : (W.putObj (w.heap.size + 1) (.loop { rec .ready none with state := .busy })).heap[w.heap.size + 1]? = some (.loop { rec .ready none with state := .busy }) := World.putObj_heap_same hlt
      have hk2 : (W.putObj (w.heap.size + 1) (.loop { rec .ready none with state := .busy })).heap[w.heap.size]? = some (.deferred (some [])) := (World.putObj_heap_other (by omega)).trans hk
      refine wpIn_mono (hbody _ t _ (hI _ _ _ hi (below_put _ (by omega)))) ?_
      rintro e a3 W3 hp
      cases e with
      | normal =>
        obtain ⟨hko, hB3, hd3, hj3⟩ := hp
        have hl3 := hko.same _ _ hl2 rfl
        have hk3 := hko.same _ _ hk2 rfl
        have hlt3 := (Array.getElem?_eq_some_iff.1 hl3).1
        have hB4 : Has (W3.putObj (w.heap.size + 1) (.loop (rec .ready none))) B #[.string t] 9 := hB3.put_other _ (by omega)
        refine ⟨_, _, run_endRound none hl3, .inl ⟨rfl, ?_, ?_, ?_, ?_⟩⟩
        · have := hB4.cell 0; rw [hrec] at this ⊢; exact this
        · have := hB4.frozen 0; rw [hrec] at this ⊢; exact this
        · intro hc
          refine ⟨hId _ _ (hd3 hc) (below_put _ (by omega)), ?_, (World.putObj_heap_other (by omega)).trans hk3⟩
          rw [World.putObj_heap_same hlt3, hrec]; rfl
        · intro hc
          refine ⟨hI _ _ _ (hj3 hc) ?_, ?_, ?_⟩
          · refine ⟨rfl, rfl, rfl, by simp [World.setCell], fun i hi => ?_⟩
            by_cases hib : i = B
            · subst hib
              have e1 := (hB3.set 0 (.string (cut2 t)))
              have e2 := ((hB3.put_other (l := w.heap.size + 1) (.loop { rec .ready none with state := if (none : Option Code).isNone then .ready else .done, pending := none }) (by omega)).set 0 (.string (cut2 t)))
              unfold Has at e1 e2
              rw [e1]; exact e2
            · rw [heap_set_other _ _ _ _ (by simpa using hib), heap_set_other _ _ _ _ (by simpa using hib), World.putObj_heap_other (by omega)]
          · rw [heap_set_other _ _ _ _ (by simp; omega), World.putObj_heap_same hlt3, hrec]; rfl
          · rw [heap_set_other _ _ _ _ (by simp; omega)]; exact (World.putObj_heap_other (by omega)).trans hk3
      | ret =>
        obtain ⟨hko, hx3⟩ := hp
        have hl3 := hko.same _ _ hl2 rfl
        have hk3 := hko.same _ _ hk2 rfl
        have hlt3 := (Array.getElem?_eq_some_iff.1 hl3).1
        refine ⟨_, _, run_endRound (some .ret) hl3, .inr ⟨rfl, hIx _ _ hx3 (below_put _ (by omega)), ?_, (World.putObj_heap_other (by omega)).trans hk3⟩⟩
        rw [World.putObj_heap_same hlt3, hrec]; rfl
      | exit id => exact hp.elim
      | goto t => exact hp.elim
      | panic ch => exact hp.elim
      | outgrown => exact hp.elim
    · -- behind the iterator
      rintro e W2 ⟨⟨v, rfl⟩, (⟨hi, hl, hk⟩ | ⟨hi, hl, hk⟩)⟩
      · have he := run_endLoop (P := Tryd.prog) hl (by rw [hrec]; simp)
        rw [hrec] at he
        refine ⟨none, _, he, hdone _ _ (Nat.le_refl _) (hId _ _ hi (below_put _ (by omega))) ((World.putObj_heap_other (by omega)).trans hk)⟩
      · have he := run_endLoop (P := Tryd.prog) hl (by rw [hrec]; simp)
        rw [hrec] at he
        refine ⟨some .ret, _, he, hstop _ _ (Nat.le_refl _) (hIx _ _ hi (below_put _ (by omega))) ((World.putObj_heap_other (by omega)).trans hk)⟩
end Go.Proofs.YtlglnepfcihhiaaDoor
