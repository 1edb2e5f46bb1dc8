/- The contract of place.Line. By an AI agent; no person has read it. -/
import Derived.Test.YtlglnepfcihhiaaDoorRange
set_option linter.unusedSimpArgs false
set_option linter.unusedVariables false
namespace Go.Proofs.YtlglnepfcihhiaaDoor
open Go Go.RowKit
attribute [local go_sem] Oper.semAt_some

/-- The line that place.Line comes to. -/
def lineF : Nat → ByteArray → Int → Option ByteArray
  | 0, _, _ => none
  | f + 1, t, m => if wrap64 (m - 1) = 0 then some (cut1 t) else if cut3 t = true then lineF f (cut2 t) (wrap64 (m - 1)) else none

/-- The world of place.Line's loop: its four variables. -/
structure LJ (w : World) (m : Int) (r : ByteArray) (fnd : Bool) (t : ByteArray) (W : World) : Prop where
  kp : Kp w W
  c0 : Has W w.heap.size #[.int .i64 m] 3
  c1 : Has W (w.heap.size + 1) #[.string r] 9
  c2 : Has W (w.heap.size + 1 + 1) #[.bool fnd] 4
  c3 : Has W (w.heap.size + 1 + 1 + 1) #[.string t] 9
theorem LJ.below {w W W' : World} {m : Int} {r t : ByteArray} {fnd : Bool} (h : LJ w m r fnd t W) {b : Nat} (hb : w.heap.size + 1 + 1 + 1 < b) (k : Below b W W') : LJ w m r fnd t W' := by
  have hh : ∀ {i : Nat} {cs : Array Value} {ty : TypeId}, i < b → Has W i cs ty → Has W' i cs ty := fun hi hx => by unfold Has at hx ⊢; rw [k.block _ hi]; exact hx
  exact ⟨⟨k.os.trans h.kp.os, k.tape.trans h.kp.tape, k.output.trans h.kp.output, Nat.le_trans h.kp.size k.size, fun i hi => (k.block i (by omega)).trans (h.kp.block i hi)⟩, hh (by omega) h.c0, hh (by omega) h.c1, hh (by omega) h.c2, hh (by omega) h.c3⟩
theorem LJ.set0 {w W : World} {m : Int} {r t : ByteArray} {fnd : Bool} (h : LJ w m r fnd t W) (x : Int) : LJ w x r fnd t (W.setCell ⟨w.heap.size, 0, none⟩ (.int .i64 x)) :=
  ⟨h.kp.setCell (Nat.le_refl _) _, h.c0.set 0 _, h.c1.set_other _ _ (by simp), h.c2.set_other _ _ (by show w.heap.size + 1 + 1 ≠ w.heap.size; omega), h.c3.set_other _ _ (by show w.heap.size + 1 + 1 + 1 ≠ w.heap.size; omega)⟩
theorem LJ.set1 {w W : World} {m : Int} {r t : ByteArray} {fnd : Bool} (h : LJ w m r fnd t W) (x : ByteArray) : LJ w m x fnd t (W.setCell ⟨w.heap.size + 1, 0, none⟩ (.string x)) :=
  ⟨h.kp.setCell (by simp) _, h.c0.set_other _ _ (by simp), h.c1.set 0 _, h.c2.set_other _ _ (by simp), h.c3.set_other _ _ (by show w.heap.size + 1 + 1 + 1 ≠ w.heap.size + 1; omega)⟩
theorem LJ.set2 {w W : World} {m : Int} {r t : ByteArray} {fnd : Bool} (h : LJ w m r fnd t W) (x : Bool) : LJ w m r x t (W.setCell ⟨w.heap.size + 1 + 1, 0, none⟩ (.bool x)) :=
  ⟨h.kp.setCell (by show w.heap.size ≤ w.heap.size + 1 + 1; omega) _, h.c0.set_other _ _ (by show w.heap.size ≠ w.heap.size + 1 + 1; omega), h.c1.set_other _ _ (by simp), h.c2.set 0 _, h.c3.set_other _ _ (by simp)⟩
theorem LJ.set3 {w W : World} {m : Int} {r t : ByteArray} {fnd : Bool} (h : LJ w m r fnd t W) (x : ByteArray) : LJ w m r fnd x (W.setCell ⟨w.heap.size + 1 + 1 + 1, 0, none⟩ (.string x)) :=
  ⟨h.kp.setCell (by show w.heap.size ≤ w.heap.size + 1 + 1 + 1; omega) _, h.c0.set_other _ _ (by show w.heap.size ≠ w.heap.size + 1 + 1 + 1; omega), h.c1.set_other _ _ (by show w.heap.size + 1 ≠ w.heap.size + 1 + 1 + 1; omega), h.c2.set_other _ _ (by simp), h.c3.set 0 _⟩

set_option maxHeartbeats 1000000 in
theorem lines_calls (s : ByteArray) (w : World) :
    Calls Tryd.prog 18 #[.string s] w fun e w' => e = .returned (.func (.func 20) #[] #[.pointer (some ⟨w.heap.size, 0, none⟩)]) ∧ w' = w.alloc (.cells #[.string s] 9) := by
  have hmf : ∀ (fn : Fn) (first cap : Array Value) (w : World), (Instr.makeFunc fn first cap).run Tryd.prog w = .ok (.func fn first cap) w := fun _ _ _ _ => rfl
  go_enter Tryd.func18, Tryd.ntmps18
  go_wp2
  go_ret
  exact ⟨rfl, rfl⟩

set_option maxRecDepth 100000 in
set_option maxHeartbeats 2000000 in
theorem line_calls (s : ByteArray) (m : Int) (w : World) (hs : s.size < 4294967281) (hm : ML w) :
    Calls Tryd.prog 11 #[.string s, .int .i64 m] w fun e w' => e = .returned (.tuple #[.string ((lineF (s.size + 1) s m).getD ByteArray.empty), .bool (lineF (s.size + 1) s m).isSome]) ∧ Kp w w' := by
  obtain ⟨R, hR⟩ : ∃ R, R = lineF (s.size + 1) s m := ⟨_, rfl⟩
  rw [← hR]
  refine (callsIn_wide (n := 9)).1 ?_
  refine callsIn_of_wp_marks Tryd.func11 rfl trivial ?_ rfl
  simp only [Tryd.ntmps11, List.size_toArray, List.length_cons, List.length_nil, Nat.reduceAdd, Nat.reduceSub, Array.replicate_succ, Array.replicate_zero, List.push_toArray, List.append_toArray, List.nil_append, List.cons_append]
  have HR := Lib.hid hR
  clear hR
  gi_wp2_with fail
  refine ⟨trivial, (callsIn_wide.2 (lines_calls _ _)).mono ?_⟩
  rintro e w' ⟨rfl, rfl⟩
  gi_wp2
  have hLJ0 : LJ w m ByteArray.empty false s ((((w.alloc (.cells #[.int .i64 m] 3)).alloc (.cells #[.string ⟨#[]⟩] 9)).alloc (.cells #[.bool false] 4)).alloc (.cells #[.string s] 9)) :=
    ⟨((((Kp.refl w).alloc _).alloc _).alloc _).alloc _, (((Has.new w _ _).alloc _).alloc _).alloc _, ((Has.new' _ _ _ (by simp)).alloc _).alloc _, (Has.new' _ _ _ (by simp)).alloc _, Has.new' _ _ _ (by simp)⟩
  refine wp_range_lines (B := w.heap.size + 1 + 1 + 1) (by simp) rfl
    (fun t W => ∃ m' f, LJ w m' ByteArray.empty false t W ∧ t.size ≤ s.size ∧ t.size < f ∧ lineF f t m' = R)
    (fun W => ∃ m' t, LJ w m' ByteArray.empty false t W ∧ R = none)
    (fun W => ∃ m' t v, LJ w m' v true t W ∧ R = some v) ?hI ?hId ?hIx ?hcell
    (fun x => { tmps := #[.string s, .int .i64 m, undef, .pointer (some ⟨w.heap.size, 0, none⟩), .pointer (some ⟨w.heap.size + 1, 0, none⟩), .pointer (some ⟨w.heap.size + 1 + 1, 0, none⟩), .string x, .string s, .func (.func 20) #[] #[.pointer (some ⟨w.heap.size + 1 + 1 + 1, 0, none⟩)], .string x, undef, undef, undef, undef, undef], defers := [] })
    ?assign ?body s ⟨m, s.size + 1, hLJ0, Nat.le_refl _, by omega, HR.out.symm⟩ ?done ?stop
  case hI => rintro t W W' ⟨m', f, h, h1, h2, h3⟩ hb; exact ⟨m', f, h.below (by simp) hb, h1, h2, h3⟩
  case hId => rintro W W' ⟨m', t, h, h1⟩ hb; exact ⟨m', t, h.below (by simp) hb, h1⟩
  case hIx => rintro W W' ⟨m', t, v, h, h1⟩ hb; exact ⟨m', t, v, h.below (by simp) hb, h1⟩
  case hcell => rintro t W ⟨m', f, h, h1, h2, h3⟩; exact ⟨h.c3, by omega, hm.kp h.kp⟩
  case assign =>
    intro l x W K hK
    gi_wp2
    exact hK
  case body =>
    rintro l t W ⟨m', f, h, h1, h2, h3⟩
    have c0 := h.c0.cell 0
    have f0 := h.c0.frozen 0
    have c1 := h.c1.cell 0
    have f1 := h.c1.frozen 0
    have c2 := h.c2.cell 0
    have f2 := h.c2.frozen 0
    simp only [List.getElem?_toArray, List.getElem?_cons_zero] at c0 c1 c2
    obtain ⟨f, rfl⟩ : ∃ g, f = g + 1 := ⟨f - 1, by omega⟩
    by_cases hz : wrap64 (m' - 1) = 0
    · have hz2 : (wrap64 (m' - 1) == 0) = true := by simp [hz]
      simp only [lineF, hz, if_true] at h3
      have H3 := Lib.hid h3
      clear h3 hz
      gi_wp2
      exact ⟨((KeepsOthers.setCell _ _ _).trans (KeepsOthers.setCell _ _ _)).trans (KeepsOthers.setCell _ _ _), _, t, cut1 t, ((h.set0 _).set1 _).set2 _, H3.out.symm⟩
    · have hz2 : (wrap64 (m' - 1) == 0) = false := by simp [hz]
      simp only [lineF, hz, if_false] at h3
      have H3 := Lib.hid h3
      clear h3 hz
      gi_wp2
      refine ⟨KeepsOthers.setCell _ _ _, (h.set0 _).c3, fun hc => ⟨_, t, h.set0 _, ?_⟩, fun hc => ⟨_, f, (h.set0 _).set3 _, ?_, ?_, ?_⟩⟩
      · rw [← H3.out, hc]; rfl
      · have := cut2_less t hc; omega
      · have := cut2_less t hc; omega
      · rw [← H3.out, hc]; rfl
  case done =>
    rintro D W hD ⟨m', t, h, rfl⟩ hK
    have c1 := h.c1.cell 0
    have f1 := h.c1.frozen 0
    have c2 := h.c2.cell 0
    have f2 := h.c2.frozen 0
    simp only [List.getElem?_toArray, List.getElem?_cons_zero] at c1 c2
    gi_wp2
    have hK' := ((KeepsOthers.setCell W ⟨w.heap.size + 1, 0, none⟩ (.string ⟨#[]⟩)).trans (KeepsOthers.setCell _ ⟨w.heap.size + 1 + 1, 0, none⟩ (.bool false))).same D _ hK rfl
    refine ⟨by simp, .inl ⟨_, _, rfl, run_takeDeferred hK', ?_⟩⟩
    have h4 := ((h.set1 ⟨#[]⟩).set2 false)
    simp at hD
    have h5 := h4.c1.put_other (l := D) (.deferred none) (by omega)
    have h6 := h4.c2.put_other (l := D) (.deferred none) (by omega)
    have c5 := h5.cell 0
    have c6 := h6.cell 0
    simp only [List.getElem?_toArray, List.getElem?_cons_zero] at c5 c6
    exact ⟨.tuple #[.string ⟨#[]⟩, .bool false], by simp [results, Tryd.results11, go_sem, c5, c6], rfl, h4.kp.putObj (by omega) _⟩
  case stop =>
    rintro D W hD ⟨m', t, v, h, rfl⟩ hK
    gi_wp2
    refine ⟨by simp, .inl ⟨_, _, rfl, run_takeDeferred hK, ?_⟩⟩
    simp at hD
    have h5 := h.c1.put_other (l := D) (.deferred none) (by omega)
    have h6 := h.c2.put_other (l := D) (.deferred none) (by omega)
    have c5 := h5.cell 0
    have c6 := h6.cell 0
    simp only [List.getElem?_toArray, List.getElem?_cons_zero] at c5 c6
    exact ⟨.tuple #[.string v, .bool true], by simp [results, Tryd.results11, go_sem, c5, c6], rfl, h.kp.putObj (by omega) _⟩
end Go.Proofs.YtlglnepfcihhiaaDoor
