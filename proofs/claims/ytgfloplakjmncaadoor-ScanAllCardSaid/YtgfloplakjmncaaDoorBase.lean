/- What a call leaves as it was; what lies in a block. By an AI agent; no person has read it. -/
import Derived.Test.YtgfloplakjmncaaDoorProg
import Derived.WalkKit
import Derived.WalkSpells
import Derived.WalkLawsBesides
import Derived.Lib.Walk
import Derived.Lib.Hide
import Derived.Laws.RangeString
import Derived.Laws.RangeAny
import Derived.LoopTactic
import Derived.Outline
import Derived.RangeFuncRecord
import Derived.Lib.Strings
import Derived.Lib.IndexBytes
set_option linter.unusedSimpArgs false
set_option linter.unusedVariables false
namespace Go.Proofs.YtgfloplakjmncaaDoor
open Go Go.RowKit
/-- Of what was there, nothing has turned. -/
abbrev Kp (w w' : World) : Prop := Below w.heap.size w w'
theorem Kp.refl (w : World) : Kp w w := Below.refl _ _
theorem Kp.trans {a b c : World} (h : Kp a b) (k : Kp b c) : Kp a c := Below.trans h ⟨k.os, k.tape, k.output, k.size, fun i hi => k.block i (Nat.lt_of_lt_of_le hi h.size)⟩
theorem Kp.alloc {a b : World} (h : Kp a b) (o : Obj) : Kp a (b.alloc o) := Below.alloc h h.size o
theorem Kp.drew {a b : World} (h : Kp a b) : Kp a b.drew := ⟨h.os, h.tape, h.output, h.size, h.block⟩
theorem Kp.drewN {a b : World} (h : Kp a b) (n : Nat) : Kp a (b.drewN n) := ⟨h.os, h.tape, h.output, h.size, h.block⟩
theorem Kp.iter {a b : World} (h : Kp a b) (s : ByteArray) (pos : Nat) : Kp a (b.iter s pos) := by
  exact h.alloc _
end Go.Proofs.YtgfloplakjmncaaDoor
namespace Go.Proofs.YtgfloplakjmncaaDoor
open Go Go.RowKit
/-- Block b holds these cells. -/
def Has (w : World) (b : Nat) (cs : Array Value) (ty : TypeId) : Prop := w.heap[b]? = some (.cells cs ty)
theorem Has.lt {w : World} {b : Nat} {cs : Array Value} {ty : TypeId} (h : Has w b cs ty) : b < w.heap.size := (Array.getElem?_eq_some_iff.1 h).1
theorem Has.cell {w : World} {b : Nat} {cs : Array Value} {ty : TypeId} (h : Has w b cs ty) (i : Nat) : w.cell? ⟨b, i, none⟩ = cs[i]? := by
  unfold Has at h; simp [World.cell?, h]
theorem Has.frozen {w : World} {b : Nat} {cs : Array Value} {ty : TypeId} (h : Has w b cs ty) (i : Nat) : w.frozen? ⟨b, i, none⟩ = false := by
  unfold Has at h; simp [World.frozen?, h]
theorem heap_set_other (w : World) (a : Addr) (v : Value) (k : Nat) (h : k ≠ a.block) : (w.setCell a v).heap[k]? = w.heap[k]? := by
  simp [World.setCell, Array.getElem?_modify, Ne.symm h]
theorem Has.set {w : World} {b : Nat} {cs : Array Value} {ty : TypeId} (h : Has w b cs ty) (i : Nat) (v : Value) : Has (w.setCell ⟨b, i, none⟩ v) b (cs.setIfInBounds i v) ty := by
  unfold Has at h ⊢
  simp [World.setCell, Array.getElem?_modify, h]
theorem Has.set_other {w : World} {b : Nat} {cs : Array Value} {ty : TypeId} (h : Has w b cs ty) (a : Addr) (v : Value) (hn : b ≠ a.block) : Has (w.setCell a v) b cs ty := by
  unfold Has at h ⊢; rw [heap_set_other _ _ _ _ hn]; exact h
theorem heap_alloc_old (w : World) (o : Obj) (k : Nat) (h : k < w.heap.size) : (w.alloc o).heap[k]? = w.heap[k]? := Below.heap_alloc w o k h
theorem Has.alloc {w : World} {b : Nat} {cs : Array Value} {ty : TypeId} (h : Has w b cs ty) (o : Obj) : Has (w.alloc o) b cs ty := by
  unfold Has at h ⊢; rw [heap_alloc_old _ _ _ (Has.lt h)]; exact h
theorem Has.new (w : World) (cs : Array Value) (ty : TypeId) : Has (w.alloc (.cells cs ty)) w.heap.size cs ty := World.alloc_heap_new w _
theorem Has.drew {w : World} {b : Nat} {cs : Array Value} {ty : TypeId} (h : Has w b cs ty) : Has w.drew b cs ty := h
theorem Has.drewN {w : World} {b : Nat} {cs : Array Value} {ty : TypeId} (h : Has w b cs ty) (n : Nat) : Has (w.drewN n) b cs ty := h
theorem Has.kp {w w' : World} {b : Nat} {cs : Array Value} {ty : TypeId} (h : Has w b cs ty) (k : Kp w w') : Has w' b cs ty := by
  unfold Has at h ⊢; rw [k.block b (Has.lt h)]; exact h
theorem heap_kp {w w' : World} (k : Kp w w') {b : Nat} {o : Obj} (h : w.heap[b]? = some o) : w'.heap[b]? = some o := by
  rw [k.block b (Array.getElem?_eq_some_iff.1 h).1]; exact h
theorem Kp.setCell {a b : World} (h : Kp a b) {q : Addr} (hq : a.heap.size ≤ q.block) (v : Value) : Kp a (b.setCell q v) := Below.setCell h hq v
theorem Kp.of {a b c : World} (h : Kp a b) (k : Below b.heap.size b c) : Kp a c := Kp.trans h k
theorem ret_bool {a b : Bool} (h : a = b) : Ending.returned (.bool a) = Ending.returned (.bool b) := by rw [h]
theorem ret_str {a b : ByteArray} (h : a = b) : Ending.returned (.string a) = Ending.returned (.string b) := by rw [h]
theorem extract_list (s : ByteArray) (a : Nat) : (s.extract a s.size).data.toList = s.data.toList.drop a := by
  rw [Lib.extract_data]
  exact List.take_of_length_le (by simp)
end Go.Proofs.YtgfloplakjmncaaDoor
