/- Plain: letters, words, signs; what the scanner functions come to. By an AI agent; no person has read it. -/
import Derived.Lib.SlicesS
import Derived.Lib.Bytealg
import Derived.Lib.Strings
import Derived.Test.YtgfloplakjmncaaDoorTxt
set_option linter.unusedSimpArgs false
set_option linter.unusedVariables false
namespace Go.Proofs.YtgfloplakjmncaaDoor
def letterTab : List (Int × Int) := [(65, 90), (97, 122), (192, 214), (216, 246), (248, 591), (913, 929), (931, 974), (1024, 1119), (1488, 1514), (1568, 1610), (2308, 2361), (12353, 12438), (12449, 12538), (19968, 40959), (44032, 55203), (66560, 66639), (131072, 196607)]
def otherTab : List (Int × Int) := [(48, 57), (95, 95), (768, 879)]
/-- Does a number lie in one of the ranges? -/
def inTab (l : List (Int × Int)) (p : Int) : Bool := l.any fun z => decide (z.1 ≤ p) && decide (p ≤ z.2)
def letterB (p : Int) : Bool := inTab letterTab p
def partB (p : Int) : Bool := inTab otherTab p || letterB p
theorem inTab_yes (l : List (Int × Int)) (p : Int) (i : Nat) (h : i < l.length) (h1 : (l.getD i (0, 0)).1 ≤ p) (h2 : p ≤ (l.getD i (0, 0)).2) : inTab l p = true := by
  unfold inTab
  rw [List.any_eq_true]
  refine ⟨l[i], List.getElem_mem h, ?_⟩
  simp only [List.getD_eq_getElem?_getD, List.getElem?_eq_getElem h, Option.getD_some] at h1 h2
  simp [h1, h2]
theorem inTab_no (l : List (Int × Int)) (p : Int) (h : ∀ i, i < l.length → ¬ ((l.getD i (0, 0)).1 ≤ p ∧ p ≤ (l.getD i (0, 0)).2)) : inTab l p = false := by
  unfold inTab
  rw [List.any_eq_false]
  intro z hz
  obtain ⟨i, hi, rfl⟩ := List.getElem_of_mem hz
  have := h i hi
  simp only [List.getD_eq_getElem?_getD, List.getElem?_eq_getElem hi, Option.getD_some] at this
  simpa using this
/-- The cells of a table of pairs. -/
def tabCells (l : List (Int × Int)) : List Int := l.flatMap fun z => [z.1, z.2]
end Go.Proofs.YtgfloplakjmncaaDoor
namespace Go.Proofs.YtgfloplakjmncaaDoor
open Go
/-- The words of the language. -/
def keyZs : List ByteArray := [⟨#[97, 110, 100]⟩, ⟨#[97, 114, 114, 97, 121]⟩, ⟨#[98, 101, 103, 105, 110]⟩, ⟨#[99, 111, 110, 115, 116]⟩, ⟨#[100, 111]⟩, ⟨#[101, 108, 105, 102]⟩, ⟨#[101, 108, 115, 101]⟩, ⟨#[101, 110, 100]⟩, ⟨#[102, 111, 114]⟩, ⟨#[105, 102]⟩, ⟨#[110, 111, 116]⟩, ⟨#[111, 102]⟩, ⟨#[111, 114]⟩, ⟨#[112, 114, 111, 99]⟩, ⟨#[112, 114, 111, 103, 114, 97, 109]⟩, ⟨#[114, 101, 99, 111, 114, 100]⟩, ⟨#[114, 101, 112, 101, 97, 116]⟩, ⟨#[114, 101, 116, 117, 114, 110]⟩, ⟨#[115, 107, 105, 112]⟩, ⟨#[116, 104, 101, 110]⟩, ⟨#[116, 111]⟩, ⟨#[117, 110, 116, 105, 108]⟩, ⟨#[118, 97, 114]⟩, ⟨#[119, 104, 105, 108, 101]⟩]
def keyB (s : ByteArray) : Bool := Lib.containsS keyZs s
/-- The signs of two bytes, and of one. -/
def twoZs : List ByteArray := [⟨#[58, 61]⟩, ⟨#[46, 46]⟩, ⟨#[60, 61]⟩, ⟨#[62, 61]⟩]
def oneSigns : List UInt8 := [59, 46, 44, 58, 61, 35, 60, 62, 40, 41, 91, 93, 43, 45, 42, 47, 37]
/-- class.Sign of what stands from a place on. -/
def signB (t : ByteArray) : ByteArray :=
  if t.size = 0 then ⟨#[]⟩
  else match twoZs.find? (fun z => Lib.hasPrefix t.data.toList z.data.toList) with
    | some z => z
    | none => if 0 ≤ Lib.indexByte oneSigns (t.data.toList.getD 0 0) then t.extract 0 1 else ⟨#[]⟩
theorem find_at {α : Type} (p : α → Bool) : ∀ (l : List α) (i : Nat) (h : i < l.length), (∀ j (hj : j < i), p (l[j]'(by omega)) = false) → p l[i] = true → l.find? p = some l[i]
  | [], i, h, _, _ => absurd h (Nat.not_lt_zero _)
  | a :: l, 0, _, _, hp => by simp only [List.getElem_cons_zero] at hp; simp [List.find?_cons, hp]
  | a :: l, i + 1, h, hn, hp => by
    have h0 := hn 0 (by omega)
    simp only [List.getElem_cons_zero] at h0
    simp only [List.getElem_cons_succ] at hp ⊢
    rw [List.find?_cons, h0]
    exact find_at p l i (by simpa using h) (fun j hj => by simpa using hn (j + 1) (by omega)) hp
theorem find_none {α : Type} (p : α → Bool) (l : List α) (hn : ∀ j (hj : j < l.length), p l[j] = false) : l.find? p = none := by
  rw [List.find?_eq_none]
  intro x hx
  obtain ⟨j, hj, rfl⟩ := List.getElem_of_mem hx
  simp [hn j hj]
end Go.Proofs.YtgfloplakjmncaaDoor
namespace Go.Proofs.YtgfloplakjmncaaDoor
open Go
/-- How long a name is, k bytes of it gone through (none: too long). -/
def namedF : Nat → List UInt8 → Nat → Option Nat
  | 0, _, _ => none
  | f + 1, l, k =>
    if (nextL l).2.2 = true ∧ partB (nextL l).1 = true then
      if k + (nextL l).2.1 > 65535 then none else namedF f (l.drop (nextL l).2.1) (k + (nextL l).2.1)
    else some k
/-- A token's kind and end, or an error and its place. -/
def namedO (s : ByteArray) (at_ : Nat) : Option Nat → Nat × Nat × Nat
  | none => (0, at_, 103)
  | some k => (if keyB (s.extract at_ (at_ + k)) = true then 2 else 1, at_ + k, 0)
def namedR (s : ByteArray) (at_ e : Nat) : Nat × Nat × Nat := namedO s at_ (namedF (s.size - e + 1) (s.data.toList.drop e) (e - at_))
/-- A number's. -/
def numberedF : Nat → List UInt8 → Nat → Option Nat
  | 0, _, _ => none
  | f + 1, l, k =>
    if 0 < (nextL l).2.1 ∧ 48 ≤ (nextL l).1 ∧ (nextL l).1 ≤ 57 then
      if k + (nextL l).2.1 > 65535 then none else numberedF f (l.drop (nextL l).2.1) (k + (nextL l).2.1)
    else some k
def numberedO (at_ : Nat) : Option Nat → Nat × Nat × Nat
  | none => (0, at_, 103)
  | some k => (3, at_ + k, 0)
def numberedR (s : ByteArray) (at_ e : Nat) : Nat × Nat × Nat := numberedO at_ (numberedF (s.size - e + 1) (s.data.toList.drop e) (e - at_))
/-- May a character not stand in a text? -/
def controlB (v : Nat) (good : Bool) : Bool := good && (decide (v < 32) || decide (v = 127))
/-- A text's (kind, how many bytes from its first one on, error). -/
def quotedF : Nat → List UInt8 → Nat → Nat × Nat × Nat
  | 0, _, _ => (0, 0, 101)
  | f + 1, l, k =>
    if (nextL l).2.1 = 0 then (0, 0, 101)
    else if (nextL l).1 = 10 then (0, 0, 101)
    else if k + (nextL l).2.1 > 65535 then (0, 0, 103)
    else if controlB (nextL l).1 (nextL l).2.2 = true then (0, k, 102)
    else if (nextL l).1 = 34 then (4, k + (nextL l).2.1, 0)
    else quotedF f (l.drop (nextL l).2.1) (k + (nextL l).2.1)
def offR (at_ : Nat) (r : Nat × Nat × Nat) : Nat × Nat × Nat := (r.1, at_ + r.2.1, r.2.2)
theorem offR_eq {at_ a k e p : Nat} (h : at_ + k = p) : offR at_ (a, k, e) = (a, p, e) := by subst h; rfl
def quotedR (s : ByteArray) (at_ e : Nat) : Nat × Nat × Nat := offR at_ (quotedF (s.size - e + 1) (s.data.toList.drop e) (e - at_))
/-- A comment's. -/
def commentF (line : Bool) : Nat → List UInt8 → Nat → Nat × Nat × Nat
  | 0, _, _ => (0, 0, 101)
  | f + 1, l, k =>
    if (nextL l).2.1 = 0 then (if line = true then (7, k, 0) else (0, 0, 101))
    else if line = true ∧ (nextL l).1 = 10 then (7, k, 0)
    else if k + (nextL l).2.1 > 65535 then (0, 0, 103)
    else if line = false ∧ (nextL l).1 = 125 then (8, k + (nextL l).2.1, 0)
    else commentF line f (l.drop (nextL l).2.1) (k + (nextL l).2.1)
def commentR (line : Bool) (s : ByteArray) (at_ e : Nat) : Nat × Nat × Nat := offR at_ (commentF line (s.size - e + 1) (s.data.toList.drop e) (e - at_))
/-- A character between quotes. -/
def singleF (l : List UInt8) (k : Nat) : Nat × Nat × Nat :=
  if (nextL l).2.1 = 0 then (0, 0, 101)
  else if (nextL l).1 = 10 then (0, 0, 101)
  else if (nextL l).1 = 39 then (0, k, 102)
  else if controlB (nextL l).1 (nextL l).2.2 = true then (0, k, 102)
  else if (nextL (l.drop (nextL l).2.1)).2.1 = 0 then (0, 0, 101)
  else if (nextL (l.drop (nextL l).2.1)).1 = 10 then (0, 0, 101)
  else if (nextL (l.drop (nextL l).2.1)).1 = 39 then (5, k + (nextL l).2.1 + (nextL (l.drop (nextL l).2.1)).2.1, 0)
  else (0, k + (nextL l).2.1, 102)
def singleR (s : ByteArray) (at_ e : Nat) : Nat × Nat × Nat := offR at_ (singleF (s.data.toList.drop e) (e - at_))
end Go.Proofs.YtgfloplakjmncaaDoor
