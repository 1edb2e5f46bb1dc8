/- Plain: ScanJoins: of two texts with a line end between, the tokens are those of the one, and then those of the other one. By an AI agent; no person has read it. -/
import Derived.Test.YtgfloplakjmncaaDoorBegLaw
set_option linter.unusedSimpArgs false
set_option linter.unusedVariables false
namespace Go.Proofs.YtgfloplakjmncaaDoor
open Go Go.RowKit
/-- The places of b's tokens, behind `off` bytes. -/
def TkRel (off : Nat) (t t' : Tk) : Prop := t'.kind = t.kind ∧ t'.text = t.text ∧ (∃ m : Nat, t.place.at_ = (m : Int) ∧ t'.place.at_ = ((off + m : Nat) : Int)) ∧ t'.place.col = t.place.col
/-- All but the first one's line ends are the same. -/
def TksRel (off : Nat) : Bool → List Tk → List Tk → Prop
  | _, [], l' => l' = []
  | first, t :: l, l' => ∃ t' r', l' = t' :: r' ∧ TkRel off t t' ∧ (first = false → t'.feeds = t.feeds) ∧ TksRel off false l r'
theorem TksRel.at {off : Nat} : ∀ {f : Bool} {l l' : List Tk}, TksRel off f l l' → ∀ (i : Nat) (hi : i < l.length) (hi' : i < l'.length), TkRel off l[i] l'[i] ∧ (0 < i ∨ f = false → l'[i].feeds = l[i].feeds)
  | _, [], l', h, i, hi, _ => absurd hi (by simp)
  | f, t :: l, l', h, i, hi, hi' => by
    obtain ⟨t', r', rfl, h2, h3, h4⟩ := h
    cases i with
    | zero => exact ⟨h2, fun hh => h3 (by rcases hh with hh | hh; · omega
                                          · exact hh)⟩
    | succ i =>
      have := TksRel.at h4 i (by simpa using hi) (by simpa using hi')
      exact ⟨this.1, fun _ => this.2 (.inr rfl)⟩
/-- Two places, of which the one stands `off` bytes behind the other one. -/
def PlRel (off m : Nat) (p p' : Pl) : Prop := p.at_ = (m : Int) ∧ p'.at_ = ((off + m : Nat) : Int) ∧ p'.col = p.col
theorem PlRel.adv {off m : Nat} {p p' : Pl} (h : PlRel off m p p') (x : List UInt8) (hb : off + m + x.length < 4611686018427387904) : PlRel off (m + x.length) (adv p x) (adv p' x) := by
  obtain ⟨h1, h2, h3⟩ := h
  refine ⟨?_, ?_, ?_⟩
  · show wrap64 (p.at_ + x.length) = _
    rw [h1, wrap_ok (by unfold okI; omega)]; omega
  · show wrap64 (p'.at_ + x.length) = _
    rw [h2, wrap_ok (by unfold okI; omega)]; omega
  · show wrap64 _ = wrap64 _
    rw [h3]
theorem lineTail_nl (x y : List UInt8) : lineTail (x ++ 10 :: y) = lineTail y := by
  have h1 : x ++ 10 :: y = (x ++ [10]) ++ y := by simp
  rw [h1, lineTail_append]
  split
  · rename_i h0
    rw [lineTail_append, if_neg (by simp [feeds])]
    rw [lineTail_none y h0]
    simp [lineTail]
  · rfl
end Go.Proofs.YtgfloplakjmncaaDoor
