/- The plain law of place.Advance: from the end of one text as from the beginning of both. By an AI agent; no person has read it. -/
import Derived.Test.YtlglnepfcihhiaaDoorUtf
import Derived.IntWalk
import Derived.RowKit
set_option linter.unusedSimpArgs false
set_option linter.unusedVariables false
namespace Go.Proofs.YtlglnepfcihhiaaDoor
open Go Go.RowKit

instance decFull (l : List UInt8) : Decidable (full l) := by unfold full; infer_instance
/-- char.Whole: how many bytes stand ahead of an open end. -/
def wholeL (l : List UInt8) : Nat :=
  if 1 ≤ l.length ∧ ¬ full (l.drop (l.length - 1)) then l.length - 1
  else if 2 ≤ l.length ∧ ¬ full (l.drop (l.length - 2)) then l.length - 2
  else if 3 ≤ l.length ∧ ¬ full (l.drop (l.length - 3)) then l.length - 3
  else l.length
theorem wholeL_le (l : List UInt8) : wholeL l ≤ l.length := by
  unfold wholeL; split <;> (try split) <;> (try split) <;> omega
theorem cut_of_open (a b : List UInt8) (n : Nat) (hn : 1 ≤ n) (hl : n ≤ a.length) (h : ¬ full (a.drop (a.length - n))) : Cut (a.take (a.length - n)) (a.drop (a.length - n) ++ b) := by
  refine cut_of_stop _ _ fun hc => open_stop _ h ?_
  exact (isc_append _ b 0 (by simp; omega)).1 hc
theorem cut_whole (a b : List UInt8) : Cut (a.take (wholeL a)) (a.drop (wholeL a) ++ b) := by
  unfold wholeL
  split
  · rename_i h; exact cut_of_open a b 1 (by omega) h.1 h.2
  · rename_i h1
    split
    · rename_i h; exact cut_of_open a b 2 (by omega) h.1 h.2
    · rename_i h2
      split
      · rename_i h; exact cut_of_open a b 3 (by omega) h.1 h.2
      · rename_i h3
        simp only [List.take_length, List.drop_length, List.nil_append]
        refine cut_of_full a b fun n ha hb hc => ?_
        rcases (by omega : n = 1 ∨ n = 2 ∨ n = 3) with rfl | rfl | rfl
        · exact Classical.byContradiction fun hf => h1 ⟨hc, hf⟩
        · exact Classical.byContradiction fun hf => h2 ⟨hc, hf⟩
        · exact Classical.byContradiction fun hf => h3 ⟨hc, hf⟩
theorem Cut.drop {x y : List UInt8} (h : Cut x y) (k : Nat) : Cut (x.drop k) y := fun j hj => by
  rw [List.drop_drop]; exact h _ (by simp at hj; omega)

theorem takeWhile_all {α : Type} (p : α → Bool) (l : List α) : l.takeWhile p = l ↔ ∀ c ∈ l, p c = true := by
  induction l with
  | nil => simp
  | cons a l ih =>
    by_cases h : p a = true
    · simp [List.takeWhile_cons, h, ih]
    · simp [List.takeWhile_cons, h]
def feeds (l : List UInt8) : Nat := l.count 10
/-- What stands behind the last line feed. -/
def lineTail (l : List UInt8) : List UInt8 := (l.reverse.takeWhile (fun c => c != 10)).reverse
theorem lineTail_none (l : List UInt8) (h : feeds l = 0) : lineTail l = l := by
  unfold lineTail
  rw [(takeWhile_all _ _).2, List.reverse_reverse]
  intro c hc
  have : c ∈ l := by simpa using hc
  unfold feeds at h
  rw [List.count_eq_zero] at h
  simp; rintro rfl; exact h this
theorem lineTail_append (x y : List UInt8) : lineTail (x ++ y) = if feeds y = 0 then lineTail x ++ y else lineTail y := by
  unfold lineTail
  rw [List.reverse_append, List.takeWhile_append]
  split
  · rename_i h
    split
    · simp
    · rename_i h2
      exfalso; apply h2
      have := (takeWhile_all _ _).1 (List.IsPrefix.eq_of_length (List.takeWhile_prefix _) h)
      unfold feeds; rw [List.count_eq_zero]
      intro hm
      have := this 10 (by simpa using hm)
      simp at this
  · rename_i h
    rw [if_neg]
    intro h2
    apply h
    rw [(takeWhile_all _ _).2]
    intro c hc
    unfold feeds at h2
    rw [List.count_eq_zero] at h2
    simp; rintro rfl; exact h2 (by simpa using hc)
theorem lineTail_suffix (l : List UInt8) : ∃ k, lineTail l = l.drop k := by
  have : lineTail l <:+ l := by
    unfold lineTail
    have := List.reverse_suffix.2 (List.takeWhile_prefix (fun c : UInt8 => c != 10) (l := l.reverse))
    simpa using this
  obtain ⟨t, ht⟩ := this
  exact ⟨t.length, by conv => rhs; rw [← ht]
                      simp⟩

/-- place.Advance. -/
structure Pl where
  at_ : Int
  line : Int
  col : Int

def adv (p : Pl) (l : List UInt8) : Pl :=
  ⟨wrap64 (p.at_ + l.length), wrap64 (p.line + feeds l), wrap64 ((if feeds l = 0 then p.col else 1) + (chs (lineTail l)).length)⟩
def okI (x : Int) : Prop := -9223372036854775808 ≤ x ∧ x ≤ 9223372036854775807
def Pl.ok (p : Pl) : Prop := okI p.at_ ∧ okI p.line ∧ okI p.col
theorem wrap_ok {x : Int} (h : okI x) : wrap64 x = x := by unfold okI at h; unfold wrap64; omega
theorem wrap_wrap (x y : Int) : wrap64 (wrap64 x + y) = wrap64 (x + y) := by unfold wrap64; omega
theorem wrap_ok_of (x : Int) : okI (wrap64 x) := by unfold okI wrap64; omega
theorem adv_ok (p : Pl) (l : List UInt8) : (adv p l).ok := ⟨wrap_ok_of _, wrap_ok_of _, wrap_ok_of _⟩
theorem adv_nil (p : Pl) (h : p.ok) : adv p [] = p := by
  obtain ⟨h1, h2, h3⟩ := h
  cases p
  simp [adv, feeds, lineTail, wrap_ok h1, wrap_ok h2, wrap_ok h3]
theorem feeds_append (x y : List UInt8) : feeds (x ++ y) = feeds x + feeds y := by simp [feeds]
theorem adv_adv (p : Pl) (x y : List UInt8) (h : Cut x y) : adv (adv p x) y = adv p (x ++ y) := by
  unfold adv
  simp only [Pl.mk.injEq]
  refine ⟨?_, ?_, ?_⟩
  · rw [wrap_wrap]; congr 1; simp; omega
  · rw [wrap_wrap, feeds_append]; congr 1; simp; omega
  · rw [lineTail_append, feeds_append]
    by_cases hy : feeds y = 0
    · rw [if_pos hy, if_pos hy, lineTail_none y hy, wrap_wrap]
      obtain ⟨k, hk⟩ := lineTail_suffix x
      rw [chs_append _ _ (by rw [hk]; exact h.drop k)]
      congr 1
      simp [hy]; omega
    · rw [if_neg hy, if_neg hy, if_neg (by omega)]
theorem adv_whole (p : Pl) (a b : List UInt8) : adv (adv p (a.take (wholeL a))) (a.drop (wholeL a) ++ b) = adv p (a ++ b) := by
  rw [adv_adv _ _ _ (cut_whole a b), ← List.append_assoc, List.take_append_drop]
end Go.Proofs.YtlglnepfcihhiaaDoor
