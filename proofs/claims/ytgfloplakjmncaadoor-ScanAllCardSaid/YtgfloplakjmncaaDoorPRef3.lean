/- The printed reference of package scan, its parts: what they come to. By an AI agent; no person has read it. -/
import Derived.Test.YtgfloplakjmncaaDoorPRef2
set_option linter.unusedSimpArgs false
set_option linter.unusedVariables false
namespace Go.Proofs.YtgfloplakjmncaaDoor.PScan
open Go Go.RowKit Go.Proofs.YtgfloplakjmncaaDoor Go.Proofs.YtgfloplakjmncaaDoorW.PrintWords Go.Proofs.YtgfloplakjmncaaDoorW.PrintLast
theorem next_low {l : List UInt8} (hne : l ≠ []) (h : bn l 0 < 128) : nextL l = (bn l 0, 1, true) := nextL_of (dec_1 l h) hne (by omega)
theorem next_high {l : List UInt8} (hne : l ≠ []) (h : ¬ bn l 0 < 128) : 128 ≤ (nextL l).1 := by
  unfold nextL
  rw [if_neg hne]
  split
  · dsimp only; omega
  · dsimp only
    rcases dec_cases l with ⟨c1, e⟩ | ⟨c1, e⟩ | ⟨c1, e⟩ | ⟨c1, e⟩ | ⟨_, _, _, _, e⟩
    · omega
    · rw [e]; exact (V2_range l c1).1
    · rw [e]; have := (V3_range l c1).1; dsimp only; omega
    · rw [e]; have := (V4_range l c1).1; dsimp only; omega
    · rw [e]; dsimp only; omega
theorem next_is {l : List UInt8} (hne : l ≠ []) (c : Nat) (hc : c < 128) : (nextL l).1 = c ↔ bn l 0 = c := by
  by_cases h : bn l 0 < 128
  · rw [next_low hne h]
  · have := next_high hne h; omega
theorem next_digit {l : List UInt8} (hne : l ≠ []) : (48 ≤ (nextL l).1 ∧ (nextL l).1 ≤ 57) ↔ (48 ≤ bn l 0 ∧ bn l 0 ≤ 57) := by
  by_cases h : bn l 0 < 128
  · rw [next_low hne h]
  · have := next_high hne h; omega
theorem drop_ne {s : ByteArray} {p : Nat} (h : p < s.size) : s.data.toList.drop p ≠ [] := by intro h2; have := congrArg List.length h2; simp at this; omega
theorem next_wid (s : ByteArray) {p : Nat} (h : p < s.size) : 1 ≤ (nextL (s.data.toList.drop p)).2.1 ∧ p + (nextL (s.data.toList.drop p)).2.1 ≤ s.size ∧ (nextL (s.data.toList.drop p)).2.1 ≤ 4 := by
  have hw := nextL_width (drop_ne h)
  have hd := dec_width _ (drop_ne h)
  have hl : (s.data.toList.drop p).length = s.size - p := by simp
  rw [hl] at hd
  omega
theorem pre_slash (l : List UInt8) : Lib.hasPrefix l [47, 47] = decide (bn l 0 = 47 ∧ 1 < l.length ∧ bn l 1 = 47) := by
  rcases l with _ | ⟨a, _ | ⟨b, l⟩⟩
  · rfl
  · rw [decide_eq_false (by simp)]; simp [Lib.hasPrefix, List.isPrefixOf]
  · rw [Bool.eq_iff_iff, decide_eq_true_eq]
    simp only [Lib.hasPrefix, List.isPrefixOf, Bool.and_true, Bool.and_eq_true, beq_iff_eq, bn, List.getD_cons_zero, List.getD_cons_succ, List.length_cons]
    constructor
    · rintro ⟨rfl, rfl⟩; exact ⟨rfl, by omega, rfl⟩
    · rintro ⟨h1, _, h2⟩; exact ⟨UInt8.toNat_inj.1 (by rw [h1]; rfl), UInt8.toNat_inj.1 (by rw [h2]; rfl)⟩
/-- The kind of the token that begins at a place; 0: none does. -/
def kindN (s : ByteArray) (p : Nat) : Nat :=
  if (nextL (s.data.toList.drop p)).2.2 = true ∧ letterB (nextL (s.data.toList.drop p)).1 = true then 1
  else if 48 ≤ bn (s.data.toList.drop p) 0 ∧ bn (s.data.toList.drop p) 0 ≤ 57 then 3
  else if bn (s.data.toList.drop p) 0 = 34 then 4
  else if bn (s.data.toList.drop p) 0 = 39 then 5
  else if Lib.hasPrefix (s.data.toList.drop p) [47, 47] = true then 7
  else if bn (s.data.toList.drop p) 0 = 123 then 8
  else if (signB (s.extract p s.size)).size = 0 then 0 else 6
theorem nil_iff (b : ByteArray) : b.toList = ([] : List UInt8) ↔ b.size = 0 := by
  rw [tl, ← size_list]; exact List.length_eq_zero_iff.symm
theorem begins_j1 (s : ByteArray) (p : Nat) (hp : p < s.size) (sg : ByteArray) (b : Bool) : Ev (fun k => colophonref10_begins.j1 k s (p : Int) sg b) (if b = true then 7 else if bn (s.data.toList.drop p) 0 = 123 then 8 else if sg.size = 0 then 0 else 6) := by
  have hb := bt_bn0 s p hp
  refine Ev.step (f := fun k => some (if b = true then 7 else if bn (s.data.toList.drop p) 0 = 123 then 8 else if sg.size = 0 then 0 else 6)) (fun k => ?_) (Ev.now _)
  simp only [colophonref10_begins.j1, hb, nil_iff]
  cases b with
  | true => rw [if_pos rfl, if_pos rfl]
  | false =>
    have d1 : (0 : Int) ≤ (p : Int) := by omega
    have d2 : (p : Int) < (s.size : Int) := by omega
    simp only [Bool.false_eq_true, if_false]
    rw [if_pos d1, if_pos d2]
    by_cases h : bn (s.data.toList.drop p) 0 = 123
    · rw [if_pos (by omega), if_pos h]
    · rw [if_neg (by omega), if_neg h]
      by_cases h2 : sg.size = 0
      · rw [if_pos h2, if_pos h2]
      · rw [if_neg h2, if_neg h2]
theorem begins_j0 (s : ByteArray) (hs : s.size < 1099511627776) (p : Nat) (hp : p < s.size) (lt : Bool) (hlt : lt = decide ((nextL (s.data.toList.drop p)).2.2 = true ∧ letterB (nextL (s.data.toList.drop p)).1 = true)) : Ev (fun k => colophonref10_begins.j0 k s (p : Int) lt) (kindN s p : Int) := by
  have hb := bt_bn0 s p hp
  have hsg := sign_f s (by omega) p hp
  have hll : (s.data.toList.drop p).length = s.size - p := by simp
  have hw := wr_s p (by omega)
  refine Ev.step (f := fun k => (colophonref04_Sign.f k s (p : Int)).bind fun t158 => (if lt = true then (some 1) else ((some (decide (48 ≤ bn (s.data.toList.drop p) 0 ∧ bn (s.data.toList.drop p) 0 ≤ 57))).bind fun t159 => (if t159 = true then (some 3) else (if (bn (s.data.toList.drop p) 0 : Int) = 34 then (some 4) else (if (bn (s.data.toList.drop p) 0 : Int) = 39 then (some 5) else (if (bn (s.data.toList.drop p) 0 : Int) = 47 then (if (((p + 1 : Nat) : Int)) < (s.size : Int) then (if 0 ≤ ((p + 1 : Nat) : Int) then (colophonref10_begins.j1 k s (p : Int) t158 ((bt s ((p + 1 : Nat) : Int)) == 47)) else (none)) else (colophonref10_begins.j1 k s (p : Int) t158 false)) else (colophonref10_begins.j1 k s (p : Int) t158 false)))))))) (fun k => ?_) (Ev.bind hsg ?_)
  · simp only [colophonref10_begins.j0, hb, rdigit_f, hw]
    have d1 : (0 : Int) ≤ (p : Int) := by omega
    have d2 : (p : Int) < (s.size : Int) := by omega
    simp only [if_pos d1, if_pos d2]
  · unfold kindN
    cases lt with
    | true =>
      have := of_decide_eq_true hlt.symm
      rw [if_pos this]
      simp only [if_true]; exact Ev.now _
    | false =>
      have h0 := of_decide_eq_false hlt.symm
      rw [if_neg h0]
      simp only [Bool.false_eq_true, if_false, Option.bind_some]
      by_cases h1 : 48 ≤ bn (s.data.toList.drop p) 0 ∧ bn (s.data.toList.drop p) 0 ≤ 57
      · rw [if_pos h1]; simp only [decide_eq_true h1, if_true]; exact Ev.now _
      · rw [if_neg h1]
        simp only [decide_eq_false h1, Bool.false_eq_true, if_false]
        by_cases h2 : bn (s.data.toList.drop p) 0 = 34
        · have : (bn (s.data.toList.drop p) 0 : Int) = 34 := by omega
          rw [if_pos h2]; simp only [if_pos this]; exact Ev.now _
        · have : ¬ (bn (s.data.toList.drop p) 0 : Int) = 34 := by omega
          rw [if_neg h2]; simp only [if_neg this]
          by_cases h3 : bn (s.data.toList.drop p) 0 = 39
          · have : (bn (s.data.toList.drop p) 0 : Int) = 39 := by omega
            rw [if_pos h3]; simp only [if_pos this]; exact Ev.now _
          · have : ¬ (bn (s.data.toList.drop p) 0 : Int) = 39 := by omega
            rw [if_neg h3]; simp only [if_neg this]
            rw [pre_slash, hll]
            have hj := fun b => begins_j1 s p hp (signB (s.extract p s.size)) b
            have conv : ∀ b : Bool, (b = decide (bn (s.data.toList.drop p) 0 = 47 ∧ 1 < s.size - p ∧ bn (s.data.toList.drop p) 1 = 47)) → Ev (fun k => colophonref10_begins.j1 k s (p : Int) (signB (s.extract p s.size)) b) ((if decide (bn (s.data.toList.drop p) 0 = 47 ∧ 1 < s.size - p ∧ bn (s.data.toList.drop p) 1 = 47) = true then 7 else if bn (s.data.toList.drop p) 0 = 123 then 8 else if (signB (s.extract p s.size)).size = 0 then 0 else 6 : Nat) : Int) := by
              intro b hbb
              have h := hj b
              rw [← hbb]
              have e : ((if b = true then 7 else if bn (s.data.toList.drop p) 0 = 123 then 8 else if (signB (s.extract p s.size)).size = 0 then 0 else 6 : Nat) : Int) = (if b = true then 7 else if bn (s.data.toList.drop p) 0 = 123 then 8 else if (signB (s.extract p s.size)).size = 0 then 0 else 6 : Int) := by
                (repeat' split) <;> rfl
              rw [e]; exact h
            by_cases h4 : bn (s.data.toList.drop p) 0 = 47
            · have d : (bn (s.data.toList.drop p) 0 : Int) = 47 := by omega
              simp only [if_pos d]
              by_cases h5 : 1 < s.size - p
              · have d1 : ((p + 1 : Nat) : Int) < (s.size : Int) := by omega
                have d2 : (0 : Int) ≤ ((p + 1 : Nat) : Int) := by omega
                simp only [if_pos d1, if_pos d2]
                refine conv _ ?_
                rw [bt_bn s p 1 (by omega), Bool.eq_iff_iff, beq_iff_eq, decide_eq_true_eq]
                omega
              · have d1 : ¬ ((p + 1 : Nat) : Int) < (s.size : Int) := by omega
                simp only [if_neg d1]
                exact conv false (by symm; rw [decide_eq_false_iff_not]; omega)
            · have d : ¬ (bn (s.data.toList.drop p) 0 : Int) = 47 := by omega
              simp only [if_neg d]
              exact conv false (by symm; rw [decide_eq_false_iff_not]; omega)
theorem begins_f (s : ByteArray) (hs : s.size < 1099511627776) (p : Nat) (hp : p < s.size) : Ev (fun k => colophonref10_begins.f k s (p : Int)) (kindN s p : Int) := by
  have hn := next_f s (by omega) p (by omega)
  refine Ev.congr (f := fun k => (colophonref01_Next.f k s (p : Int)).bind fun bt154 => (if bt154.2.2 = true then ((colophonref04_Letter.f k bt154.1).bind fun t157 => (colophonref10_begins.j0 k s (p : Int) t157)) else (colophonref10_begins.j0 k s (p : Int) false))) (fun k => rfl) (Ev.bind hn ?_)
  have e1 : (nextV (s.data.toList.drop p)).1 = ((nextL (s.data.toList.drop p)).1 : Int) := rfl
  have e2 : (nextV (s.data.toList.drop p)).2.2 = (nextL (s.data.toList.drop p)).2.2 := rfl
  rw [e1, e2]
  cases hg : (nextL (s.data.toList.drop p)).2.2 with
  | true =>
    simp only [if_true]
    refine Ev.bind (letter_f _) ?_
    exact begins_j0 s hs p hp _ (by rw [hg]; simp)
  | false =>
    simp only [Bool.false_eq_true, if_false]
    exact begins_j0 s hs p hp false (by rw [hg]; simp)
def rowV (o : Nat) : Option Nat → Int × Int
  | none => ((o : Int), 103)
  | some r => (((o + r : Nat) : Int), 0)
theorem row_j2 (s : ByteArray) (hs : s.size < 1099511627776) (o p n : Nat) (ho : o ≤ p) (hn : p + n ≤ s.size) (kd : Int) (b : Bool) (r : Int × Int) (h1 : b = true → r = (((o + (p - o) : Nat) : Int), 0)) (h2 : b = false → p - o + n > 65535 → r = ((o : Int), 103)) (h3 : b = false → ¬ p - o + n > 65535 → Ev (fun k => colophonref10_row.l0 k s (o : Int) kd ((p + n : Nat) : Int)) r) :
    Ev (fun k => colophonref10_row.j2 k s (o : Int) kd (p : Int) (n : Int) b) r := by
  have hw := wr_a p n (by omega)
  have hw2 : wrap64 (((p + n : Nat) : Int) - (o : Int)) = ((p - o + n : Nat) : Int) := by unfold wrap64; omega
  cases b with
  | true =>
    rw [h1 rfl]
    refine Ev.step (f := fun k => some (((o + (p - o) : Nat) : Int), 0)) (fun k => ?_) (Ev.now _)
    simp only [colophonref10_row.j2, if_true]
    rw [show o + (p - o) = p by omega]
  | false =>
    by_cases h : p - o + n > 65535
    · rw [h2 rfl h]
      refine Ev.step (f := fun k => some ((o : Int), 103)) (fun k => ?_) (Ev.now _)
      simp only [colophonref10_row.j2, hw, hw2]
      rw [if_neg (by decide), if_pos (by omega)]
    · refine Ev.step (fun k => ?_) (h3 rfl h)
      simp only [colophonref10_row.j2, hw, hw2]
      rw [if_neg (by decide), if_neg (by omega)]
theorem row_name (s : ByteArray) (hs : s.size < 1099511627776) (o : Nat) : ∀ (F p : Nat), s.size - p < F → o ≤ p → p ≤ s.size → Ev (fun k => colophonref10_row.l0 k s (o : Int) 1 (p : Int)) (rowV o (namedF F (s.data.toList.drop p) (p - o)))
  | 0, p, h, _, _ => absurd h (Nat.not_lt_zero _)
  | F + 1, p, h, ho, hp => by
    rw [namedF]
    by_cases hend : p = s.size
    · have hnil : s.data.toList.drop p = [] := List.drop_eq_nil_of_le (by rw [size_list]; omega)
      rw [hnil, if_neg (by simp [nextL])]
      refine Ev.step (f := fun k => some (((o + (p - o) : Nat) : Int), 0)) (fun k => ?_) (Ev.now _)
      simp only [colophonref10_row.l0]
      rw [if_neg (by omega), show o + (p - o) = p by omega]
    · have hlt : p < s.size := by omega
      have hn := next_f s (by omega) p hp
      obtain ⟨w1, w2, w3⟩ := next_wid s hlt
      have hrec := row_name s hs o F (p + (nextL (s.data.toList.drop p)).2.1) (by omega) (by omega) w2
      refine Ev.step (f := fun k => (colophonref01_Next.f k s (p : Int)).bind fun bt172 => (if bt172.2.2 = true then ((colophonref04_Part.f k bt172.1).bind fun t175 => (colophonref10_row.j1 k s (o : Int) 1 (p : Int) bt172.2.1 t175)) else (colophonref10_row.j1 k s (o : Int) 1 (p : Int) bt172.2.1 false))) (fun k => ?_) (Ev.bind hn ?_)
      · simp only [colophonref10_row.l0]; rw [if_pos (by omega)]
      · have e1 : (nextV (s.data.toList.drop p)).1 = ((nextL (s.data.toList.drop p)).1 : Int) := rfl
        have e2 : (nextV (s.data.toList.drop p)).2.2 = (nextL (s.data.toList.drop p)).2.2 := rfl
        have e3 : (nextV (s.data.toList.drop p)).2.1 = ((nextL (s.data.toList.drop p)).2.1 : Int) := rfl
        rw [e1, e2, e3]
        have fin : ∀ b : Bool, b = decide ((nextL (s.data.toList.drop p)).2.2 = true ∧ partB (nextL (s.data.toList.drop p)).1 = true) → Ev (fun k => colophonref10_row.j1 k s (o : Int) 1 (p : Int) ((nextL (s.data.toList.drop p)).2.1 : Int) b) (rowV o (if (nextL (s.data.toList.drop p)).2.2 = true ∧ partB (nextL (s.data.toList.drop p)).1 = true then (if p - o + (nextL (s.data.toList.drop p)).2.1 > 65535 then none else namedF F ((s.data.toList.drop p).drop (nextL (s.data.toList.drop p)).2.1) (p - o + (nextL (s.data.toList.drop p)).2.1)) else some (p - o))) := by
          intro b hb
          refine Ev.step (f := fun k => colophonref10_row.j2 k s (o : Int) 1 (p : Int) ((nextL (s.data.toList.drop p)).2.1 : Int) (!b)) (fun k => ?_) ?_
          · have n13 : ¬ ((1 : Int) = 3) := by decide
            cases b with
            | true => simp only [colophonref10_row.j1, if_true, if_neg n13, Bool.not_true]
            | false => simp only [colophonref10_row.j1, if_true, if_neg n13, Bool.false_eq_true, if_false, Bool.not_false]
          · cases b with
            | true =>
              have hc := of_decide_eq_true hb.symm
              rw [if_pos hc]
              refine row_j2 s hs o p _ ho w2 1 _ _ (fun h => by cases h) (fun _ h => by rw [if_pos h]; rfl) (fun _ h => ?_)
              rw [if_neg h, List.drop_drop]
              rw [show p + (nextL (s.data.toList.drop p)).2.1 - o = p - o + (nextL (s.data.toList.drop p)).2.1 by omega] at hrec
              exact hrec
            | false =>
              have hc := of_decide_eq_false hb.symm
              rw [if_neg hc]
              exact row_j2 s hs o p _ ho w2 1 _ _ (fun _ => rfl) (fun h => by cases h) (fun h => by cases h)
        by_cases hg : (nextL (s.data.toList.drop p)).2.2 = true
        · simp only [if_pos hg]
          exact Ev.bind (part_f _) (fin _ (by simp [hg]))
        · simp only [if_neg hg]
          exact fin false (by simp [hg])
theorem row_num (s : ByteArray) (hs : s.size < 1099511627776) (o : Nat) : ∀ (F p : Nat), s.size - p < F → o ≤ p → p ≤ s.size → Ev (fun k => colophonref10_row.l0 k s (o : Int) 3 (p : Int)) (rowV o (numberedF F (s.data.toList.drop p) (p - o)))
  | 0, p, h, _, _ => absurd h (Nat.not_lt_zero _)
  | F + 1, p, h, ho, hp => by
    rw [numberedF]
    by_cases hend : p = s.size
    · have hnil : s.data.toList.drop p = [] := List.drop_eq_nil_of_le (by rw [size_list]; omega)
      rw [hnil, if_neg (by simp [nextL])]
      refine Ev.step (f := fun k => some (((o + (p - o) : Nat) : Int), 0)) (fun k => ?_) (Ev.now _)
      simp only [colophonref10_row.l0]
      rw [if_neg (by omega), show o + (p - o) = p by omega]
    · have hlt : p < s.size := by omega
      have hn := next_f s (by omega) p hp
      obtain ⟨w1, w2, w3⟩ := next_wid s hlt
      have hrec := row_num s hs o F (p + (nextL (s.data.toList.drop p)).2.1) (by omega) (by omega) w2
      have hbt := bt_bn0 s p hlt
      have hdig := next_digit (drop_ne hlt)
      refine Ev.step (f := fun k => (colophonref01_Next.f k s (p : Int)).bind fun bt172 => (if bt172.2.2 = true then ((colophonref04_Part.f k bt172.1).bind fun t175 => (colophonref10_row.j1 k s (o : Int) 3 (p : Int) bt172.2.1 t175)) else (colophonref10_row.j1 k s (o : Int) 3 (p : Int) bt172.2.1 false))) (fun k => ?_) (Ev.bind hn ?_)
      · simp only [colophonref10_row.l0]; rw [if_pos (by omega)]
      · have e1 : (nextV (s.data.toList.drop p)).1 = ((nextL (s.data.toList.drop p)).1 : Int) := rfl
        have e2 : (nextV (s.data.toList.drop p)).2.2 = (nextL (s.data.toList.drop p)).2.2 := rfl
        have e3 : (nextV (s.data.toList.drop p)).2.1 = ((nextL (s.data.toList.drop p)).2.1 : Int) := rfl
        rw [e1, e2, e3]
        have fin : ∀ b : Bool, Ev (fun k => colophonref10_row.j1 k s (o : Int) 3 (p : Int) ((nextL (s.data.toList.drop p)).2.1 : Int) b) (rowV o (if 0 < (nextL (s.data.toList.drop p)).2.1 ∧ 48 ≤ (nextL (s.data.toList.drop p)).1 ∧ (nextL (s.data.toList.drop p)).1 ≤ 57 then (if p - o + (nextL (s.data.toList.drop p)).2.1 > 65535 then none else numberedF F ((s.data.toList.drop p).drop (nextL (s.data.toList.drop p)).2.1) (p - o + (nextL (s.data.toList.drop p)).2.1)) else some (p - o))) := by
          intro b
          have d1 : (0 : Int) ≤ (p : Int) := by omega
          have d2 : (p : Int) < (s.size : Int) := by omega
          refine Ev.step (f := fun k => colophonref10_row.j2 k s (o : Int) 3 (p : Int) ((nextL (s.data.toList.drop p)).2.1 : Int) (!(decide (48 ≤ bn (s.data.toList.drop p) 0 ∧ bn (s.data.toList.drop p) 0 ≤ 57)))) (fun k => ?_) ?_
          · have n31 : ¬ ((3 : Int) = 1) := by decide
            simp only [colophonref10_row.j1, hbt, rdigit_f, if_neg n31, if_true, if_pos d1, if_pos d2, Option.bind_some]
          · by_cases hc : 48 ≤ bn (s.data.toList.drop p) 0 ∧ bn (s.data.toList.drop p) 0 ≤ 57
            · rw [if_pos ⟨by omega, hdig.2 hc⟩, decide_eq_true hc]
              refine row_j2 s hs o p _ ho w2 3 _ _ (fun h => by cases h) (fun _ h => by rw [if_pos h]; rfl) (fun _ h => ?_)
              rw [if_neg h, List.drop_drop]
              rw [show p + (nextL (s.data.toList.drop p)).2.1 - o = p - o + (nextL (s.data.toList.drop p)).2.1 by omega] at hrec
              exact hrec
            · rw [if_neg (fun h => hc (hdig.1 h.2)), decide_eq_false hc]
              exact row_j2 s hs o p _ ho w2 3 _ _ (fun _ => rfl) (fun h => by cases h) (fun h => by cases h)
        cases hg : (nextL (s.data.toList.drop p)).2.2 with
        | true =>
          simp only [if_true]
          exact Ev.bind (part_f _) (fin _)
        | false =>
          simp only [Bool.false_eq_true, if_false]
          exact fin false
def quoV (o : Nat) (r : Nat × Nat × Nat) : Int × Int := (((o + r.2.1 : Nat) : Int), (r.2.2 : Int))
theorem quo_j2 (s : ByteArray) (hs : s.size < 1099511627776) (o p v n : Nat) (ho : o ≤ p) (hn : p + n ≤ s.size) (many : Int) (g ends : Bool) (r : Int × Int) (h1 : p - o + n > 65535 → r = ((o : Int), 103)) (h2 : ¬ p - o + n > 65535 → ends = true → r = (((p + 1 : Nat) : Int), 0))
    (h3 : ¬ p - o + n > 65535 → ends = false → controlB v g = true → r = ((p : Int), 102)) (h4 : ¬ p - o + n > 65535 → ends = false → controlB v g = false → ∀ m : Int, Ev (fun k => colophonref10_quoted.l0 k s (o : Int) 34 false ((p + n : Nat) : Int) m) r) :
    Ev (fun k => colophonref10_quoted.j2 k s (o : Int) 34 false (p : Int) many (v : Int) (n : Int) g ends) r := by
  have hw := wr_a p n (by omega)
  have hw1 := wr_s p (by omega)
  have hw2 : wrap64 (((p + n : Nat) : Int) - (o : Int)) = ((p - o + n : Nat) : Int) := by unfold wrap64; omega
  by_cases hl : p - o + n > 65535
  · have d : ((p - o + n : Nat) : Int) > 65535 := by omega
    rw [h1 hl]
    refine Ev.step (f := fun k => some ((o : Int), 103)) (fun k => ?_) (Ev.now _)
    simp only [colophonref10_quoted.j2, rcontrol_f, Option.bind_some, hw, hw2, if_pos d]
  · have d : ¬ ((p - o + n : Nat) : Int) > 65535 := by omega
    cases ends with
    | true =>
      rw [h2 hl rfl]
      refine Ev.step (f := fun k => some (((p + 1 : Nat) : Int), 0)) (fun k => ?_) (Ev.now _)
      simp only [colophonref10_quoted.j2, rcontrol_f, Option.bind_some, hw, hw2, hw1, if_neg d, if_true]
    | false =>
      cases hc : controlB v g with
      | true =>
        rw [h3 hl rfl hc]
        refine Ev.step (f := fun k => some ((p : Int), 102)) (fun k => ?_) (Ev.now _)
        simp only [colophonref10_quoted.j2, rcontrol_f, Option.bind_some, hw, hw2, hw1, if_neg d, hc, if_true, Bool.false_eq_true, if_false]
      | false =>
        refine Ev.step (fun k => ?_) (h4 hl rfl hc (wrap64 (many + 1)))
        simp only [colophonref10_quoted.j2, rcontrol_f, Option.bind_some, hw, hw2, hw1, if_neg d, hc, Bool.false_eq_true, if_false]
theorem quo_text (s : ByteArray) (hs : s.size < 1099511627776) (o : Nat) : ∀ (F p : Nat) (many : Int), s.size - p < F → o ≤ p → p ≤ s.size → Ev (fun k => colophonref10_quoted.l0 k s (o : Int) 34 false (p : Int) many) (quoV o (quotedF F (s.data.toList.drop p) (p - o)))
  | 0, p, _, h, _, _ => absurd h (Nat.not_lt_zero _)
  | F + 1, p, many, h, ho, hp => by
    rw [quotedF]
    have j1f : Ev (fun k => colophonref10_quoted.j1 k s (o : Int) 34 false (p : Int) many false) ((o : Int), 101) := by
      refine Ev.step (f := fun k => some ((o : Int), 101)) (fun k => ?_) (Ev.now _)
      simp only [colophonref10_quoted.j1, Bool.false_eq_true, if_false]
    by_cases hend : p = s.size
    · have hnil : s.data.toList.drop p = [] := List.drop_eq_nil_of_le (by rw [size_list]; omega)
      rw [hnil, if_pos (by rfl)]
      refine Ev.step (fun k => ?_) j1f
      simp only [colophonref10_quoted.l0]; rw [if_neg (by omega)]
    · have hlt : p < s.size := by omega
      have hn := next_f s (by omega) p hp
      obtain ⟨w1, w2, w3⟩ := next_wid s hlt
      have hb := bt_bn0 s p hlt
      have hrec := fun m : Int => quo_text s hs o F (p + (nextL (s.data.toList.drop p)).2.1) m (by omega) (by omega) w2
      have i10 := next_is (drop_ne hlt) 10 (by decide)
      have i34 := next_is (drop_ne hlt) 34 (by decide)
      have d1 : (p : Int) < (s.size : Int) := by omega
      have d2 : (0 : Int) ≤ (p : Int) := by omega
      rw [if_neg (by omega)]
      by_cases h10 : bn (s.data.toList.drop p) 0 = 10
      · rw [if_pos (i10.2 h10)]
        refine Ev.step (fun k => ?_) j1f
        have e : ((bn (s.data.toList.drop p) 0 : Int) != 10) = false := by rw [h10]; rfl
        simp only [colophonref10_quoted.l0, hb, if_pos d1, if_pos d2, e]
      · rw [if_neg (fun h => h10 (i10.1 h))]
        have e : ((bn (s.data.toList.drop p) 0 : Int) != 10) = true := by rw [bne_iff_ne]; omega
        refine Ev.step (f := fun k => colophonref10_quoted.j1 k s (o : Int) 34 false (p : Int) many true) (fun k => ?_) ?_
        · simp only [colophonref10_quoted.l0, hb, if_pos d1, if_pos d2, e]
        · refine Ev.step (f := fun k => (colophonref01_Next.f k s (p : Int)).bind fun bt161 => colophonref10_quoted.j2 k s (o : Int) 34 false (p : Int) many bt161.1 bt161.2.1 bt161.2.2 (decide (bn (s.data.toList.drop p) 0 = 34))) (fun k => ?_) (Ev.bind hn ?_)
          · simp only [colophonref10_quoted.j1, if_true, if_pos d1, if_pos d2, hb, Bool.false_eq_true, if_false]
            by_cases h34 : bn (s.data.toList.drop p) 0 = 34
            · have : (bn (s.data.toList.drop p) 0 : Int) = 34 := by omega
              simp only [if_pos this, decide_eq_true h34]
            · have : ¬ (bn (s.data.toList.drop p) 0 : Int) = 34 := by omega
              simp only [if_neg this, decide_eq_false h34]
          · refine quo_j2 s hs o p (nextL (s.data.toList.drop p)).1 (nextL (s.data.toList.drop p)).2.1 ho w2 many (nextL (s.data.toList.drop p)).2.2 _ _ (fun hl => ?_) (fun hl he => ?_) (fun hl he hc => ?_) (fun hl he hc m => ?_)
            · rw [if_pos hl]; rfl
            · have h34 := of_decide_eq_true he
              have hnx := next_low (drop_ne hlt) (show bn (s.data.toList.drop p) 0 < 128 by omega)
              rw [if_neg hl, hnx, h34]
              simp [controlB, quoV]; omega
            · rw [if_neg hl, if_pos hc]
              simp [quoV]; omega
            · have h34 := of_decide_eq_false he
              rw [if_neg hl, if_neg (by rw [hc]; decide), if_neg (fun h => h34 (i34.1 h)), List.drop_drop]
              have := hrec m
              rw [show p + (nextL (s.data.toList.drop p)).2.1 - o = p - o + (nextL (s.data.toList.drop p)).2.1 by omega] at this
              exact this
theorem quo_only_end (s : ByteArray) (o p : Nat) (many : Int) (h : p = s.size ∨ (p < s.size ∧ bn (s.data.toList.drop p) 0 = 10)) : Ev (fun k => colophonref10_quoted.l0 k s (o : Int) 39 true (p : Int) many) ((o : Int), 101) := by
  refine Ev.step (f := fun k => colophonref10_quoted.j1 k s (o : Int) 39 true (p : Int) many false) (fun k => ?_) (Ev.step (f := fun k => some ((o : Int), 101)) (fun k => ?_) (Ev.now _))
  · simp only [colophonref10_quoted.l0]
    rcases h with h | ⟨h1, h2⟩
    · rw [if_neg (by omega)]
    · rw [if_pos (by omega), if_pos (by omega), bt_bn0 s p h1, h2]; rfl
  · simp only [colophonref10_quoted.j1, Bool.false_eq_true, if_false]
theorem quo_only_go (s : ByteArray) (hs : s.size < 1099511627776) (o p : Nat) (many : Int) (hlt : p < s.size) (h10 : ¬ bn (s.data.toList.drop p) 0 = 10) (ends : Bool) (he : ends = (decide (bn (s.data.toList.drop p) 0 = 39) && (many == 1))) (r : Int × Int)
    (h : Ev (fun k => colophonref10_quoted.j2 k s (o : Int) 39 true (p : Int) many ((nextL (s.data.toList.drop p)).1 : Int) ((nextL (s.data.toList.drop p)).2.1 : Int) (nextL (s.data.toList.drop p)).2.2 ends) r) : Ev (fun k => colophonref10_quoted.l0 k s (o : Int) 39 true (p : Int) many) r := by
  have hn := next_f s (by omega) p (by omega)
  have hb := bt_bn0 s p hlt
  have d1 : (p : Int) < (s.size : Int) := by omega
  have d2 : (0 : Int) ≤ (p : Int) := by omega
  have e : ((bn (s.data.toList.drop p) 0 : Int) != 10) = true := by rw [bne_iff_ne]; omega
  refine Ev.step (f := fun k => colophonref10_quoted.j1 k s (o : Int) 39 true (p : Int) many true) (fun k => ?_) ?_
  · simp only [colophonref10_quoted.l0, hb, if_pos d1, if_pos d2, e]
  · refine Ev.step (f := fun k => (colophonref01_Next.f k s (p : Int)).bind fun bt161 => colophonref10_quoted.j2 k s (o : Int) 39 true (p : Int) many bt161.1 bt161.2.1 bt161.2.2 ends) (fun k => ?_) (Ev.bind hn h)
    simp only [colophonref10_quoted.j1, if_true, if_pos d1, if_pos d2, hb]
    by_cases h39 : bn (s.data.toList.drop p) 0 = 39
    · have : (bn (s.data.toList.drop p) 0 : Int) = 39 := by omega
      rw [decide_eq_true h39, Bool.true_and] at he
      simp only [if_pos this, he]
    · have : ¬ (bn (s.data.toList.drop p) 0 : Int) = 39 := by omega
      rw [decide_eq_false h39, Bool.false_and] at he
      simp only [if_neg this, he]
theorem quo_char (s : ByteArray) (hs : s.size < 1099511627776) (o : Nat) (ho : o < s.size) : Ev (fun k => colophonref10_quoted.l0 k s (o : Int) 39 true ((o + 1 : Nat) : Int) 0) (quoV o (singleF (s.data.toList.drop (o + 1)) 1)) := by
  unfold singleF
  by_cases hend : o + 1 = s.size
  · have hnil : s.data.toList.drop (o + 1) = [] := List.drop_eq_nil_of_le (by rw [size_list]; omega)
    rw [hnil, if_pos (by rfl)]
    exact quo_only_end s o (o + 1) 0 (.inl hend)
  · have hlt : o + 1 < s.size := by omega
    obtain ⟨w1, w2, w3⟩ := next_wid s hlt
    have hb := bt_bn0 s (o + 1) hlt
    have i10 := next_is (drop_ne hlt) 10 (by decide)
    have i39 := next_is (drop_ne hlt) 39 (by decide)
    rw [if_neg (by omega)]
    by_cases h10 : bn (s.data.toList.drop (o + 1)) 0 = 10
    · rw [if_pos (i10.2 h10)]
      exact quo_only_end s o (o + 1) 0 (.inr ⟨hlt, h10⟩)
    · rw [if_neg (fun h => h10 (i10.1 h))]
      refine quo_only_go s hs o (o + 1) 0 hlt h10 false (by simp) _ ?_
      have hw := wr_a (o + 1) (nextL (s.data.toList.drop (o + 1))).2.1 (by omega)
      have hw2 : wrap64 (((o + 1 + (nextL (s.data.toList.drop (o + 1))).2.1 : Nat) : Int) - (o : Int)) = ((1 + (nextL (s.data.toList.drop (o + 1))).2.1 : Nat) : Int) := by unfold wrap64; omega
      have d : ¬ ((1 + (nextL (s.data.toList.drop (o + 1))).2.1 : Nat) : Int) > 65535 := by omega
      have d1 : ((o + 1 : Nat) : Int) < (s.size : Int) := by omega
      have d2 : (0 : Int) ≤ ((o + 1 : Nat) : Int) := by omega
      have n01 : ¬ ((0 : Int) = 1) := by decide
      by_cases h39 : bn (s.data.toList.drop (o + 1)) 0 = 39
      · rw [if_pos (i39.2 h39)]
        have e39 : (bn (s.data.toList.drop (o + 1)) 0 : Int) = 39 := by omega
        refine Ev.step (f := fun k => some (((o + 1 : Nat) : Int), 102)) (fun k => ?_) (Ev.now _)
        simp only [colophonref10_quoted.j2, rcontrol_f, Option.bind_some, hw, hw2, if_neg d, Bool.false_eq_true, if_false, if_true, if_neg n01, if_pos d1, if_pos d2, hb, if_pos e39]
        cases controlB (nextL (s.data.toList.drop (o + 1))).1 (nextL (s.data.toList.drop (o + 1))).2.2 <;> simp
      · rw [if_neg (fun h => h39 (i39.1 h))]
        have e39 : ¬ (bn (s.data.toList.drop (o + 1)) 0 : Int) = 39 := by omega
        cases hc : controlB (nextL (s.data.toList.drop (o + 1))).1 (nextL (s.data.toList.drop (o + 1))).2.2 with
        | true =>
          rw [if_pos rfl]
          refine Ev.step (f := fun k => some (((o + 1 : Nat) : Int), 102)) (fun k => ?_) (Ev.now _)
          simp only [colophonref10_quoted.j2, rcontrol_f, Option.bind_some, hw, hw2, if_neg d, Bool.false_eq_true, if_false, hc, if_true]
        | false =>
          rw [if_neg (by decide), List.drop_drop]
          refine Ev.step (f := fun k => colophonref10_quoted.l0 k s (o : Int) 39 true ((o + 1 + (nextL (s.data.toList.drop (o + 1))).2.1 : Nat) : Int) 1) (fun k => ?_) ?_
          · simp only [colophonref10_quoted.j2, rcontrol_f, Option.bind_some, hw, hw2, if_neg d, Bool.false_eq_true, if_false, hc, if_true, if_neg n01, if_pos d1, if_pos d2, hb, if_neg e39, show wrap64 (0 + 1) = 1 from wr_s 0 (by decide)]
          · generalize (nextL (s.data.toList.drop (o + 1))).2.1 = n1 at *
            by_cases hend2 : o + 1 + n1 = s.size
            · have hnil : s.data.toList.drop (o + 1 + n1) = [] := List.drop_eq_nil_of_le (by rw [size_list]; omega)
              rw [hnil, if_pos (by rfl)]
              exact quo_only_end s o (o + 1 + n1) 1 (.inl hend2)
            · have hlt2 : o + 1 + n1 < s.size := by omega
              obtain ⟨v1, v2, v3⟩ := next_wid s hlt2
              have j10 := next_is (drop_ne hlt2) 10 (by decide)
              have j39 := next_is (drop_ne hlt2) 39 (by decide)
              rw [if_neg (by omega)]
              by_cases g10 : bn (s.data.toList.drop (o + 1 + n1)) 0 = 10
              · rw [if_pos (j10.2 g10)]
                exact quo_only_end s o (o + 1 + n1) 1 (.inr ⟨hlt2, g10⟩)
              · rw [if_neg (fun h => g10 (j10.1 h))]
                refine quo_only_go s hs o (o + 1 + n1) 1 hlt2 g10 (decide (bn (s.data.toList.drop (o + 1 + n1)) 0 = 39)) (by simp) _ ?_
                have gw := wr_a (o + 1 + n1) (nextL (s.data.toList.drop (o + 1 + n1))).2.1 (by omega)
                have gw1 := wr_s (o + 1 + n1) (by omega)
                have gw2 : wrap64 (((o + 1 + n1 + (nextL (s.data.toList.drop (o + 1 + n1))).2.1 : Nat) : Int) - (o : Int)) = ((1 + n1 + (nextL (s.data.toList.drop (o + 1 + n1))).2.1 : Nat) : Int) := by unfold wrap64; omega
                have gd : ¬ ((1 + n1 + (nextL (s.data.toList.drop (o + 1 + n1))).2.1 : Nat) : Int) > 65535 := by omega
                by_cases g39 : bn (s.data.toList.drop (o + 1 + n1)) 0 = 39
                · rw [if_pos (j39.2 g39), decide_eq_true g39]
                  have hnx := next_low (drop_ne hlt2) (show bn (s.data.toList.drop (o + 1 + n1)) 0 < 128 by omega)
                  refine Ev.step (f := fun k => some (((o + 1 + n1 + 1 : Nat) : Int), 0)) (fun k => ?_) ?_
                  · simp only [colophonref10_quoted.j2, rcontrol_f, Option.bind_some, gw, gw1, gw2, if_neg gd, if_true]
                  · have : quoV o (5, 1 + n1 + (nextL (s.data.toList.drop (o + 1 + n1))).2.1, 0) = (((o + 1 + n1 + 1 : Nat) : Int), 0) := by
                      rw [hnx]; simp [quoV]; omega
                    rw [this]; exact Ev.now _
                · rw [if_neg (fun h => g39 (j39.1 h)), decide_eq_false g39]
                  have : quoV o (0, 1 + n1, 102) = (((o + 1 + n1 : Nat) : Int), 102) := by simp [quoV]; omega
                  rw [this]
                  refine Ev.step (f := fun k => some (((o + 1 + n1 : Nat) : Int), 102)) (fun k => ?_) (Ev.now _)
                  simp only [colophonref10_quoted.j2, rcontrol_f, Option.bind_some, gw, gw1, gw2, if_neg gd, Bool.false_eq_true, if_false, if_true]
                  cases controlB (nextL (s.data.toList.drop (o + 1 + n1))).1 (nextL (s.data.toList.drop (o + 1 + n1))).2.2 <;> simp
end Go.Proofs.YtgfloplakjmncaaDoor.PScan
