/- Plain lemmas on UTF-8: the first character of a row of bytes, all its characters, where a text may be cut. By an AI agent; no person has read it. -/
import Derived.Lib.RuneCount
set_option linter.unusedSimpArgs false
set_option linter.unusedVariables false
namespace Go.Proofs.YtlglnepfcihhiaaDoor
open Go

/-- The first character of a row of bytes: its point and its bytes (a bad byte: 65533 and 1). -/
def cont (l : List UInt8) (k : Nat) : Bool := decide (k < l.length) && decide ((l.getD k 0).toNat / 64 = 2)
def bn (l : List UInt8) (k : Nat) : Nat := (l.getD k 0).toNat
def dec (l : List UInt8) : Nat × Nat :=
  let b0 := bn l 0
  if b0 < 0x80 then (b0, 1)
  else if b0 / 32 = 6 ∧ cont l 1 = true then
    if 0x80 ≤ (b0 % 32) * 64 + bn l 1 % 64 then ((b0 % 32) * 64 + bn l 1 % 64, 2) else (65533, 1)
  else if b0 / 16 = 14 ∧ cont l 1 = true ∧ cont l 2 = true then
    if 0x800 ≤ (b0 % 16) * 4096 + (bn l 1 % 64) * 64 + bn l 2 % 64 ∧ Utf8.valid (((b0 % 16) * 4096 + (bn l 1 % 64) * 64 + bn l 2 % 64 : Nat) : Int) = true then ((b0 % 16) * 4096 + (bn l 1 % 64) * 64 + bn l 2 % 64, 3) else (65533, 1)
  else if b0 / 8 = 30 ∧ cont l 1 = true ∧ cont l 2 = true ∧ cont l 3 = true then
    if 0x10000 ≤ (b0 % 8) * 262144 + (bn l 1 % 64) * 4096 + (bn l 2 % 64) * 64 + bn l 3 % 64 ∧ Utf8.valid (((b0 % 8) * 262144 + (bn l 1 % 64) * 4096 + (bn l 2 % 64) * 64 + bn l 3 % 64 : Nat) : Int) = true then ((b0 % 8) * 262144 + (bn l 1 % 64) * 4096 + (bn l 2 % 64) * 64 + bn l 3 % 64, 4) else (65533, 1)
  else (65533, 1)

theorem get_bn (s : ByteArray) (i k : Nat) (h : i + k < s.size) : (s.get! (i + k)).toNat = bn (s.data.toList.drop i) k := by
  have h2 : i + k < s.data.toList.length := by simpa using h
  unfold bn
  rw [List.getD_eq_getElem?_getD, List.getElem?_drop, List.getElem?_eq_getElem h2]
  show (s.data[i + k]!).toNat = _
  have h3 : i + k < s.data.size := by simpa using h
  rw [getElem!_pos s.data (i + k) h3]
  simp

theorem cont_eq (s : ByteArray) (i k : Nat) : ((decide (i + k < s.size)) && ((s.get! (i + k)).toNat / 64 == 2)) = cont (s.data.toList.drop i) k := by
  unfold cont
  by_cases h : i + k < s.size
  · have h' : k < (s.data.toList.drop i).length := by simp; omega
    rw [get_bn s i k h]
    unfold bn
    simp only [h, h', decide_true, Bool.true_and]
    rfl
  · have h' : ¬ k < (s.data.toList.drop i).length := by simp; omega
    simp only [h, h', decide_false, Bool.false_and]

theorem decode_dec (s : ByteArray) (i : Nat) (h : i < s.size) : Utf8.decode s i = dec (s.data.toList.drop i) := by
  have e0 := get_bn s i 0 h
  unfold Utf8.decode dec
  simp only [cont_eq, e0, Bool.and_eq_true, beq_iff_eq, ge_iff_le, Utf8.runeError, decide_eq_true_eq]
  have e1 : cont (s.data.toList.drop i) 1 = true → (s.get! (i + 1)).toNat = bn (s.data.toList.drop i) 1 := fun hc => by
    rw [← cont_eq] at hc; simp at hc; exact get_bn s i 1 hc.1
  have e2 : cont (s.data.toList.drop i) 2 = true → (s.get! (i + 2)).toNat = bn (s.data.toList.drop i) 2 := fun hc => by
    rw [← cont_eq] at hc; simp at hc; exact get_bn s i 2 hc.1
  have e3 : cont (s.data.toList.drop i) 3 = true → (s.get! (i + 3)).toNat = bn (s.data.toList.drop i) 3 := fun hc => by
    rw [← cont_eq] at hc; simp at hc; exact get_bn s i 3 hc.1
  by_cases c1 : cont (s.data.toList.drop i) 1 = true
  · rw [e1 c1]
    by_cases c2 : cont (s.data.toList.drop i) 2 = true
    · rw [e2 c2]
      by_cases c3 : cont (s.data.toList.drop i) 3 = true
      · rw [e3 c3]; simp only [c1, c2, c3, and_true, and_assoc]
      · simp only [c1, c2, c3, and_true, and_assoc, and_false, if_false, Bool.false_eq_true]
    · simp only [c1, c2, and_true, and_assoc, and_false, false_and, if_false, Bool.false_eq_true]
  · simp only [c1, and_true, and_assoc, and_false, false_and, if_false, Bool.false_eq_true]


theorem valid_iff (n : Nat) : Utf8.valid (n : Int) = true ↔ (n < 55296 ∨ (57344 ≤ n ∧ n ≤ 1114111)) := by
  simp only [Utf8.valid, Bool.or_eq_true, Bool.and_eq_true, decide_eq_true_eq]
  omega

theorem bn_lt (l : List UInt8) (k : Nat) : bn l k < 256 := (l.getD k 0).toNat_lt

/-- A character's bytes lie in the row. -/
theorem dec_width (l : List UInt8) (h : l ≠ []) : 1 ≤ (dec l).2 ∧ (dec l).2 ≤ l.length ∧ (dec l).2 ≤ 4 := by
  have hl : 0 < l.length := List.length_pos_iff.2 h
  have c1 : cont l 1 = true → 1 < l.length := fun h => by simp [cont] at h; exact h.1
  have c2 : cont l 2 = true → 2 < l.length := fun h => by simp [cont] at h; exact h.1
  have c3 : cont l 3 = true → 3 < l.length := fun h => by simp [cont] at h; exact h.1
  unfold dec
  dsimp only
  split
  · dsimp only; omega
  · split
    · rename_i h; have := c1 h.2
      split <;> (dsimp only; omega)
    · split
      · rename_i h; have := c2 h.2.2
        split <;> (dsimp only; omega)
      · split
        · rename_i h; have := c3 h.2.2.2
          split <;> (dsimp only; omega)
        · dsimp only; omega

/-- The characters of a row of bytes. -/
def chsF : Nat → List UInt8 → List (Nat × Nat)
  | 0, _ => []
  | f + 1, l => if l = [] then [] else dec l :: chsF f (l.drop (dec l).2)
def chs (l : List UInt8) : List (Nat × Nat) := chsF l.length l
theorem chsF_nil (f : Nat) : chsF f [] = [] := by cases f <;> simp [chsF]
theorem chsF_more (f : Nat) : ∀ (l : List UInt8) (g : Nat), l.length ≤ f → l.length ≤ g → chsF f l = chsF g l := by
  induction f with
  | zero => intro l g hf _; have : l = [] := List.eq_nil_of_length_eq_zero (by omega); subst this; rw [chsF_nil, chsF_nil]
  | succ f ih =>
    intro l g hf hg
    by_cases h : l = []
    · subst h; rw [chsF_nil, chsF_nil]
    · have hw := dec_width l h
      have hl : 0 < l.length := List.length_pos_iff.2 h
      obtain ⟨g, rfl⟩ : ∃ m, g = m + 1 := ⟨g - 1, by omega⟩
      simp only [chsF, h, if_false]
      rw [ih (l.drop (dec l).2) g (by simp; omega) (by simp; omega)]
@[simp] theorem chs_nil : chs [] = [] := rfl
theorem chs_cons (l : List UInt8) (h : l ≠ []) : chs l = dec l :: chs (l.drop (dec l).2) := by
  have hw := dec_width l h
  have hl : 0 < l.length := List.length_pos_iff.2 h
  unfold chs
  obtain ⟨f, hf⟩ : ∃ m, l.length = m + 1 := ⟨l.length - 1, by omega⟩
  rw [hf]
  simp only [chsF, h, if_false]
  rw [chsF_more f (l.drop (dec l).2) (l.drop (dec l).2).length (by simp; omega) (Nat.le_refl _)]

/-- Nothing of the first row's characters hangs on the second row. -/
def Cut (x y : List UInt8) : Prop := ∀ k, k < x.length → dec (x.drop k ++ y) = dec (x.drop k)
theorem chs_append (x y : List UInt8) (h : Cut x y) : chs (x ++ y) = chs x ++ chs y := by
  have H : ∀ n k, x.length - k ≤ n → k ≤ x.length → chs (x.drop k ++ y) = chs (x.drop k) ++ chs y := by
    intro n
    induction n with
    | zero => intro k h1 h2; have : k = x.length := by omega
              subst this; simp
    | succ n ih =>
      intro k h1 h2
      rcases Nat.lt_or_ge k x.length with hk | hk
      · have hne : x.drop k ≠ [] := by simp; omega
        have hw := dec_width _ hne
        simp only [List.length_drop] at hw
        rw [chs_cons (x.drop k ++ y) (by simp; omega), h k hk, chs_cons (x.drop k) hne, List.drop_append_of_le_length (by simp; omega), List.drop_drop]
        rw [ih (k + (dec (x.drop k)).2) (by omega) (by omega)]
        rfl
      · have : k = x.length := by omega
        subst this; simp
  simpa using H x.length 0 (by omega) (by omega)
theorem chs_length_le (l : List UInt8) : (chs l).length ≤ l.length := by
  have H : ∀ n (l : List UInt8), l.length ≤ n → (chs l).length ≤ l.length := by
    intro n
    induction n with
    | zero => intro l h; have : l = [] := List.eq_nil_of_length_eq_zero (by omega); subst this; simp
    | succ n ih =>
      intro l h
      by_cases hl : l = []
      · subst hl; simp
      · have hw := dec_width l hl
        rw [chs_cons l hl]
        have := ih (l.drop (dec l).2) (by simp; omega)
        simp only [List.length_drop, List.length_cons] at this ⊢
        omega
  exact H l.length l (Nat.le_refl _)


def lo2 (b : Nat) : Nat := if b = 224 then 160 else if b = 240 then 144 else 128
def hi2 (b : Nat) : Nat := if b = 237 then 159 else if b = 244 then 143 else 191
def isc (l : List UInt8) (k : Nat) : Prop := k < l.length ∧ 128 ≤ bn l k ∧ bn l k ≤ 191
theorem cont_iff (l : List UInt8) (k : Nat) : cont l k = true ↔ isc l k := by
  unfold cont isc bn
  simp only [Bool.and_eq_true, decide_eq_true_eq]
  have := (l.getD k 0).toNat_lt
  omega
def G2 (l : List UInt8) : Prop := 194 ≤ bn l 0 ∧ bn l 0 ≤ 223 ∧ isc l 1
def G3 (l : List UInt8) : Prop := 224 ≤ bn l 0 ∧ bn l 0 ≤ 239 ∧ isc l 1 ∧ lo2 (bn l 0) ≤ bn l 1 ∧ bn l 1 ≤ hi2 (bn l 0) ∧ isc l 2
def G4 (l : List UInt8) : Prop := 240 ≤ bn l 0 ∧ bn l 0 ≤ 244 ∧ isc l 1 ∧ lo2 (bn l 0) ≤ bn l 1 ∧ bn l 1 ≤ hi2 (bn l 0) ∧ isc l 2 ∧ isc l 3
def V2 (l : List UInt8) : Nat := (bn l 0 % 32) * 64 + bn l 1 % 64
def V3 (l : List UInt8) : Nat := (bn l 0 % 16) * 4096 + (bn l 1 % 64) * 64 + bn l 2 % 64
def V4 (l : List UInt8) : Nat := (bn l 0 % 8) * 262144 + (bn l 1 % 64) * 4096 + (bn l 2 % 64) * 64 + bn l 3 % 64
theorem dec_1 (l : List UInt8) (h : bn l 0 < 128) : dec l = (bn l 0, 1) := by unfold dec; simp [h]
theorem dec_2 (l : List UInt8) (h : G2 l) : dec l = (V2 l, 2) := by
  obtain ⟨h1, h2, h3⟩ := h
  have c1 := (cont_iff l 1).2 h3
  have := h3.2
  unfold dec V2; dsimp only
  rw [if_neg (by omega), if_pos ⟨by omega, c1⟩, if_pos (by omega)]
theorem dec_3 (l : List UInt8) (h : G3 l) : dec l = (V3 l, 3) := by
  obtain ⟨h1, h2, h3, h4, h5, h6⟩ := h
  have c1 := (cont_iff l 1).2 h3
  have c2 := (cont_iff l 2).2 h6
  have d1 := h3.2
  have d2 := h6.2
  unfold lo2 at h4; unfold hi2 at h5
  unfold dec V3; dsimp only
  rw [if_neg (by omega), if_neg (by omega), if_pos ⟨by omega, c1, c2⟩, if_pos]
  rw [valid_iff]
  clear h3 h6 c1 c2
  split at h4 <;> split at h5 <;> (try split at h4) <;> (try split at h5) <;> omega
theorem dec_4 (l : List UInt8) (h : G4 l) : dec l = (V4 l, 4) := by
  obtain ⟨h1, h2, h3, h4, h5, h6, h7⟩ := h
  have c1 := (cont_iff l 1).2 h3
  have c2 := (cont_iff l 2).2 h6
  have c3 := (cont_iff l 3).2 h7
  have d1 := h3.2
  have d2 := h6.2
  have d3 := h7.2
  unfold lo2 at h4; unfold hi2 at h5
  unfold dec V4; dsimp only
  rw [if_neg (by omega), if_neg (by omega), if_neg (by omega), if_pos ⟨by omega, c1, c2, c3⟩, if_pos]
  rw [valid_iff]
  clear h3 h6 h7 c1 c2 c3
  split at h4 <;> split at h5 <;> (try split at h4) <;> (try split at h5) <;> omega
theorem dec_bad (l : List UInt8) (h1 : ¬ bn l 0 < 128) (h2 : ¬ G2 l) (h3 : ¬ G3 l) (h4 : ¬ G4 l) : dec l = (65533, 1) := by
  have hb := bn_lt l 0
  unfold dec; dsimp only
  rw [if_neg h1]
  by_cases e1 : bn l 0 / 32 = 6 ∧ cont l 1 = true
  · obtain ⟨e, c1⟩ := e1
    rw [if_pos ⟨e, c1⟩]
    have c1 := (cont_iff l 1).1 c1
    have d1 := c1.2
    by_cases hx : bn l 0 < 194
    · rw [if_neg (by omega)]
    · exact absurd ⟨by omega, by omega, c1⟩ h2
  · rw [if_neg e1]
    by_cases e2 : bn l 0 / 16 = 14 ∧ cont l 1 = true ∧ cont l 2 = true
    · rw [if_pos e2]
      obtain ⟨e, c1, c2⟩ := e2
      have c1 := (cont_iff l 1).1 c1
      have c2 := (cont_iff l 2).1 c2
      have d1 := c1.2
      have d2 := c2.2
      rw [if_neg]
      rintro ⟨f1, f2⟩
      rw [valid_iff] at f2
      refine h3 ⟨by omega, by omega, c1, ?_, ?_, c2⟩
      · unfold lo2; clear h2 h3 h4 e1 c1 c2; split
        · omega
        · rw [if_neg (by omega)]; omega
      · unfold hi2; clear h2 h3 h4 e1 c1 c2; split
        · omega
        · rw [if_neg (by omega)]; omega
    · rw [if_neg e2]
      by_cases e3 : bn l 0 / 8 = 30 ∧ cont l 1 = true ∧ cont l 2 = true ∧ cont l 3 = true
      · rw [if_pos e3]
        obtain ⟨e, c1, c2, c3⟩ := e3
        have c1 := (cont_iff l 1).1 c1
        have c2 := (cont_iff l 2).1 c2
        have c3 := (cont_iff l 3).1 c3
        have d1 := c1.2
        have d2 := c2.2
        have d3 := c3.2
        rw [if_neg]
        rintro ⟨f1, f2⟩
        rw [valid_iff] at f2
        refine h4 ⟨by omega, by omega, c1, ?_, ?_, c2, c3⟩
        · unfold lo2; clear h2 h3 h4 e1 e2 c1 c2 c3; rw [if_neg (by omega)]; split <;> omega
        · unfold hi2; clear h2 h3 h4 e1 e2 c1 c2 c3; rw [if_neg (by omega)]; split <;> omega
      · rw [if_neg e3]

/-- How many bytes a character has that begins so. -/
def long (b : Nat) : Nat := if b < 194 then 1 else if b < 224 then 2 else if b < 240 then 3 else if b < 245 then 4 else 1
/-- utf8.FullRuneInString of what is not empty. -/
def full (l : List UInt8) : Prop := long (bn l 0) ≤ l.length ∨ (1 < l.length ∧ (bn l 1 < lo2 (bn l 0) ∨ hi2 (bn l 0) < bn l 1)) ∨ (2 < l.length ∧ (bn l 2 < 128 ∨ 191 < bn l 2))
theorem bn_append (l y : List UInt8) (k : Nat) (h : k < l.length) : bn (l ++ y) k = bn l k := by
  unfold bn; simp [List.getD_eq_getElem?_getD, List.getElem?_append_left h]
theorem isc_append (l y : List UInt8) (k : Nat) (h : k < l.length) : isc (l ++ y) k ↔ isc l k := by
  unfold isc; rw [bn_append l y k h]; simp; omega

theorem dec_full (l y : List UInt8) (hl : l ≠ []) (h : full l) : dec (l ++ y) = dec l := by
  have hp : 0 < l.length := List.length_pos_iff.2 hl
  have b0 := bn_append l y 0 hp
  by_cases h1 : bn l 0 < 128
  · rw [dec_1 _ h1, dec_1 _ (by omega), b0]
  have lo := fun k (hk : k < l.length) => bn_append l y k hk
  have ic := fun k (hk : k < l.length) => isc_append l y k hk
  have g2 : G2 (l ++ y) ↔ G2 l := by
    unfold G2; rw [b0]
    by_cases hk : 1 < l.length
    · rw [ic 1 hk]
    · unfold full long lo2 hi2 at h
      constructor
      · rintro ⟨x1, x2, x3⟩; exfalso; clear ic lo; rw [if_neg (by omega), if_pos (by omega)] at h; omega
      · rintro ⟨x1, x2, x3⟩; exact absurd x3.1 hk
  have g3 : G3 (l ++ y) ↔ G3 l := by
    unfold G3; rw [b0]
    by_cases hk : 1 < l.length
    · rw [ic 1 hk, lo 1 hk]
      by_cases hm : 2 < l.length
      · rw [ic 2 hm]
      · constructor
        · rintro ⟨x1, x2, x3, x4, x5, x6⟩; exfalso; unfold full long at h; rw [if_neg (by omega), if_neg (by omega), if_pos (by omega)] at h; omega
        · rintro ⟨x1, x2, x3, x4, x5, x6⟩; exact absurd x6.1 hm
    · constructor
      · rintro ⟨x1, x2, x3, x4, x5, x6⟩; exfalso; unfold full long at h; rw [if_neg (by omega), if_neg (by omega), if_pos (by omega)] at h; omega
      · rintro ⟨x1, x2, x3, x4, x5, x6⟩; exact absurd x3.1 hk
  have g4 : G4 (l ++ y) ↔ G4 l := by
    unfold G4; rw [b0]
    by_cases hk : 1 < l.length
    · rw [ic 1 hk, lo 1 hk]
      by_cases hm : 2 < l.length
      · rw [ic 2 hm]
        by_cases hn : 3 < l.length
        · rw [ic 3 hn]
        · constructor
          · rintro ⟨x1, x2, x3, x4, x5, x6, x7⟩; exfalso; have := x6.2; unfold full long at h; rw [if_neg (by omega), if_neg (by omega), if_neg (by omega), if_pos (by omega)] at h; omega
          · rintro ⟨x1, x2, x3, x4, x5, x6, x7⟩; exact absurd x7.1 hn
      · constructor
        · rintro ⟨x1, x2, x3, x4, x5, x6, x7⟩; exfalso; unfold full long at h; rw [if_neg (by omega), if_neg (by omega), if_neg (by omega), if_pos (by omega)] at h; omega
        · rintro ⟨x1, x2, x3, x4, x5, x6, x7⟩; exact absurd x6.1 hm
    · constructor
      · rintro ⟨x1, x2, x3, x4, x5, x6, x7⟩; exfalso; unfold full long at h; rw [if_neg (by omega), if_neg (by omega), if_neg (by omega), if_pos (by omega)] at h; omega
      · rintro ⟨x1, x2, x3, x4, x5, x6, x7⟩; exact absurd x3.1 hk
  by_cases k2 : G2 l
  · have := k2.2.2.1
    rw [dec_2 _ k2, dec_2 _ (g2.2 k2)]; unfold V2; rw [b0, lo 1 this]
  by_cases k3 : G3 l
  · have e1 := k3.2.2.1.1
    have e2 := k3.2.2.2.2.2.1
    rw [dec_3 _ k3, dec_3 _ (g3.2 k3)]; unfold V3; rw [b0, lo 1 e1, lo 2 e2]
  by_cases k4 : G4 l
  · have e1 := k4.2.2.1.1
    have e2 := k4.2.2.2.2.2.1.1
    have e3 := k4.2.2.2.2.2.2.1
    rw [dec_4 _ k4, dec_4 _ (g4.2 k4)]; unfold V4; rw [b0, lo 1 e1, lo 2 e2, lo 3 e3]
  rw [dec_bad l h1 k2 k3 k4, dec_bad (l ++ y) (by omega) (fun h => k2 (g2.1 h)) (fun h => k3 (g3.1 h)) (fun h => k4 (g4.1 h))]

/-- What begins with a byte that goes on with no character (or is nothing) turns no character ahead of it. -/
theorem dec_stop (l y : List UInt8) (hl : l ≠ []) (h : ¬ isc y 0) : dec (l ++ y) = dec l := by
  have hp : 0 < l.length := List.length_pos_iff.2 hl
  have b0 := bn_append l y 0 hp
  by_cases h1 : bn l 0 < 128
  · rw [dec_1 _ h1, dec_1 _ (by omega), b0]
  have hy : ∀ k, k = l.length → ¬ isc (l ++ y) k := by
    rintro k rfl hk
    refine h ⟨by have := hk.1; simp at this; omega, ?_⟩
    have := hk.2
    unfold bn at this ⊢
    simpa [List.getD_eq_getElem?_getD, List.getElem?_append_right] using this
  have lo := fun k (hk : k < l.length) => bn_append l y k hk
  have ic := fun k (hk : k < l.length) => isc_append l y k hk
  have nc : ∀ k, l.length ≤ k → ¬ isc l k := fun k hk hc => by have := hc.1; omega
  have g2 : G2 (l ++ y) ↔ G2 l := by
    unfold G2; rw [b0]
    by_cases hk : 1 < l.length
    · rw [ic 1 hk]
    · have := hy 1 (by omega); have := nc 1 (by omega); simp [*]
  have g3 : G3 (l ++ y) ↔ G3 l := by
    unfold G3; rw [b0]
    by_cases hk : 1 < l.length
    · rw [ic 1 hk, lo 1 hk]
      by_cases hm : 2 < l.length
      · rw [ic 2 hm]
      · have := hy 2 (by omega); have := nc 2 (by omega); simp [*]
    · have := hy 1 (by omega); have := nc 1 (by omega); simp [*]
  have g4 : G4 (l ++ y) ↔ G4 l := by
    unfold G4; rw [b0]
    by_cases hk : 1 < l.length
    · rw [ic 1 hk, lo 1 hk]
      by_cases hm : 2 < l.length
      · rw [ic 2 hm]
        by_cases hn : 3 < l.length
        · rw [ic 3 hn]
        · have := hy 3 (by omega); have := nc 3 (by omega); simp [*]
      · have := hy 2 (by omega); have := nc 2 (by omega); simp [*]
    · have := hy 1 (by omega); have := nc 1 (by omega); simp [*]
  by_cases k2 : G2 l
  · have := k2.2.2.1
    rw [dec_2 _ k2, dec_2 _ (g2.2 k2)]; unfold V2; rw [b0, lo 1 this]
  by_cases k3 : G3 l
  · have e1 := k3.2.2.1.1
    have e2 := k3.2.2.2.2.2.1
    rw [dec_3 _ k3, dec_3 _ (g3.2 k3)]; unfold V3; rw [b0, lo 1 e1, lo 2 e2]
  by_cases k4 : G4 l
  · have e1 := k4.2.2.1.1
    have e2 := k4.2.2.2.2.2.1.1
    have e3 := k4.2.2.2.2.2.2.1
    rw [dec_4 _ k4, dec_4 _ (g4.2 k4)]; unfold V4; rw [b0, lo 1 e1, lo 2 e2, lo 3 e3]
  rw [dec_bad l h1 k2 k3 k4, dec_bad (l ++ y) (by omega) (fun h => k2 (g2.1 h)) (fun h => k3 (g3.1 h)) (fun h => k4 (g4.1 h))]

theorem full_long (l : List UInt8) (h : 4 ≤ l.length) : full l := by
  unfold full long
  left
  split
  · omega
  · split
    · omega
    · split
      · omega
      · split <;> omega
theorem cut_of_stop (x y : List UInt8) (h : ¬ isc y 0) : Cut x y := fun k hk => dec_stop _ y (by simp; omega) h
theorem cut_of_full (x y : List UInt8) (h : ∀ n, 1 ≤ n → n ≤ 3 → n ≤ x.length → full (x.drop (x.length - n))) : Cut x y := by
  intro k hk
  refine dec_full _ y (by simp; omega) ?_
  rcases Nat.lt_or_ge (x.length - k) 4 with h4 | h4
  · have := h (x.length - k) (by omega) (by omega) (by omega)
    rwa [show x.length - (x.length - k) = k by omega] at this
  · exact full_long _ (by simp; omega)
/-- The begin of a character that isn't whole stands behind a stop. -/
theorem open_stop (l : List UInt8) (h : ¬ full l) : ¬ isc l 0 := by
  intro hc
  have := hc.2
  have h1 := hc.1
  unfold full long at h
  rw [if_pos (by omega)] at h
  omega

end Go.Proofs.YtlglnepfcihhiaaDoor
