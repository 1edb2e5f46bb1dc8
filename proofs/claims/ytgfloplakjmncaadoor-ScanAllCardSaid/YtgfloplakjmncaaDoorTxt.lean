/- Plain: UTF-8, the next character, places, where a text may be cut. By an AI agent; no person has read it. -/
import Derived.Lib.RuneCount
import Derived.IntWalk
import Derived.RowKit
set_option linter.unusedSimpArgs false
set_option linter.unusedVariables false
namespace Go.Proofs.YtgfloplakjmncaaDoor
open Go
/-- The first character of a row of bytes: its point and its bytes (a bad byte: 65533 and 1). -/
def cont (l : List UInt8) (k : Nat) : Bool := decide (k < l.length) && decide ((l.getD k 0).toNat / 64 = 2)
def bn (l : List UInt8) (k : Nat) : Nat := (l.getD k 0).toNat
def dec (l : List UInt8) : Nat × Nat :=
  let b0 := bn l 0
  if b0 < 0x80 then (b0, 1)
  else if b0 / 32 = 6 ∧ cont l 1 = true then
    if 0x80 ≤ (b0 % 32) * 64 + bn l 1 % 64 then ((b0 % 32) * 64 + bn l 1 % 64, 2) else (65533, 1)
  else if b0 / 16 = 14 ∧ cont l 1 = true ∧ cont l 2 = true then
    if 0x800 ≤ (b0 % 16) * 4096 + (bn l 1 % 64) * 64 + bn l 2 % 64 ∧ Utf8.valid (((b0 % 16) * 4096 + (bn l 1 % 64) * 64 + bn l 2 % 64 : Nat) : Int) = true then ((b0 % 16) * 4096 + (bn l 1 % 64) * 64 + bn l 2 % 64, 3) else (65533, 1)
  else if b0 / 8 = 30 ∧ cont l 1 = true ∧ cont l 2 = true ∧ cont l 3 = true then
    if 0x10000 ≤ (b0 % 8) * 262144 + (bn l 1 % 64) * 4096 + (bn l 2 % 64) * 64 + bn l 3 % 64 ∧ Utf8.valid (((b0 % 8) * 262144 + (bn l 1 % 64) * 4096 + (bn l 2 % 64) * 64 + bn l 3 % 64 : Nat) : Int) = true then ((b0 % 8) * 262144 + (bn l 1 % 64) * 4096 + (bn l 2 % 64) * 64 + bn l 3 % 64, 4) else (65533, 1)
  else (65533, 1)
theorem get_bn (s : ByteArray) (i k : Nat) (h : i + k < s.size) : (s.get! (i + k)).toNat = bn (s.data.toList.drop i) k := by
  have h2 : i + k < s.data.toList.length := by simpa using h
  unfold bn
  rw [List.getD_eq_getElem?_getD, List.getElem?_drop, List.getElem?_eq_getElem h2]
  show (s.data[i + k]!).toNat = _
  have h3 : i + k < s.data.size := by simpa using h
  rw [getElem!_pos s.data (i + k) h3]
  simp
theorem cont_eq (s : ByteArray) (i k : Nat) : ((decide (i + k < s.size)) && ((s.get! (i + k)).toNat / 64 == 2)) = cont (s.data.toList.drop i) k := by
  unfold cont
  by_cases h : i + k < s.size
  · have h' : k < (s.data.toList.drop i).length := by simp; omega
    rw [get_bn s i k h]
    unfold bn
    simp only [h, h', decide_true, Bool.true_and]
    rfl
  · have h' : ¬ k < (s.data.toList.drop i).length := by simp; omega
    simp only [h, h', decide_false, Bool.false_and]
theorem decode_dec (s : ByteArray) (i : Nat) (h : i < s.size) : Utf8.decode s i = dec (s.data.toList.drop i) := by
  have e0 := get_bn s i 0 h
  unfold Utf8.decode dec
  simp only [cont_eq, e0, Bool.and_eq_true, beq_iff_eq, ge_iff_le, Utf8.runeError, decide_eq_true_eq]
  have e1 : cont (s.data.toList.drop i) 1 = true → (s.get! (i + 1)).toNat = bn (s.data.toList.drop i) 1 := fun hc => by
    rw [← cont_eq] at hc; simp at hc; exact get_bn s i 1 hc.1
  have e2 : cont (s.data.toList.drop i) 2 = true → (s.get! (i + 2)).toNat = bn (s.data.toList.drop i) 2 := fun hc => by
    rw [← cont_eq] at hc; simp at hc; exact get_bn s i 2 hc.1
  have e3 : cont (s.data.toList.drop i) 3 = true → (s.get! (i + 3)).toNat = bn (s.data.toList.drop i) 3 := fun hc => by
    rw [← cont_eq] at hc; simp at hc; exact get_bn s i 3 hc.1
  by_cases c1 : cont (s.data.toList.drop i) 1 = true
  · rw [e1 c1]
    by_cases c2 : cont (s.data.toList.drop i) 2 = true
    · rw [e2 c2]
      by_cases c3 : cont (s.data.toList.drop i) 3 = true
      · rw [e3 c3]; simp only [c1, c2, c3, and_true, and_assoc]
      · simp only [c1, c2, c3, and_true, and_assoc, and_false, if_false, Bool.false_eq_true]
    · simp only [c1, c2, and_true, and_assoc, and_false, false_and, if_false, Bool.false_eq_true]
  · simp only [c1, and_true, and_assoc, and_false, false_and, if_false, Bool.false_eq_true]
theorem valid_iff (n : Nat) : Utf8.valid (n : Int) = true ↔ (n < 55296 ∨ (57344 ≤ n ∧ n ≤ 1114111)) := by
  simp only [Utf8.valid, Bool.or_eq_true, Bool.and_eq_true, decide_eq_true_eq]
  omega
theorem bn_lt (l : List UInt8) (k : Nat) : bn l k < 256 := (l.getD k 0).toNat_lt
/-- A character's bytes lie in the row. -/
theorem dec_width (l : List UInt8) (h : l ≠ []) : 1 ≤ (dec l).2 ∧ (dec l).2 ≤ l.length ∧ (dec l).2 ≤ 4 := by
  have hl : 0 < l.length := List.length_pos_iff.2 h
  have c1 : cont l 1 = true → 1 < l.length := fun h => by simp [cont] at h; exact h.1
  have c2 : cont l 2 = true → 2 < l.length := fun h => by simp [cont] at h; exact h.1
  have c3 : cont l 3 = true → 3 < l.length := fun h => by simp [cont] at h; exact h.1
  unfold dec
  dsimp only
  split
  · dsimp only; omega
  · split
    · rename_i h; have := c1 h.2
      split <;> (dsimp only; omega)
    · split
      · rename_i h; have := c2 h.2.2
        split <;> (dsimp only; omega)
      · split
        · rename_i h; have := c3 h.2.2.2
          split <;> (dsimp only; omega)
        · dsimp only; omega
/-- The characters of a row of bytes. -/
def chsF : Nat → List UInt8 → List (Nat × Nat)
  | 0, _ => []
  | f + 1, l => if l = [] then [] else dec l :: chsF f (l.drop (dec l).2)
def chs (l : List UInt8) : List (Nat × Nat) := chsF l.length l
theorem chsF_nil (f : Nat) : chsF f [] = [] := by cases f <;> simp [chsF]
theorem chsF_more (f : Nat) : ∀ (l : List UInt8) (g : Nat), l.length ≤ f → l.length ≤ g → chsF f l = chsF g l := by
  induction f with
  | zero => intro l g hf _; have : l = [] := List.eq_nil_of_length_eq_zero (by omega); subst this; rw [chsF_nil, chsF_nil]
  | succ f ih =>
    intro l g hf hg
    by_cases h : l = []
    · subst h; rw [chsF_nil, chsF_nil]
    · have hw := dec_width l h
      have hl : 0 < l.length := List.length_pos_iff.2 h
      obtain ⟨g, rfl⟩ : ∃ m, g = m + 1 := ⟨g - 1, by omega⟩
      simp only [chsF, h, if_false]
      rw [ih (l.drop (dec l).2) g (by simp; omega) (by simp; omega)]
@[simp] theorem chs_nil : chs [] = [] := rfl
theorem chs_cons (l : List UInt8) (h : l ≠ []) : chs l = dec l :: chs (l.drop (dec l).2) := by
  have hw := dec_width l h
  have hl : 0 < l.length := List.length_pos_iff.2 h
  unfold chs
  obtain ⟨f, hf⟩ : ∃ m, l.length = m + 1 := ⟨l.length - 1, by omega⟩
  rw [hf]
  simp only [chsF, h, if_false]
  rw [chsF_more f (l.drop (dec l).2) (l.drop (dec l).2).length (by simp; omega) (Nat.le_refl _)]
/-- Nothing of the first row's characters hangs on the second row. -/
def Cut (x y : List UInt8) : Prop := ∀ k, k < x.length → dec (x.drop k ++ y) = dec (x.drop k)
theorem chs_append (x y : List UInt8) (h : Cut x y) : chs (x ++ y) = chs x ++ chs y := by
  have H : ∀ n k, x.length - k ≤ n → k ≤ x.length → chs (x.drop k ++ y) = chs (x.drop k) ++ chs y := by
    intro n
    induction n with
    | zero => intro k h1 h2; have : k = x.length := by omega
              subst this; simp
    | succ n ih =>
      intro k h1 h2
      rcases Nat.lt_or_ge k x.length with hk | hk
      · have hne : x.drop k ≠ [] := by simp; omega
        have hw := dec_width _ hne
        simp only [List.length_drop] at hw
        rw [chs_cons (x.drop k ++ y) (by simp; omega), h k hk, chs_cons (x.drop k) hne, List.drop_append_of_le_length (by simp; omega), List.drop_drop]
        rw [ih (k + (dec (x.drop k)).2) (by omega) (by omega)]
        rfl
      · have : k = x.length := by omega
        subst this; simp
  simpa using H x.length 0 (by omega) (by omega)
def lo2 (b : Nat) : Nat := if b = 224 then 160 else if b = 240 then 144 else 128
def hi2 (b : Nat) : Nat := if b = 237 then 159 else if b = 244 then 143 else 191
def isc (l : List UInt8) (k : Nat) : Prop := k < l.length ∧ 128 ≤ bn l k ∧ bn l k ≤ 191
theorem cont_iff (l : List UInt8) (k : Nat) : cont l k = true ↔ isc l k := by
  unfold cont isc bn
  simp only [Bool.and_eq_true, decide_eq_true_eq]
  have := (l.getD k 0).toNat_lt
  omega
def G2 (l : List UInt8) : Prop := 194 ≤ bn l 0 ∧ bn l 0 ≤ 223 ∧ isc l 1
def G3 (l : List UInt8) : Prop := 224 ≤ bn l 0 ∧ bn l 0 ≤ 239 ∧ isc l 1 ∧ lo2 (bn l 0) ≤ bn l 1 ∧ bn l 1 ≤ hi2 (bn l 0) ∧ isc l 2
def G4 (l : List UInt8) : Prop := 240 ≤ bn l 0 ∧ bn l 0 ≤ 244 ∧ isc l 1 ∧ lo2 (bn l 0) ≤ bn l 1 ∧ bn l 1 ≤ hi2 (bn l 0) ∧ isc l 2 ∧ isc l 3
def V2 (l : List UInt8) : Nat := (bn l 0 % 32) * 64 + bn l 1 % 64
def V3 (l : List UInt8) : Nat := (bn l 0 % 16) * 4096 + (bn l 1 % 64) * 64 + bn l 2 % 64
def V4 (l : List UInt8) : Nat := (bn l 0 % 8) * 262144 + (bn l 1 % 64) * 4096 + (bn l 2 % 64) * 64 + bn l 3 % 64
theorem dec_1 (l : List UInt8) (h : bn l 0 < 128) : dec l = (bn l 0, 1) := by unfold dec; simp [h]
theorem dec_2 (l : List UInt8) (h : G2 l) : dec l = (V2 l, 2) := by
  obtain ⟨h1, h2, h3⟩ := h
  have c1 := (cont_iff l 1).2 h3
  have := h3.2
  unfold dec V2; dsimp only
  rw [if_neg (by omega), if_pos ⟨by omega, c1⟩, if_pos (by omega)]
theorem dec_3 (l : List UInt8) (h : G3 l) : dec l = (V3 l, 3) := by
  obtain ⟨h1, h2, h3, h4, h5, h6⟩ := h
  have c1 := (cont_iff l 1).2 h3
  have c2 := (cont_iff l 2).2 h6
  have d1 := h3.2
  have d2 := h6.2
  unfold lo2 at h4; unfold hi2 at h5
  unfold dec V3; dsimp only
  rw [if_neg (by omega), if_neg (by omega), if_pos ⟨by omega, c1, c2⟩, if_pos]
  rw [valid_iff]
  clear h3 h6 c1 c2
  split at h4 <;> split at h5 <;> (try split at h4) <;> (try split at h5) <;> omega
theorem dec_4 (l : List UInt8) (h : G4 l) : dec l = (V4 l, 4) := by
  obtain ⟨h1, h2, h3, h4, h5, h6, h7⟩ := h
  have c1 := (cont_iff l 1).2 h3
  have c2 := (cont_iff l 2).2 h6
  have c3 := (cont_iff l 3).2 h7
  have d1 := h3.2
  have d2 := h6.2
  have d3 := h7.2
  unfold lo2 at h4; unfold hi2 at h5
  unfold dec V4; dsimp only
  rw [if_neg (by omega), if_neg (by omega), if_neg (by omega), if_pos ⟨by omega, c1, c2, c3⟩, if_pos]
  rw [valid_iff]
  clear h3 h6 h7 c1 c2 c3
  split at h4 <;> split at h5 <;> (try split at h4) <;> (try split at h5) <;> omega
theorem dec_bad (l : List UInt8) (h1 : ¬ bn l 0 < 128) (h2 : ¬ G2 l) (h3 : ¬ G3 l) (h4 : ¬ G4 l) : dec l = (65533, 1) := by
  have hb := bn_lt l 0
  unfold dec; dsimp only
  rw [if_neg h1]
  by_cases e1 : bn l 0 / 32 = 6 ∧ cont l 1 = true
  · obtain ⟨e, c1⟩ := e1
    rw [if_pos ⟨e, c1⟩]
    have c1 := (cont_iff l 1).1 c1
    have d1 := c1.2
    by_cases hx : bn l 0 < 194
    · rw [if_neg (by omega)]
    · exact absurd ⟨by omega, by omega, c1⟩ h2
  · rw [if_neg e1]
    by_cases e2 : bn l 0 / 16 = 14 ∧ cont l 1 = true ∧ cont l 2 = true
    · rw [if_pos e2]
      obtain ⟨e, c1, c2⟩ := e2
      have c1 := (cont_iff l 1).1 c1
      have c2 := (cont_iff l 2).1 c2
      have d1 := c1.2
      have d2 := c2.2
      rw [if_neg]
      rintro ⟨f1, f2⟩
      rw [valid_iff] at f2
      refine h3 ⟨by omega, by omega, c1, ?_, ?_, c2⟩
      · unfold lo2; clear h2 h3 h4 e1 c1 c2; split
        · omega
        · rw [if_neg (by omega)]; omega
      · unfold hi2; clear h2 h3 h4 e1 c1 c2; split
        · omega
        · rw [if_neg (by omega)]; omega
    · rw [if_neg e2]
      by_cases e3 : bn l 0 / 8 = 30 ∧ cont l 1 = true ∧ cont l 2 = true ∧ cont l 3 = true
      · rw [if_pos e3]
        obtain ⟨e, c1, c2, c3⟩ := e3
        have c1 := (cont_iff l 1).1 c1
        have c2 := (cont_iff l 2).1 c2
        have c3 := (cont_iff l 3).1 c3
        have d1 := c1.2
        have d2 := c2.2
        have d3 := c3.2
        rw [if_neg]
        rintro ⟨f1, f2⟩
        rw [valid_iff] at f2
        refine h4 ⟨by omega, by omega, c1, ?_, ?_, c2, c3⟩
        · unfold lo2; clear h2 h3 h4 e1 e2 c1 c2 c3; rw [if_neg (by omega)]; split <;> omega
        · unfold hi2; clear h2 h3 h4 e1 e2 c1 c2 c3; rw [if_neg (by omega)]; split <;> omega
      · rw [if_neg e3]
/-- How many bytes a character has that begins so. -/
def long (b : Nat) : Nat := if b < 194 then 1 else if b < 224 then 2 else if b < 240 then 3 else if b < 245 then 4 else 1
/-- utf8.FullRuneInString of what is not empty. -/
def full (l : List UInt8) : Prop := long (bn l 0) ≤ l.length ∨ (1 < l.length ∧ (bn l 1 < lo2 (bn l 0) ∨ hi2 (bn l 0) < bn l 1)) ∨ (2 < l.length ∧ (bn l 2 < 128 ∨ 191 < bn l 2))
theorem bn_append (l y : List UInt8) (k : Nat) (h : k < l.length) : bn (l ++ y) k = bn l k := by
  unfold bn; simp [List.getD_eq_getElem?_getD, List.getElem?_append_left h]
theorem isc_append (l y : List UInt8) (k : Nat) (h : k < l.length) : isc (l ++ y) k ↔ isc l k := by
  unfold isc; rw [bn_append l y k h]; simp; omega
theorem dec_full (l y : List UInt8) (hl : l ≠ []) (h : full l) : dec (l ++ y) = dec l := by
  have hp : 0 < l.length := List.length_pos_iff.2 hl
  have b0 := bn_append l y 0 hp
  by_cases h1 : bn l 0 < 128
  · rw [dec_1 _ h1, dec_1 _ (by omega), b0]
  have lo := fun k (hk : k < l.length) => bn_append l y k hk
  have ic := fun k (hk : k < l.length) => isc_append l y k hk
  have g2 : G2 (l ++ y) ↔ G2 l := by
    unfold G2; rw [b0]
    by_cases hk : 1 < l.length
    · rw [ic 1 hk]
    · unfold full long lo2 hi2 at h
      constructor
      · rintro ⟨x1, x2, x3⟩; exfalso; clear ic lo; rw [if_neg (by omega), if_pos (by omega)] at h; omega
      · rintro ⟨x1, x2, x3⟩; exact absurd x3.1 hk
  have g3 : G3 (l ++ y) ↔ G3 l := by
    unfold G3; rw [b0]
    by_cases hk : 1 < l.length
    · rw [ic 1 hk, lo 1 hk]
      by_cases hm : 2 < l.length
      · rw [ic 2 hm]
      · constructor
        · rintro ⟨x1, x2, x3, x4, x5, x6⟩; exfalso; unfold full long at h; rw [if_neg (by omega), if_neg (by omega), if_pos (by omega)] at h; omega
        · rintro ⟨x1, x2, x3, x4, x5, x6⟩; exact absurd x6.1 hm
    · constructor
      · rintro ⟨x1, x2, x3, x4, x5, x6⟩; exfalso; unfold full long at h; rw [if_neg (by omega), if_neg (by omega), if_pos (by omega)] at h; omega
      · rintro ⟨x1, x2, x3, x4, x5, x6⟩; exact absurd x3.1 hk
  have g4 : G4 (l ++ y) ↔ G4 l := by
    unfold G4; rw [b0]
    by_cases hk : 1 < l.length
    · rw [ic 1 hk, lo 1 hk]
      by_cases hm : 2 < l.length
      · rw [ic 2 hm]
        by_cases hn : 3 < l.length
        · rw [ic 3 hn]
        · constructor
          · rintro ⟨x1, x2, x3, x4, x5, x6, x7⟩; exfalso; have := x6.2; unfold full long at h; rw [if_neg (by omega), if_neg (by omega), if_neg (by omega), if_pos (by omega)] at h; omega
          · rintro ⟨x1, x2, x3, x4, x5, x6, x7⟩; exact absurd x7.1 hn
      · constructor
        · rintro ⟨x1, x2, x3, x4, x5, x6, x7⟩; exfalso; unfold full long at h; rw [if_neg (by omega), if_neg (by omega), if_neg (by omega), if_pos (by omega)] at h; omega
        · rintro ⟨x1, x2, x3, x4, x5, x6, x7⟩; exact absurd x6.1 hm
    · constructor
      · rintro ⟨x1, x2, x3, x4, x5, x6, x7⟩; exfalso; unfold full long at h; rw [if_neg (by omega), if_neg (by omega), if_neg (by omega), if_pos (by omega)] at h; omega
      · rintro ⟨x1, x2, x3, x4, x5, x6, x7⟩; exact absurd x3.1 hk
  by_cases k2 : G2 l
  · have := k2.2.2.1
    rw [dec_2 _ k2, dec_2 _ (g2.2 k2)]; unfold V2; rw [b0, lo 1 this]
  by_cases k3 : G3 l
  · have e1 := k3.2.2.1.1
    have e2 := k3.2.2.2.2.2.1
    rw [dec_3 _ k3, dec_3 _ (g3.2 k3)]; unfold V3; rw [b0, lo 1 e1, lo 2 e2]
  by_cases k4 : G4 l
  · have e1 := k4.2.2.1.1
    have e2 := k4.2.2.2.2.2.1.1
    have e3 := k4.2.2.2.2.2.2.1
    rw [dec_4 _ k4, dec_4 _ (g4.2 k4)]; unfold V4; rw [b0, lo 1 e1, lo 2 e2, lo 3 e3]
  rw [dec_bad l h1 k2 k3 k4, dec_bad (l ++ y) (by omega) (fun h => k2 (g2.1 h)) (fun h => k3 (g3.1 h)) (fun h => k4 (g4.1 h))]
/-- What begins with a byte that goes on with no character (or is nothing) turns no character ahead of it. -/
theorem dec_stop (l y : List UInt8) (hl : l ≠ []) (h : ¬ isc y 0) : dec (l ++ y) = dec l := by
  have hp : 0 < l.length := List.length_pos_iff.2 hl
  have b0 := bn_append l y 0 hp
  by_cases h1 : bn l 0 < 128
  · rw [dec_1 _ h1, dec_1 _ (by omega), b0]
  have hy : ∀ k, k = l.length → ¬ isc (l ++ y) k := by
    rintro k rfl hk
    refine h ⟨by have := hk.1; simp at this; omega, ?_⟩
    have := hk.2
    unfold bn at this ⊢
    simpa [List.getD_eq_getElem?_getD, List.getElem?_append_right] using this
  have lo := fun k (hk : k < l.length) => bn_append l y k hk
  have ic := fun k (hk : k < l.length) => isc_append l y k hk
  have nc : ∀ k, l.length ≤ k → ¬ isc l k := fun k hk hc => by have := hc.1; omega
  have g2 : G2 (l ++ y) ↔ G2 l := by
    unfold G2; rw [b0]
    by_cases hk : 1 < l.length
    · rw [ic 1 hk]
    · have := hy 1 (by omega); have := nc 1 (by omega); simp [*]
  have g3 : G3 (l ++ y) ↔ G3 l := by
    unfold G3; rw [b0]
    by_cases hk : 1 < l.length
    · rw [ic 1 hk, lo 1 hk]
      by_cases hm : 2 < l.length
      · rw [ic 2 hm]
      · have := hy 2 (by omega); have := nc 2 (by omega); simp [*]
    · have := hy 1 (by omega); have := nc 1 (by omega); simp [*]
  have g4 : G4 (l ++ y) ↔ G4 l := by
    unfold G4; rw [b0]
    by_cases hk : 1 < l.length
    · rw [ic 1 hk, lo 1 hk]
      by_cases hm : 2 < l.length
      · rw [ic 2 hm]
        by_cases hn : 3 < l.length
        · rw [ic 3 hn]
        · have := hy 3 (by omega); have := nc 3 (by omega); simp [*]
      · have := hy 2 (by omega); have := nc 2 (by omega); simp [*]
    · have := hy 1 (by omega); have := nc 1 (by omega); simp [*]
  by_cases k2 : G2 l
  · have := k2.2.2.1
    rw [dec_2 _ k2, dec_2 _ (g2.2 k2)]; unfold V2; rw [b0, lo 1 this]
  by_cases k3 : G3 l
  · have e1 := k3.2.2.1.1
    have e2 := k3.2.2.2.2.2.1
    rw [dec_3 _ k3, dec_3 _ (g3.2 k3)]; unfold V3; rw [b0, lo 1 e1, lo 2 e2]
  by_cases k4 : G4 l
  · have e1 := k4.2.2.1.1
    have e2 := k4.2.2.2.2.2.1.1
    have e3 := k4.2.2.2.2.2.2.1
    rw [dec_4 _ k4, dec_4 _ (g4.2 k4)]; unfold V4; rw [b0, lo 1 e1, lo 2 e2, lo 3 e3]
  rw [dec_bad l h1 k2 k3 k4, dec_bad (l ++ y) (by omega) (fun h => k2 (g2.1 h)) (fun h => k3 (g3.1 h)) (fun h => k4 (g4.1 h))]
theorem full_long (l : List UInt8) (h : 4 ≤ l.length) : full l := by
  unfold full long
  left
  split
  · omega
  · split
    · omega
    · split
      · omega
      · split <;> omega
theorem cut_of_stop (x y : List UInt8) (h : ¬ isc y 0) : Cut x y := fun k hk => dec_stop _ y (by simp; omega) h
theorem cut_of_full (x y : List UInt8) (h : ∀ n, 1 ≤ n → n ≤ 3 → n ≤ x.length → full (x.drop (x.length - n))) : Cut x y := by
  intro k hk
  refine dec_full _ y (by simp; omega) ?_
  rcases Nat.lt_or_ge (x.length - k) 4 with h4 | h4
  · have := h (x.length - k) (by omega) (by omega) (by omega)
    rwa [show x.length - (x.length - k) = k by omega] at this
  · exact full_long _ (by simp; omega)
end Go.Proofs.YtgfloplakjmncaaDoor
namespace Go.Proofs.YtgfloplakjmncaaDoor
open Go
theorem dec_cases (l : List UInt8) : (bn l 0 < 128 ∧ dec l = (bn l 0, 1)) ∨ (G2 l ∧ dec l = (V2 l, 2)) ∨ (G3 l ∧ dec l = (V3 l, 3)) ∨ (G4 l ∧ dec l = (V4 l, 4)) ∨ (¬ bn l 0 < 128 ∧ ¬ G2 l ∧ ¬ G3 l ∧ ¬ G4 l ∧ dec l = (65533, 1)) := by
  by_cases h1 : bn l 0 < 128
  · exact .inl ⟨h1, dec_1 l h1⟩
  by_cases h2 : G2 l
  · exact .inr (.inl ⟨h2, dec_2 l h2⟩)
  by_cases h3 : G3 l
  · exact .inr (.inr (.inl ⟨h3, dec_3 l h3⟩))
  by_cases h4 : G4 l
  · exact .inr (.inr (.inr (.inl ⟨h4, dec_4 l h4⟩)))
  exact .inr (.inr (.inr (.inr ⟨h1, h2, h3, h4, dec_bad l h1 h2 h3 h4⟩)))
def lenOf (v : Nat) : Nat := if v < 128 then 1 else if v < 2048 then 2 else if v < 65536 then 3 else 4
theorem V2_range (l : List UInt8) (h : G2 l) : 128 ≤ V2 l ∧ V2 l < 2048 := by
  obtain ⟨h1, h2, h3⟩ := h; have := h3.2; unfold V2; omega
theorem V3_range (l : List UInt8) (h : G3 l) : 2048 ≤ V3 l ∧ V3 l < 65536 ∧ (V3 l < 55296 ∨ 57343 < V3 l) := by
  obtain ⟨h1, h2, h3, h4, h5, h6⟩ := h
  have := h3.2; have := h6.2
  unfold V3; unfold lo2 at h4; unfold hi2 at h5
  split at h4 <;> split at h5 <;> (try split at h4) <;> (try split at h5) <;> omega
theorem V4_range (l : List UInt8) (h : G4 l) : 65536 ≤ V4 l ∧ V4 l ≤ 1114111 := by
  obtain ⟨h1, h2, h3, h4, h5, h6, h7⟩ := h
  have := h3.2; have := h6.2; have := h7.2
  unfold V4; unfold lo2 at h4; unfold hi2 at h5
  split at h4 <;> split at h5 <;> (try split at h4) <;> (try split at h5) <;> omega
/-- Is the first character a bad byte? -/
def bad (l : List UInt8) : Prop := dec l = (65533, 1)
instance decBad (l : List UInt8) : Decidable (bad l) := by unfold bad; infer_instance
theorem dec_good (l : List UInt8) (h : ¬ bad l) : (dec l).2 = lenOf (dec l).1 ∧ Utf8.valid ((dec l).1 : Int) = true := by
  rw [valid_iff]
  rcases dec_cases l with ⟨h1, e⟩ | ⟨h1, e⟩ | ⟨h1, e⟩ | ⟨h1, e⟩ | ⟨_, _, _, _, e⟩
  · rw [e]; exact ⟨by simp [lenOf, h1], by dsimp only; omega⟩
  · have := V2_range l h1; rw [e]; dsimp only; unfold lenOf; exact ⟨by rw [if_neg (by omega), if_pos (by omega)], by omega⟩
  · have := V3_range l h1; rw [e]; dsimp only; unfold lenOf; exact ⟨by rw [if_neg (by omega), if_neg (by omega), if_pos (by omega)], by omega⟩
  · have := V4_range l h1; rw [e]; dsimp only; unfold lenOf; exact ⟨by rw [if_neg (by omega), if_neg (by omega), if_neg (by omega)], by omega⟩
  · exact absurd e h
theorem dec_le (l : List UInt8) : (dec l).1 ≤ 1114111 := by
  have hb := bn_lt l 0
  rcases dec_cases l with ⟨h1, e⟩ | ⟨h1, e⟩ | ⟨h1, e⟩ | ⟨h1, e⟩ | ⟨_, _, _, _, e⟩ <;> rw [e] <;> dsimp only
  · omega
  · have := V2_range l h1; omega
  · have := V3_range l h1; omega
  · have := V4_range l h1; omega
  · omega
/-- The replacement character, written out, is the only good one of that point. -/
theorem dec_fffd (l : List UInt8) : (dec l = (65533, 3)) ↔ ([239, 191, 189] : List UInt8).isPrefixOf l = true := by
  have hp : ([239, 191, 189] : List UInt8).isPrefixOf l = true ↔ (2 < l.length ∧ bn l 0 = 239 ∧ bn l 1 = 191 ∧ bn l 2 = 189) := by
    rcases l with _ | ⟨a, _ | ⟨b, _ | ⟨c, l⟩⟩⟩
    · simp [List.isPrefixOf]
    · simp [List.isPrefixOf]
    · simp [List.isPrefixOf]
    · simp [List.isPrefixOf, bn, List.getD_eq_getElem?_getD, ← UInt8.toNat_inj]
      constructor
      · rintro ⟨h1, h2, h3⟩; exact ⟨by omega, by omega, by omega⟩
      · rintro ⟨h1, h2, h3⟩; exact ⟨by omega, by omega, by omega⟩
  rw [hp]
  constructor
  · intro h
    rcases dec_cases l with ⟨h1, e⟩ | ⟨h1, e⟩ | ⟨h1, e⟩ | ⟨h1, e⟩ | ⟨_, _, _, _, e⟩ <;> rw [e] at h <;> simp only [Prod.mk.injEq] at h
    · omega
    · omega
    · obtain ⟨x1, x2, x3, x4, x5, x6⟩ := h1
      have := x3.2; have := x6.2; have := x6.1
      unfold V3 at h; omega
    · omega
    · omega
  · rintro ⟨h1, h2, h3, h4⟩
    have g : G3 l := ⟨by omega, by omega, ⟨by omega, by omega, by omega⟩, by unfold lo2; rw [if_neg (by omega), if_neg (by omega)]; omega, by unfold hi2; rw [if_neg (by omega), if_neg (by omega)]; omega, ⟨h1, by omega, by omega⟩⟩
    rw [dec_3 l g]; unfold V3; rw [h2, h3, h4]
theorem bad_iff (l : List UInt8) : bad l ↔ ((dec l).1 = 65533 ∧ ¬ ([239, 191, 189] : List UInt8).isPrefixOf l = true) := by
  rw [← dec_fffd]
  constructor
  · intro h; rw [show dec l = (65533, 1) from h]; simp
  · rintro ⟨h1, h2⟩
    refine Classical.byContradiction fun hb => h2 ?_
    have := (dec_good l hb).1
    rw [h1] at this
    exact Prod.ext h1 this
/-- char.Next of what stands from a place on. -/
def nextL (l : List UInt8) : Nat × Nat × Bool := if l = [] then (0, 0, false) else if bad l then (65533, 1, false) else ((dec l).1, (dec l).2, true)
end Go.Proofs.YtgfloplakjmncaaDoor
namespace Go.Proofs.YtgfloplakjmncaaDoor
open Go Go.RowKit
instance decFull (l : List UInt8) : Decidable (full l) := by unfold full; infer_instance
theorem Cut.drop {x y : List UInt8} (h : Cut x y) (k : Nat) : Cut (x.drop k) y := fun j hj => by
  rw [List.drop_drop]; exact h _ (by simp at hj; omega)
theorem takeWhile_all {α : Type} (p : α → Bool) (l : List α) : l.takeWhile p = l ↔ ∀ c ∈ l, p c = true := by
  induction l with
  | nil => simp
  | cons a l ih =>
    by_cases h : p a = true
    · simp [List.takeWhile_cons, h, ih]
    · simp [List.takeWhile_cons, h]
def feeds (l : List UInt8) : Nat := l.count 10
/-- What stands behind the last line feed. -/
def lineTail (l : List UInt8) : List UInt8 := (l.reverse.takeWhile (fun c => c != 10)).reverse
theorem lineTail_none (l : List UInt8) (h : feeds l = 0) : lineTail l = l := by
  unfold lineTail
  rw [(takeWhile_all _ _).2, List.reverse_reverse]
  intro c hc
  have : c ∈ l := by simpa using hc
  unfold feeds at h
  rw [List.count_eq_zero] at h
  simp; rintro rfl; exact h this
theorem lineTail_append (x y : List UInt8) : lineTail (x ++ y) = if feeds y = 0 then lineTail x ++ y else lineTail y := by
  unfold lineTail
  rw [List.reverse_append, List.takeWhile_append]
  split
  · rename_i h
    split
    · simp
    · rename_i h2
      exfalso; apply h2
      have := (takeWhile_all _ _).1 (List.IsPrefix.eq_of_length (List.takeWhile_prefix _) h)
      unfold feeds; rw [List.count_eq_zero]
      intro hm
      have := this 10 (by simpa using hm)
      simp at this
  · rename_i h
    rw [if_neg]
    intro h2
    apply h
    rw [(takeWhile_all _ _).2]
    intro c hc
    unfold feeds at h2
    rw [List.count_eq_zero] at h2
    simp; rintro rfl; exact h2 (by simpa using hc)
theorem lineTail_suffix (l : List UInt8) : ∃ k, lineTail l = l.drop k := by
  have : lineTail l <:+ l := by
    unfold lineTail
    have := List.reverse_suffix.2 (List.takeWhile_prefix (fun c : UInt8 => c != 10) (l := l.reverse))
    simpa using this
  obtain ⟨t, ht⟩ := this
  exact ⟨t.length, by conv => rhs; rw [← ht]
                      simp⟩
/-- place.Advance. -/
structure Pl where
  at_ : Int
  line : Int
  col : Int
def adv (p : Pl) (l : List UInt8) : Pl :=
  ⟨wrap64 (p.at_ + l.length), wrap64 (p.line + feeds l), wrap64 ((if feeds l = 0 then p.col else 1) + (chs (lineTail l)).length)⟩
def okI (x : Int) : Prop := -9223372036854775808 ≤ x ∧ x ≤ 9223372036854775807
def Pl.ok (p : Pl) : Prop := okI p.at_ ∧ okI p.line ∧ okI p.col
theorem wrap_ok {x : Int} (h : okI x) : wrap64 x = x := by unfold okI at h; unfold wrap64; omega
theorem wrap_wrap (x y : Int) : wrap64 (wrap64 x + y) = wrap64 (x + y) := by unfold wrap64; omega
theorem wrap_ok_of (x : Int) : okI (wrap64 x) := by unfold okI wrap64; omega
theorem adv_ok (p : Pl) (l : List UInt8) : (adv p l).ok := ⟨wrap_ok_of _, wrap_ok_of _, wrap_ok_of _⟩
theorem adv_nil (p : Pl) (h : p.ok) : adv p [] = p := by
  obtain ⟨h1, h2, h3⟩ := h
  cases p
  simp [adv, feeds, lineTail, wrap_ok h1, wrap_ok h2, wrap_ok h3]
theorem feeds_append (x y : List UInt8) : feeds (x ++ y) = feeds x + feeds y := by simp [feeds]
theorem adv_adv (p : Pl) (x y : List UInt8) (h : Cut x y) : adv (adv p x) y = adv p (x ++ y) := by
  unfold adv
  simp only [Pl.mk.injEq]
  refine ⟨?_, ?_, ?_⟩
  · rw [wrap_wrap]; congr 1; simp; omega
  · rw [wrap_wrap, feeds_append]; congr 1; simp; omega
  · rw [lineTail_append, feeds_append]
    by_cases hy : feeds y = 0
    · rw [if_pos hy, if_pos hy, lineTail_none y hy, wrap_wrap]
      obtain ⟨k, hk⟩ := lineTail_suffix x
      rw [chs_append _ _ (by rw [hk]; exact h.drop k)]
      congr 1
      simp [hy]; omega
    · rw [if_neg hy, if_neg hy, if_neg (by omega)]
end Go.Proofs.YtgfloplakjmncaaDoor
namespace Go.Proofs.YtgfloplakjmncaaDoor
open Go
/-- Whatever follows: no character goes on. -/
def Fin (x : List UInt8) : Prop := ∀ y, Cut x y
theorem bn_drop (l : List UInt8) (k j : Nat) : bn (l.drop k) j = bn l (k + j) := by
  unfold bn; simp [List.getD_eq_getElem?_getD, List.getElem?_drop]
theorem bn_right (u g : List UInt8) (j : Nat) : bn (u ++ g) (u.length + j) = bn g j := by
  unfold bn; rw [List.getD_eq_getElem?_getD, List.getD_eq_getElem?_getD, List.getElem?_append_right (Nat.le_add_right _ _), Nat.add_sub_cancel_left]
theorem lo2_ge (b : Nat) : 128 ≤ lo2 b := by unfold lo2; split <;> (try split) <;> omega
theorem hi2_le (b : Nat) : hi2 b ≤ 191 := by unfold hi2; split <;> (try split) <;> omega
theorem long_low {b : Nat} (h : b < 194) : long b = 1 := by unfold long; rw [if_pos h]
theorem long_le {b n : Nat} (h : b < 194) (hn : 1 ≤ n) : long b ≤ n := by rw [long_low h]; exact hn
theorem fin_nil : Fin [] := fun y k hk => absurd hk (Nat.not_lt_zero _)
theorem fin_ascii (x : List UInt8) (h0 : 0 < x.length) (h : bn x (x.length - 1) < 128) : Fin x := by
  intro y
  refine cut_of_full x y ?_
  intro n h1 h3 hn
  have hl : (x.drop (x.length - n)).length = n := by simp; omega
  have hlast : bn (x.drop (x.length - n)) (n - 1) < 128 := by rw [bn_drop, show x.length - n + (n - 1) = x.length - 1 by omega]; exact h
  unfold full
  rw [hl]
  rcases (show n = 1 ∨ n = 2 ∨ n = 3 by omega) with rfl | rfl | rfl
  · left; simp at hlast; exact long_le (by omega) (by omega)
  · right; left; have := lo2_ge (bn (x.drop (x.length - 2)) 0); exact ⟨by omega, .inl (by simp at hlast; omega)⟩
  · right; right; exact ⟨by omega, .inl hlast⟩
theorem fin_good (u g : List UInt8) (hb : ¬ bad g) (hg : g ≠ []) (hw : (dec g).2 = g.length) : Fin (u ++ g) := by
  intro y
  refine cut_of_full _ y ?_
  intro n h1 h3 hn
  have hl : ((u ++ g).drop ((u ++ g).length - n)).length = n := by simp at hn ⊢; omega
  have hx : ∀ j, u.length ≤ (u ++ g).length - n + j → bn ((u ++ g).drop ((u ++ g).length - n)) j = bn g ((u ++ g).length - n + j - u.length) := by
    intro j hj
    rw [bn_drop]
    exact (congrArg (bn (u ++ g)) (show (u ++ g).length - n + j = u.length + ((u ++ g).length - n + j - u.length) by omega)).trans (bn_right _ _ _)
  unfold full
  rw [hl]
  generalize (u ++ g).drop ((u ++ g).length - n) = l at *
  simp only [List.length_append] at hx hn
  have l2 := hi2_le (bn l 0)
  rcases dec_cases g with ⟨c1, e⟩ | ⟨c1, e⟩ | ⟨c1, e⟩ | ⟨c1, e⟩ | ⟨_, _, _, _, e⟩
  · rw [e] at hw
    dsimp only at hw
    have hy := hx (n - 1) (by omega)
    rw [show u.length + g.length - n + (n - 1) - u.length = 0 by omega] at hy
    rcases (show n = 1 ∨ n = 2 ∨ n = 3 by omega) with rfl | rfl | rfl
    · left; simp at hy; exact long_le (by omega) (by omega)
    · right; left; have := lo2_ge (bn l 0); exact ⟨by omega, .inl (by simp at hy; omega)⟩
    · right; right; exact ⟨by omega, .inl (by simp at hy; omega)⟩
  · rw [e] at hw
    dsimp only at hw
    obtain ⟨a1, a2, a3⟩ := c1
    have a4 := a3.2
    rcases (show n = 1 ∨ n = 2 ∨ n = 3 by omega) with rfl | rfl | rfl
    · have hy := hx 0 (by omega)
      rw [show u.length + g.length - 1 + 0 - u.length = 1 by omega] at hy
      left; exact long_le (by omega) (by omega)
    · have hy := hx 0 (by omega)
      rw [show u.length + g.length - 2 + 0 - u.length = 0 by omega] at hy
      left; rw [hy]; unfold long; rw [if_neg (by omega), if_pos (by omega)]; exact Nat.le_refl _
    · have hy := hx 1 (by omega)
      rw [show u.length + g.length - 3 + 1 - u.length = 0 by omega] at hy
      right; left; exact ⟨by omega, .inr (by omega)⟩
  · rw [e] at hw
    dsimp only at hw
    obtain ⟨a1, a2, a3, _, _, a6⟩ := c1
    have a4 := a3.2
    have a7 := a6.2
    rcases (show n = 1 ∨ n = 2 ∨ n = 3 by omega) with rfl | rfl | rfl
    · have hy := hx 0 (by omega)
      rw [show u.length + g.length - 1 + 0 - u.length = 2 by omega] at hy
      left; exact long_le (by omega) (by omega)
    · have hy := hx 0 (by omega)
      rw [show u.length + g.length - 2 + 0 - u.length = 1 by omega] at hy
      left; exact long_le (by omega) (by omega)
    · have hy := hx 0 (by omega)
      rw [show u.length + g.length - 3 + 0 - u.length = 0 by omega] at hy
      left; rw [hy]; unfold long; rw [if_neg (by omega), if_neg (by omega), if_pos (by omega)]; exact Nat.le_refl _
  · rw [e] at hw
    dsimp only at hw
    obtain ⟨a1, a2, a3, _, _, a6, a8⟩ := c1
    have a4 := a3.2
    have a7 := a6.2
    have a9 := a8.2
    left
    have hy := hx 0 (by omega)
    rcases (show n = 1 ∨ n = 2 ∨ n = 3 by omega) with rfl | rfl | rfl
    · rw [show u.length + g.length - 1 + 0 - u.length = 3 by omega] at hy
      exact long_le (by omega) (by omega)
    · rw [show u.length + g.length - 2 + 0 - u.length = 2 by omega] at hy
      exact long_le (by omega) (by omega)
    · rw [show u.length + g.length - 3 + 0 - u.length = 1 by omega] at hy
      exact long_le (by omega) (by omega)
  · exact absurd e hb
/-- A character is known from its own bytes. -/
theorem dec_take (l : List UInt8) (n : Nat) (hl : l ≠ []) (h : (dec l).2 ≤ n) : dec (l.take n) = dec l := by
  have hw := dec_width l hl
  have hlen : 0 < l.length := List.length_pos_iff.2 hl
  have hne : l.take n ≠ [] := by intro h2; have := congrArg List.length h2; rw [List.length_take] at this; simp only [List.length_nil] at this; omega
  by_cases hf : full (l.take n)
  · have := dec_full (l.take n) (l.drop n) hne hf
    rw [List.take_append_drop] at this
    exact this.symm
  · have hb : ∀ j, j < n → bn (l.take n) j = bn l j := by
      intro j hj; unfold bn; simp [List.getD_eq_getElem?_getD, List.getElem?_take, hj]
    have b0 := hb 0 (by omega)
    have hlo : ¬ long (bn l 0) ≤ (l.take n).length := by rw [← b0]; intro h2; exact hf (.inl h2)
    simp only [List.length_take] at hlo
    have hlong : long (bn l 0) = 2 ∨ long (bn l 0) = 3 ∨ long (bn l 0) = 4 := by
      have h5 : ¬ long (bn l 0) = 1 := by intro h2; rw [h2] at hlo; omega
      by_cases c1 : bn l 0 < 194
      · exact absurd (long_low c1) h5
      · by_cases c2 : bn l 0 < 224
        · left; unfold long; rw [if_neg c1, if_pos c2]
        · by_cases c3 : bn l 0 < 240
          · right; left; unfold long; rw [if_neg c1, if_neg c2, if_pos c3]
          · by_cases c4 : bn l 0 < 245
            · right; right; unfold long; rw [if_neg c1, if_neg c2, if_neg c3, if_pos c4]
            · exact absurd (by unfold long; rw [if_neg c1, if_neg c2, if_neg c3, if_neg c4]) h5
    have hbad : dec l = (65533, 1) := by
      rcases dec_cases l with ⟨c1, e⟩ | ⟨c1, e⟩ | ⟨c1, e⟩ | ⟨c1, e⟩ | ⟨_, _, _, _, e⟩
      · rw [long_low (by omega)] at hlo; omega
      · rw [e] at h hw; dsimp only at h hw
        have : long (bn l 0) = 2 := by unfold long; rw [if_neg (by have := c1.1; omega), if_pos (by have := c1.2.1; omega)]
        omega
      · rw [e] at h hw; dsimp only at h hw
        have : long (bn l 0) = 3 := by unfold long; rw [if_neg (by have := c1.1; omega), if_neg (by have := c1.1; omega), if_pos (by have := c1.2.1; omega)]
        omega
      · rw [e] at h hw; dsimp only at h hw
        have : long (bn l 0) = 4 := by unfold long; rw [if_neg (by have := c1.1; omega), if_neg (by have := c1.1; omega), if_neg (by have := c1.1; omega), if_pos (by have := c1.2.1; omega)]
        omega
      · exact e
    rw [hbad]
    have b0 := hb 0 (by omega)
    have hk : ∀ k, isc (l.take n) k → isc l k := by
      intro k hk
      have h6 := hk.1
      simp only [List.length_take] at h6
      have h7 := hk.2
      rw [hb k (by omega)] at h7
      exact ⟨by omega, h7⟩
    rcases dec_cases (l.take n) with ⟨c1, e⟩ | ⟨c1, e⟩ | ⟨c1, e⟩ | ⟨c1, e⟩ | ⟨_, _, _, _, e⟩
    · rw [b0] at c1; rw [long_low (by omega)] at hlo; omega
    · have h2 := c1.2.2.1; simp only [List.length_take] at h2
      have : long (bn l 0) = 2 := by rw [← b0]; unfold long; rw [if_neg (by have := c1.1; omega), if_pos (by have := c1.2.1; omega)]
      omega
    · have h2 := c1.2.2.2.2.2.1; simp only [List.length_take] at h2
      have : long (bn l 0) = 3 := by rw [← b0]; unfold long; rw [if_neg (by have := c1.1; omega), if_neg (by have := c1.1; omega), if_pos (by have := c1.2.1; omega)]
      omega
    · have h2 := c1.2.2.2.2.2.2.1; simp only [List.length_take] at h2
      have : long (bn l 0) = 4 := by rw [← b0]; unfold long; rw [if_neg (by have := c1.1; omega), if_neg (by have := c1.1; omega), if_neg (by have := c1.1; omega), if_pos (by have := c1.2.1; omega)]
      omega
    · exact e
end Go.Proofs.YtgfloplakjmncaaDoor
