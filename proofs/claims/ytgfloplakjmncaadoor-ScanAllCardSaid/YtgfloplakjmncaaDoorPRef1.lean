/- The printed references of package char and place: what they come to. By an AI agent; no person has read it. -/
import Derived.Test.YtgfloplakjmncaaDoorJoinLaw
import Derived.Test.YtgfloplakjmncaaDoorPScanx5
set_option linter.unusedSimpArgs false
set_option linter.unusedVariables false
namespace Go.Proofs.YtgfloplakjmncaaDoor.PScan
open Go Go.RowKit Go.Proofs.YtgfloplakjmncaaDoor Go.Proofs.YtgfloplakjmncaaDoorW.PrintWords Go.Proofs.YtgfloplakjmncaaDoorW.PrintLast
theorem wr_n (n : Nat) (h : n < 9223372036854775808) : wrap64 (n : Int) = n := by unfold wrap64; omega
theorem wr_s (a : Nat) (h : a < 9223372036854775807) : wrap64 ((a : Int) + 1) = ((a + 1 : Nat) : Int) := by unfold wrap64; omega
theorem wr_a (a b : Nat) (h : a + b < 9223372036854775808) : wrap64 ((a : Int) + (b : Int)) = ((a + b : Nat) : Int) := by unfold wrap64; omega
theorem bt_bn (s : ByteArray) (i j : Nat) (h : i + j < s.size) : bt s ((i + j : Nat) : Int) = (bn (s.data.toList.drop i) j : Int) := by
  unfold bt bn
  rw [Int.toNat_natCast, dif_pos h, List.getD_eq_getElem?_getD, List.getElem?_drop, List.getElem?_eq_getElem (by rw [size_list]; exact h)]
  rfl
theorem bt_bn0 (s : ByteArray) (i : Nat) (h : i < s.size) : bt s (i : Int) = (bn (s.data.toList.drop i) 0 : Int) := bt_bn s i 0 h
theorem second_f (a b : Nat) : colophonref01_second.f (a : Int) (b : Int) = some (decide (lo2 a ≤ b ∧ b ≤ hi2 a)) := by
  unfold colophonref01_second.f lo2 hi2
  (repeat' split) <;> first | (exfalso; omega) | (congr 1; rw [Bool.eq_iff_iff]; simp only [decide_eq_true_eq]; omega) | (congr 1; symm; rw [decide_eq_false_iff_not]; omega)
/-- How many bytes a character has that begins so; 0: none does. -/
def longI (b : Nat) : Int := if b ≤ 127 then 1 else if 194 ≤ b ∧ b ≤ 223 then 2 else if 224 ≤ b ∧ b ≤ 239 then 3 else if 240 ≤ b ∧ b ≤ 244 then 4 else 0
theorem long_f (b : Nat) : Ev (fun k => colophonref01_Long.f k (b : Int)) (longI b) := by
  refine ⟨2, fun k hk => ?_⟩
  obtain ⟨k, rfl⟩ : ∃ m, k = m + 2 := ⟨k - 2, by omega⟩
  unfold longI
  simp only [colophonref01_Long.f, colophonref01_Long.j0, colophonref01_Long.j1, decide_eq_true_eq, Bool.false_eq_true, if_false]
  (repeat' split) <;> first | rfl | (exfalso; omega)
/-- Are the bytes behind the first one as a character's are? -/
def fitD (l : List UInt8) : Nat → Nat → Bool
  | 0, _ => true
  | d + 1, i => if bn l i < 128 then false else if bn l i > 191 then false else if i = 1 then (if lo2 (bn l 0) ≤ bn l 1 ∧ bn l 1 ≤ hi2 (bn l 0) then fitD l d (i + 1) else false) else fitD l d (i + 1)
theorem fitD_step (l : List UInt8) (d i : Nat) : fitD l (d + 1) i = true ↔ (128 ≤ bn l i ∧ bn l i ≤ 191 ∧ (i = 1 → lo2 (bn l 0) ≤ bn l 1 ∧ bn l 1 ≤ hi2 (bn l 0))) ∧ fitD l d (i + 1) = true := by
  rw [fitD]
  by_cases c1 : bn l i < 128
  · rw [if_pos c1]; constructor
    · intro h; cases h
    · rintro ⟨⟨h, _⟩, _⟩; omega
  · rw [if_neg c1]
    by_cases c2 : bn l i > 191
    · rw [if_pos c2]; constructor
      · intro h; cases h
      · rintro ⟨⟨_, h, _⟩, _⟩; omega
    · rw [if_neg c2]
      by_cases c3 : i = 1
      · rw [if_pos c3]
        by_cases c4 : lo2 (bn l 0) ≤ bn l 1 ∧ bn l 1 ≤ hi2 (bn l 0)
        · rw [if_pos c4]; exact ⟨fun h => ⟨⟨by omega, by omega, fun _ => c4⟩, h⟩, fun h => h.2⟩
        · rw [if_neg c4]; constructor
          · intro h; cases h
          · rintro ⟨⟨_, _, h⟩, _⟩; exact absurd (h c3) c4
      · rw [if_neg c3]; exact ⟨fun h => ⟨⟨by omega, by omega, fun h => absurd h c3⟩, h⟩, fun h => h.2⟩
theorem fitD_2 (l : List UInt8) (hl : 2 ≤ l.length) (h1 : 194 ≤ bn l 0) (h2 : bn l 0 ≤ 223) : fitD l 1 1 = true ↔ G2 l := by
  have e1 : lo2 (bn l 0) = 128 := by unfold lo2; rw [if_neg (by omega), if_neg (by omega)]
  have e2 : hi2 (bn l 0) = 191 := by unfold hi2; rw [if_neg (by omega), if_neg (by omega)]
  rw [fitD_step, e1, e2]
  simp only [fitD, G2, isc, and_true]
  constructor
  · rintro ⟨a, b, c⟩; exact ⟨h1, h2, by omega, a, b⟩
  · rintro ⟨_, _, _, a, b⟩; exact ⟨a, b, fun _ => ⟨a, b⟩⟩
theorem fitD_3 (l : List UInt8) (hl : 3 ≤ l.length) (h1 : 224 ≤ bn l 0) (h2 : bn l 0 ≤ 239) : fitD l 2 1 = true ↔ G3 l := by
  rw [fitD_step, fitD_step]
  simp only [fitD, G3, isc, and_true]
  constructor
  · rintro ⟨⟨a, b, c⟩, d, e, _⟩; exact ⟨h1, h2, ⟨by omega, a, b⟩, (c trivial).1, (c trivial).2, by omega, d, e⟩
  · rintro ⟨_, _, ⟨_, a, b⟩, c, d, _, e, f⟩; exact ⟨⟨a, b, fun _ => ⟨c, d⟩⟩, e, f, fun h => by omega⟩
theorem fitD_4 (l : List UInt8) (hl : 4 ≤ l.length) (h1 : 240 ≤ bn l 0) (h2 : bn l 0 ≤ 244) : fitD l 3 1 = true ↔ G4 l := by
  rw [fitD_step, fitD_step, fitD_step]
  simp only [fitD, G4, isc, and_true]
  constructor
  · rintro ⟨⟨a, b, c⟩, ⟨d, e, _⟩, f, g, _⟩; exact ⟨h1, h2, ⟨by omega, a, b⟩, (c trivial).1, (c trivial).2, ⟨by omega, d, e⟩, by omega, f, g⟩
  · rintro ⟨_, _, ⟨_, a, b⟩, c, d, ⟨_, e, f⟩, _, g, h⟩; exact ⟨⟨a, b, fun _ => ⟨c, d⟩⟩, ⟨e, f, fun h => by omega⟩, g, h, fun h => by omega⟩
theorem fits_l0 (s : ByteArray) (hs : s.size < 4611686018427387904) (p n : Nat) (hn : p + n ≤ s.size) (hn4 : n ≤ 4) : ∀ (d i : Nat), i + d = n → Ev (fun k => colophonref01_fits.l0 k s (p : Int) (n : Int) (bn (s.data.toList.drop p) 0 : Int) (i : Int)) (fitD (s.data.toList.drop p) d i)
  | 0, i, h => by
    refine Ev.step (f := fun k => colophonref01_fits.j1 k s (p : Int) (n : Int) (bn (s.data.toList.drop p) 0 : Int) (i : Int) false) (fun k => ?_) (Ev.step (f := fun k => some true) (fun k => ?_) (Ev.now true))
    · simp only [colophonref01_fits.l0]; rw [if_neg (by omega)]
    · simp only [colophonref01_fits.j1]; rw [if_neg (by decide)]
  | d + 1, i, h => by
    have ih := fits_l0 s hs p n hn hn4 d (i + 1) (by omega)
    have hw := wr_a p i (by omega)
    have hw1 := wr_s i (by omega)
    have hb := bt_bn s p i (by omega)
    have hbl := bn_lt (s.data.toList.drop p) i
    have hwb := wr_n (bn (s.data.toList.drop p) i) (by omega)
    refine Ev.step (f := fun k => colophonref01_fits.j1 k s (p : Int) (n : Int) (bn (s.data.toList.drop p) 0 : Int) (i : Int) true) (fun k => ?_) ?_
    · simp only [colophonref01_fits.l0]; rw [if_pos (by omega), hw, decide_eq_true (by omega)]
    · rw [fitD]
      by_cases c1 : bn (s.data.toList.drop p) i < 128
      · rw [if_pos c1]
        refine Ev.step (f := fun k => some false) (fun k => ?_) (Ev.now false)
        simp only [colophonref01_fits.j1, if_true, hw, hb, hwb]
        rw [if_pos (by omega), if_pos (by omega), if_pos (by omega)]
      · rw [if_neg c1]
        by_cases c2 : bn (s.data.toList.drop p) i > 191
        · rw [if_pos c2]
          refine Ev.step (f := fun k => some false) (fun k => ?_) (Ev.now false)
          simp only [colophonref01_fits.j1, if_true, hw, hb, hwb]
          rw [if_pos (by omega), if_pos (by omega), if_neg (by omega), if_pos (by omega)]
        · rw [if_neg c2]
          by_cases c3 : i = 1
          · rw [if_pos c3]
            subst c3
            by_cases c4 : lo2 (bn (s.data.toList.drop p) 0) ≤ bn (s.data.toList.drop p) 1 ∧ bn (s.data.toList.drop p) 1 ≤ hi2 (bn (s.data.toList.drop p) 0)
            · rw [if_pos c4]
              refine Ev.step (f := fun k => colophonref01_fits.l0 k s (p : Int) (n : Int) (bn (s.data.toList.drop p) 0 : Int) ((1 + 1 : Nat) : Int)) (fun k => ?_) ih
              simp only [colophonref01_fits.j1, if_true, hw, hb, hwb]
              rw [if_pos (by omega), if_pos (by omega), if_neg (by omega), if_neg (by omega), if_pos (by omega), second_f, decide_eq_true c4]
              simp only [Option.bind_some, if_true, hw1]
            · rw [if_neg c4]
              refine Ev.step (f := fun k => some false) (fun k => ?_) (Ev.now false)
              simp only [colophonref01_fits.j1, if_true, hw, hb, hwb]
              rw [if_pos (by omega), if_pos (by omega), if_neg (by omega), if_neg (by omega), if_pos (by omega), second_f, decide_eq_false c4]
              simp only [Option.bind_some, Bool.false_eq_true, if_false]
          · rw [if_neg c3]
            refine Ev.step (f := fun k => colophonref01_fits.l0 k s (p : Int) (n : Int) (bn (s.data.toList.drop p) 0 : Int) ((i + 1 : Nat) : Int)) (fun k => ?_) ih
            simp only [colophonref01_fits.j1, if_true, hw, hb, hwb, hw1]
            rw [if_pos (by omega), if_pos (by omega), if_neg (by omega), if_neg (by omega), if_neg (by omega)]
theorem fits_f (s : ByteArray) (hs : s.size < 4611686018427387904) (p n : Nat) (hn : p + n ≤ s.size) (hn1 : 1 ≤ n) (hn4 : n ≤ 4) : Ev (fun k => colophonref01_fits.f k s (p : Int) (n : Int)) (fitD (s.data.toList.drop p) (n - 1) 1) := by
  have h := fits_l0 s hs p n hn hn4 (n - 1) 1 (by omega)
  refine Ev.congr (fun k => ?_) h
  unfold colophonref01_fits.f
  rw [if_pos (by omega), if_pos (by omega), bt_bn0 s p (by omega), wr_n _ (by have := bn_lt (s.data.toList.drop p) 0; omega)]
  rfl
theorem val_step (s : ByteArray) (hs : s.size < 4611686018427387904) (p n i acc : Nat) (hn : p + n ≤ s.size) (hi : i < n) (ha : acc ≤ 8388607) (k : Nat) :
    colophonref01_Next.l0 (k + 1) s (p : Int) (n : Int) (acc : Int) (i : Int) = colophonref01_Next.l0 k s (p : Int) (n : Int) ((64 * acc + bn (s.data.toList.drop p) i % 64 : Nat) : Int) ((i + 1 : Nat) : Int) := by
  have hw := wr_a p i (by omega)
  have hw1 := wr_s i (by omega)
  have hb := bt_bn s p i (by omega)
  have hbl := bn_lt (s.data.toList.drop p) i
  have hwb := wr_n (bn (s.data.toList.drop p) i) (by omega)
  simp only [colophonref01_Next.l0, hw, hb, hwb, hw1]
  rw [if_pos (by omega), if_pos (by omega), if_pos (by omega)]
  have e1 : wrap64 (64 * (acc : Int)) = ((64 * acc : Nat) : Int) := by unfold wrap64; omega
  have e2 : Int.tmod (bn (s.data.toList.drop p) i : Int) 64 = ((bn (s.data.toList.drop p) i % 64 : Nat) : Int) := by rw [Int.tmod_eq_emod_of_nonneg (by omega)]; omega
  rw [e1, e2, wr_a _ _ (by omega)]
theorem val_stop (s : ByteArray) (p n acc : Nat) (k : Nat) : colophonref01_Next.l0 (k + 1) s (p : Int) (n : Int) (acc : Int) (n : Int) = some ((acc : Int), (n : Int), true) := by
  simp only [colophonref01_Next.l0]; rw [if_neg (by omega)]
/-- What a character's bytes come to, as nextL tells it. -/
theorem nextL_of {l : List UInt8} {v n : Nat} (h : dec l = (v, n)) (hl : l ≠ []) (hb : ¬ (v = 65533 ∧ n = 1)) : nextL l = (v, n, true) := by
  unfold nextL
  rw [if_neg hl, if_neg (by unfold bad; rw [h]; simpa using hb), h]
theorem nextL_bad {l : List UInt8} (hl : l ≠ []) (h : dec l = (65533, 1)) : nextL l = (65533, 1, false) := by
  unfold nextL
  rw [if_neg hl, if_pos (show bad l from h)]
def nextV (l : List UInt8) : Int × Int × Bool := ((nextL l).1, (nextL l).2.1, (nextL l).2.2)
theorem next_j1_bad (s : ByteArray) (p : Int) (b n : Int) : Ev (fun k => colophonref01_Next.j1 k s p b n true) (65533, 1, false) := by
  refine Ev.step (f := fun k => some (65533, 1, false)) (fun k => ?_) (Ev.now _)
  simp only [colophonref01_Next.j1, if_true]
theorem next_multi (s : ByteArray) (hs : s.size < 4611686018427387904) (p n : Nat) (hp : p < s.size) (h2 : 2 ≤ n) (h4 : n ≤ 4) (hl : longI (bn (s.data.toList.drop p) 0) = n) (V : Nat) (G : Prop)
    (hbad : ¬ G → dec (s.data.toList.drop p) = (65533, 1)) (hgood : G → dec (s.data.toList.drop p) = (V, n)) (hlen : G → p + n ≤ s.size) (hG : p + n ≤ s.size → (fitD (s.data.toList.drop p) (n - 1) 1 = true ↔ G))
    (hV : G → Ev (fun k => colophonref01_Next.j1 k s (p : Int) (bn (s.data.toList.drop p) 0 : Int) (n : Int) false) ((V : Int), (n : Int), true)) :
    Ev (fun k => colophonref01_Next.f k s (p : Int)) (nextV (s.data.toList.drop p)) := by
  have hne : s.data.toList.drop p ≠ [] := by intro h; have := congrArg List.length h; simp at this; omega
  have hbl := bn_lt (s.data.toList.drop p) 0
  have hwb := wr_n (bn (s.data.toList.drop p) 0) (by omega)
  have hlong := long_f (bn (s.data.toList.drop p) 0)
  rw [hl] at hlong
  have hw : wrap64 ((p : Int) + (n : Int)) = ((p + n : Nat) : Int) := wr_a p n (by omega)
  refine Ev.congr (f := fun k => colophonref01_Next.j0 k s (p : Int) false) (fun k => by unfold colophonref01_Next.f; rw [if_neg (by omega), decide_eq_false (by omega)]) ?_
  refine Ev.step (f := fun k => (colophonref01_Long.f k (bn (s.data.toList.drop p) 0 : Int)).bind fun t124 => (if t124 = 0 then (colophonref01_Next.j1 k s (p : Int) (bn (s.data.toList.drop p) 0 : Int) t124 true) else (if (wrap64 ((p : Int) + t124)) > (s.size : Int) then (colophonref01_Next.j1 k s (p : Int) (bn (s.data.toList.drop p) 0 : Int) t124 true) else ((colophonref01_fits.f k s (p : Int) t124).bind fun t125 => (colophonref01_Next.j1 k s (p : Int) (bn (s.data.toList.drop p) 0 : Int) t124 (!t125)))))) (fun k => ?_) (Ev.bind hlong ?_)
  · simp only [colophonref01_Next.j0, Bool.false_eq_true, if_false]
    rw [if_pos (by omega), if_pos (by omega), bt_bn0 s p hp, hwb]
  · have hn0 : ¬ ((n : Int) = 0) := by omega
    simp only [if_neg hn0, hw]
    by_cases hfit : p + n ≤ s.size
    · have c1 : ¬ (((p + n : Nat) : Int) > (s.size : Int)) := by omega
      simp only [if_neg c1]
      have hf := fits_f s hs p n hfit (by omega) h4
      refine Ev.bind hf ?_
      by_cases hg : G
      · rw [(hG hfit).2 hg]
        have : nextV (s.data.toList.drop p) = ((V : Int), (n : Int), true) := by unfold nextV; rw [nextL_of (hgood hg) hne (by omega)]
        rw [this]; exact hV hg
      · have hff : fitD (s.data.toList.drop p) (n - 1) 1 = false := by
          cases h : fitD (s.data.toList.drop p) (n - 1) 1 with
          | false => rfl
          | true => exact absurd ((hG hfit).1 h) hg
        rw [hff]
        have : nextV (s.data.toList.drop p) = (65533, 1, false) := by unfold nextV; rw [nextL_bad hne (hbad hg)]; rfl
        rw [this]; exact next_j1_bad _ _ _ _
    · have c1 : (((p + n : Nat) : Int) > (s.size : Int)) := by omega
      simp only [if_pos c1]
      have hg : ¬ G := fun h => hfit (hlen h)
      have : nextV (s.data.toList.drop p) = (65533, 1, false) := by unfold nextV; rw [nextL_bad hne (hbad hg)]; rfl
      rw [this]; exact next_j1_bad _ _ _ _
theorem next_j1_val (s : ByteArray) (p b n : Nat) (hb : b < 256) (h2 : 2 ≤ n) (h4 : n ≤ 4) (r : Int × Int × Bool) (h : Ev (fun k => colophonref01_Next.l0 k s (p : Int) (n : Int) ((if n = 2 then b % 32 else if n = 3 then b % 16 else b % 8 : Nat) : Int) ((1 : Nat) : Int)) r) :
    Ev (fun k => colophonref01_Next.j1 k s (p : Int) (b : Int) (n : Int) false) r := by
  have t32 : Int.tmod (b : Int) 32 = ((b % 32 : Nat) : Int) := by rw [Int.tmod_eq_emod_of_nonneg (by omega)]; omega
  have t16 : Int.tmod (b : Int) 16 = ((b % 16 : Nat) : Int) := by rw [Int.tmod_eq_emod_of_nonneg (by omega)]; omega
  have t8 : Int.tmod (b : Int) 8 = ((b % 8 : Nat) : Int) := by rw [Int.tmod_eq_emod_of_nonneg (by omega)]; omega
  have key : ∀ acc : Nat, acc = (if n = 2 then b % 32 else if n = 3 then b % 16 else b % 8) → Ev (fun k => colophonref01_Next.j3 k s (p : Int) (n : Int) (acc : Int)) r := fun acc ha => by
    subst ha
    refine Ev.step (fun k => ?_) h
    simp only [colophonref01_Next.j3]; rfl
  rcases (by omega : n = 2 ∨ n = 3 ∨ n = 4) with rfl | rfl | rfl
  · refine Ev.step (f := fun k => colophonref01_Next.j2 k s (p : Int) (b : Int) ((2 : Nat) : Int) ((b % 32 : Nat) : Int)) (fun k => ?_) (Ev.step (fun k => ?_) (key (b % 32) rfl))
    · simp only [colophonref01_Next.j1, Bool.false_eq_true, if_false, t32]; rw [if_neg (by omega), if_neg (by omega)]
    · simp only [colophonref01_Next.j2]; rw [if_neg (by omega)]
  · refine Ev.step (f := fun k => colophonref01_Next.j2 k s (p : Int) (b : Int) ((3 : Nat) : Int) ((b % 16 : Nat) : Int)) (fun k => ?_) (Ev.step (fun k => ?_) (key (b % 16) rfl))
    · simp only [colophonref01_Next.j1, Bool.false_eq_true, if_false, t16]; rw [if_neg (by omega), if_pos (by omega)]
    · simp only [colophonref01_Next.j2]; rw [if_neg (by omega)]
  · refine Ev.step (f := fun k => colophonref01_Next.j2 k s (p : Int) (b : Int) ((4 : Nat) : Int) ((b % 32 : Nat) : Int)) (fun k => ?_) (Ev.step (fun k => ?_) (key (b % 8) rfl))
    · simp only [colophonref01_Next.j1, Bool.false_eq_true, if_false, t32]; rw [if_neg (by omega), if_neg (by omega)]
    · simp only [colophonref01_Next.j2, t8]; rw [if_pos (by omega)]
theorem next_f (s : ByteArray) (hs : s.size < 4611686018427387904) (p : Nat) (hp : p ≤ s.size) : Ev (fun k => colophonref01_Next.f k s (p : Int)) (nextV (s.data.toList.drop p)) := by
  by_cases hend : p = s.size
  · have hl : s.data.toList.drop p = [] := List.drop_eq_nil_of_le (by rw [size_list]; omega)
    rw [hl]
    refine Ev.congr (f := fun k => colophonref01_Next.j0 k s (p : Int) true) (fun k => by unfold colophonref01_Next.f; rw [if_neg (by omega), decide_eq_true (by omega)]) ?_
    refine Ev.step (f := fun k => some (0, 0, false)) (fun k => ?_) (Ev.now _)
    simp only [colophonref01_Next.j0, if_true]
  · have hlt : p < s.size := by omega
    have hne : s.data.toList.drop p ≠ [] := by intro h; have := congrArg List.length h; simp at this; omega
    have hll : (s.data.toList.drop p).length = s.size - p := by simp
    have hbl := bn_lt (s.data.toList.drop p) 0
    have hb1 := bn_lt (s.data.toList.drop p) 1
    have hb2 := bn_lt (s.data.toList.drop p) 2
    have hb3 := bn_lt (s.data.toList.drop p) 3
    by_cases c1 : bn (s.data.toList.drop p) 0 ≤ 127
    · have hlong := long_f (bn (s.data.toList.drop p) 0)
      rw [show longI (bn (s.data.toList.drop p) 0) = 1 by unfold longI; rw [if_pos c1]] at hlong
      have hwb := wr_n (bn (s.data.toList.drop p) 0) (by omega)
      have hw : wrap64 ((p : Int) + 1) = ((p + 1 : Nat) : Int) := wr_s p (by omega)
      have hnv : nextV (s.data.toList.drop p) = ((bn (s.data.toList.drop p) 0 : Int), 1, true) := by unfold nextV; rw [nextL_of (dec_1 _ (by omega)) hne (by omega)]; rfl
      rw [hnv]
      refine Ev.congr (f := fun k => colophonref01_Next.j0 k s (p : Int) false) (fun k => by unfold colophonref01_Next.f; rw [if_neg (by omega), decide_eq_false (by omega)]) ?_
      refine Ev.step (f := fun k => (colophonref01_Long.f k (bn (s.data.toList.drop p) 0 : Int)).bind fun t124 => (if t124 = 0 then (colophonref01_Next.j1 k s (p : Int) (bn (s.data.toList.drop p) 0 : Int) t124 true) else (if (wrap64 ((p : Int) + t124)) > (s.size : Int) then (colophonref01_Next.j1 k s (p : Int) (bn (s.data.toList.drop p) 0 : Int) t124 true) else ((colophonref01_fits.f k s (p : Int) t124).bind fun t125 => (colophonref01_Next.j1 k s (p : Int) (bn (s.data.toList.drop p) 0 : Int) t124 (!t125)))))) (fun k => ?_) (Ev.bind hlong ?_)
      · simp only [colophonref01_Next.j0, Bool.false_eq_true, if_false]
        rw [if_pos (by omega), if_pos (by omega), bt_bn0 s p hlt, hwb]
      · have d1 : ¬ ((1 : Int) = 0) := by omega
        have d2 : ¬ (((p + 1 : Nat) : Int) > (s.size : Int)) := by omega
        simp only [if_neg d1, hw, if_neg d2]
        have hf := fits_f s hs p 1 (by omega) (by omega) (by omega)
        refine Ev.bind hf ?_
        refine Ev.step (f := fun k => some _) (fun k => ?_) (Ev.now _)
        simp only [colophonref01_Next.j1, fitD]; rfl
    · by_cases c2 : 194 ≤ bn (s.data.toList.drop p) 0 ∧ bn (s.data.toList.drop p) 0 ≤ 223
      · refine next_multi s hs p 2 hlt (by omega) (by omega) (by unfold longI; rw [if_neg c1, if_pos c2]; rfl) (V2 (s.data.toList.drop p)) (G2 (s.data.toList.drop p)) (fun h => dec_bad _ (by omega) h (fun h => by have := h.1; omega) (fun h => by have := h.1; omega)) (fun h => dec_2 _ h) (fun h => by have := h.2.2.1; omega) (fun hfit => ?_) (fun h => ?_)
        · exact fitD_2 _ (by rw [hll]; omega) c2.1 c2.2
        · refine next_j1_val s p _ 2 hbl (by omega) (by omega) _ ?_
          refine Ev.step (fun k => val_step s hs p 2 1 _ (by have := h.2.2.1; omega) (by omega) (by simp; omega) k) ?_
          refine Ev.step (fun k => val_stop s p 2 _ k) ?_
          have : (64 * (if (2 : Nat) = 2 then bn (s.data.toList.drop p) 0 % 32 else if (2 : Nat) = 3 then bn (s.data.toList.drop p) 0 % 16 else bn (s.data.toList.drop p) 0 % 8) + bn (s.data.toList.drop p) 1 % 64) = V2 (s.data.toList.drop p) := by unfold V2; simp; omega
          rw [this]; exact Ev.now _
      · by_cases c3 : 224 ≤ bn (s.data.toList.drop p) 0 ∧ bn (s.data.toList.drop p) 0 ≤ 239
        · refine next_multi s hs p 3 hlt (by omega) (by omega) (by unfold longI; rw [if_neg c1, if_neg c2, if_pos c3]; rfl) (V3 (s.data.toList.drop p)) (G3 (s.data.toList.drop p)) (fun h => dec_bad _ (by omega) (fun h => by have := h.2.1; omega) h (fun h => by have := h.1; omega)) (fun h => dec_3 _ h) (fun h => by have := h.2.2.2.2.2.1; omega) (fun hfit => ?_) (fun h => ?_)
          · exact fitD_3 _ (by rw [hll]; omega) c3.1 c3.2
          · refine next_j1_val s p _ 3 hbl (by omega) (by omega) _ ?_
            refine Ev.step (fun k => val_step s hs p 3 1 _ (by have := h.2.2.2.2.2.1; omega) (by omega) (by simp; omega) k) ?_
            refine Ev.step (fun k => val_step s hs p 3 2 _ (by have := h.2.2.2.2.2.1; omega) (by omega) (by simp; omega) k) ?_
            refine Ev.step (fun k => val_stop s p 3 _ k) ?_
            have : (64 * (64 * (if (3 : Nat) = 2 then bn (s.data.toList.drop p) 0 % 32 else if (3 : Nat) = 3 then bn (s.data.toList.drop p) 0 % 16 else bn (s.data.toList.drop p) 0 % 8) + bn (s.data.toList.drop p) 1 % 64) + bn (s.data.toList.drop p) 2 % 64) = V3 (s.data.toList.drop p) := by unfold V3; simp; omega
            rw [this]; exact Ev.now _
        · by_cases c4 : 240 ≤ bn (s.data.toList.drop p) 0 ∧ bn (s.data.toList.drop p) 0 ≤ 244
          · refine next_multi s hs p 4 hlt (by omega) (by omega) (by unfold longI; rw [if_neg c1, if_neg c2, if_neg c3, if_pos c4]; rfl) (V4 (s.data.toList.drop p)) (G4 (s.data.toList.drop p)) (fun h => dec_bad _ (by omega) (fun h => by have := h.2.1; omega) (fun h => by have := h.2.1; omega) h) (fun h => dec_4 _ h) (fun h => by have := h.2.2.2.2.2.2.1; omega) (fun hfit => ?_) (fun h => ?_)
            · exact fitD_4 _ (by rw [hll]; omega) c4.1 c4.2
            · refine next_j1_val s p _ 4 hbl (by omega) (by omega) _ ?_
              refine Ev.step (fun k => val_step s hs p 4 1 _ (by have := h.2.2.2.2.2.2.1; omega) (by omega) (by simp; omega) k) ?_
              refine Ev.step (fun k => val_step s hs p 4 2 _ (by have := h.2.2.2.2.2.2.1; omega) (by omega) (by simp; omega) k) ?_
              refine Ev.step (fun k => val_step s hs p 4 3 _ (by have := h.2.2.2.2.2.2.1; omega) (by omega) (by simp; omega) k) ?_
              refine Ev.step (fun k => val_stop s p 4 _ k) ?_
              have : (64 * (64 * (64 * (if (4 : Nat) = 2 then bn (s.data.toList.drop p) 0 % 32 else if (4 : Nat) = 3 then bn (s.data.toList.drop p) 0 % 16 else bn (s.data.toList.drop p) 0 % 8) + bn (s.data.toList.drop p) 1 % 64) + bn (s.data.toList.drop p) 2 % 64) + bn (s.data.toList.drop p) 3 % 64) = V4 (s.data.toList.drop p) := by unfold V4; simp; omega
              rw [this]; exact Ev.now _
          · have hlong := long_f (bn (s.data.toList.drop p) 0)
            rw [show longI (bn (s.data.toList.drop p) 0) = 0 by unfold longI; rw [if_neg c1, if_neg c2, if_neg c3, if_neg c4]] at hlong
            have hwb := wr_n (bn (s.data.toList.drop p) 0) (by omega)
            have hnv : nextV (s.data.toList.drop p) = (65533, 1, false) := by
              unfold nextV
              rw [nextL_bad hne (dec_bad _ (by omega) (fun h => c2 ⟨h.1, h.2.1⟩) (fun h => c3 ⟨h.1, h.2.1⟩) (fun h => c4 ⟨h.1, h.2.1⟩))]; rfl
            rw [hnv]
            refine Ev.congr (f := fun k => colophonref01_Next.j0 k s (p : Int) false) (fun k => by unfold colophonref01_Next.f; rw [if_neg (by omega), decide_eq_false (by omega)]) ?_
            refine Ev.step (f := fun k => (colophonref01_Long.f k (bn (s.data.toList.drop p) 0 : Int)).bind fun t124 => (if t124 = 0 then (colophonref01_Next.j1 k s (p : Int) (bn (s.data.toList.drop p) 0 : Int) t124 true) else (if (wrap64 ((p : Int) + t124)) > (s.size : Int) then (colophonref01_Next.j1 k s (p : Int) (bn (s.data.toList.drop p) 0 : Int) t124 true) else ((colophonref01_fits.f k s (p : Int) t124).bind fun t125 => (colophonref01_Next.j1 k s (p : Int) (bn (s.data.toList.drop p) 0 : Int) t124 (!t125)))))) (fun k => ?_) (Ev.bind hlong ?_)
            · simp only [colophonref01_Next.j0, Bool.false_eq_true, if_false]
              rw [if_pos (by omega), if_pos (by omega), bt_bn0 s p hlt, hwb]
            · simp only [if_true]; exact next_j1_bad _ _ _ _
end Go.Proofs.YtgfloplakjmncaaDoor.PScan
