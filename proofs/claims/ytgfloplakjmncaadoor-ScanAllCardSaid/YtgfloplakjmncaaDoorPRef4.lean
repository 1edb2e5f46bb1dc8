/- The printed reference of package scan: comments, ends. By an AI agent; no person has read it. -/
import Derived.Test.YtgfloplakjmncaaDoorPRef3
set_option linter.unusedSimpArgs false
set_option linter.unusedVariables false
namespace Go.Proofs.YtgfloplakjmncaaDoor.PScan
open Go Go.RowKit Go.Proofs.YtgfloplakjmncaaDoor Go.Proofs.YtgfloplakjmncaaDoorW.PrintWords Go.Proofs.YtgfloplakjmncaaDoorW.PrintLast
theorem wr_d (a b : Nat) (h : b ≤ a) (ha : a < 9223372036854775808) : wrap64 ((a : Int) - (b : Int)) = ((a - b : Nat) : Int) := by unfold wrap64; omega
theorem dec_high (l : List UInt8) (h : ¬ bn l 0 < 128) (j : Nat) (hj : j < (dec l).2) : 128 ≤ bn l j := by
  rcases dec_cases l with ⟨c1, e⟩ | ⟨c1, e⟩ | ⟨c1, e⟩ | ⟨c1, e⟩ | ⟨_, _, _, _, e⟩
  · omega
  · rw [e] at hj; dsimp only at hj
    rcases (show j = 0 ∨ j = 1 by omega) with rfl | rfl
    · omega
    · exact c1.2.2.2.1
  · rw [e] at hj; dsimp only at hj
    rcases (show j = 0 ∨ j = 1 ∨ j = 2 by omega) with rfl | rfl | rfl
    · omega
    · exact c1.2.2.1.2.1
    · exact c1.2.2.2.2.2.2.1
  · rw [e] at hj; dsimp only at hj
    rcases (show j = 0 ∨ j = 1 ∨ j = 2 ∨ j = 3 by omega) with rfl | rfl | rfl | rfl
    · omega
    · exact c1.2.2.1.2.1
    · exact c1.2.2.2.2.2.1.2.1
    · exact c1.2.2.2.2.2.2.2.1
  · rw [e] at hj; dsimp only at hj
    rcases (show j = 0 by omega) with rfl
    omega
/-- One byte of a comment that ends nothing. -/
theorem com_byte (s : ByteArray) (hs : s.size < 1099511627776) (o p : Nat) (ho : o ≤ p) (hp : p < s.size) (blk : Bool) (h10 : ¬ bn (s.data.toList.drop p) 0 = 10 ∨ blk = true) (h125 : ¬ bn (s.data.toList.drop p) 0 = 125 ∨ blk = false) (r : Int × Int)
    (h1 : p + 1 - o > 65535 → r = ((o : Int), 103)) (h2 : ¬ p + 1 - o > 65535 → Ev (fun k => colophonref10_comment.l0 k s (o : Int) blk ((p + 1 : Nat) : Int)) r) : Ev (fun k => colophonref10_comment.l0 k s (o : Int) blk (p : Int)) r := by
  have hb := bt_bn0 s p hp
  have d1 : (p : Int) < (s.size : Int) := by omega
  have d2 : (0 : Int) ≤ (p : Int) := by omega
  have hw := wr_s p (by omega)
  have hX : p + 1 ≤ s.size := hp
  have hw2 : wrap64 (((p + 1 : Nat) : Int) - (o : Int)) = ((p + 1 - o : Nat) : Int) := wr_d _ _ (Nat.le_succ_of_le ho) (Nat.lt_of_le_of_lt (show p + 1 ≤ s.size from hX) (Nat.lt_trans hs (by decide)))
  have key : Ev (fun k => colophonref10_comment.j1 k s (o : Int) blk (p : Int) false) r := by
    by_cases hl : p + 1 - o > 65535
    · have d : ((p + 1 - o : Nat) : Int) > 65535 := by omega
      rw [h1 hl]
      refine Ev.step (f := fun k => some ((o : Int), 103)) (fun k => ?_) (Ev.now _)
      simp only [colophonref10_comment.j1, Bool.false_eq_true, if_false, hw, hw2, if_pos d]
    · have d : ¬ ((p + 1 - o : Nat) : Int) > 65535 := by omega
      refine Ev.step (fun k => ?_) (h2 hl)
      simp only [colophonref10_comment.j1, Bool.false_eq_true, if_false, hw, hw2, if_neg d, if_pos d1, if_pos d2, hb]
      cases blk with
      | true =>
        have : ¬ (bn (s.data.toList.drop p) 0 : Int) = 125 := by
          rcases h125 with h | h
          · omega
          · cases h
        simp only [if_true, if_neg this]
      | false => simp only [Bool.false_eq_true, if_false]
  refine Ev.step (fun k => ?_) key
  simp only [colophonref10_comment.l0, if_pos d1, if_pos d2, hb]
  cases blk with
  | true => simp only [if_true]
  | false =>
    have : ((bn (s.data.toList.drop p) 0 : Int) == 10) = false := by
      rw [beq_eq_false_iff_ne]
      rcases h10 with h | h
      · omega
      · cases h
    simp only [Bool.false_eq_true, if_false, this]
/-- A character of a comment that ends nothing. -/
theorem com_char (s : ByteArray) (hs : s.size < 1099511627776) (o : Nat) (blk : Bool) (r : Int × Int) : ∀ (n p : Nat), o ≤ p → p + n ≤ s.size → (∀ j, j < n → (¬ bn (s.data.toList.drop p) j = 10 ∨ blk = true) ∧ (¬ bn (s.data.toList.drop p) j = 125 ∨ blk = false)) → p - o ≤ 65535 →
    (p + n - o > 65535 → r = ((o : Int), 103)) → (¬ p + n - o > 65535 → Ev (fun k => colophonref10_comment.l0 k s (o : Int) blk ((p + n : Nat) : Int)) r) → Ev (fun k => colophonref10_comment.l0 k s (o : Int) blk (p : Int)) r
  | 0, p, _, _, _, hle, _, h2 => h2 (by omega)
  | n + 1, p, ho, hp, hj, hle, h1, h2 => by
    have h0 := hj 0 (by omega)
    refine com_byte s hs o p ho (by omega) blk h0.1 h0.2 r (fun h => h1 (by omega)) (fun h => ?_)
    refine com_char s hs o blk r n (p + 1) (by omega) (by omega) (fun j hjn => ?_) (by omega) (fun h => h1 (by omega)) (fun h => ?_)
    · have := hj (j + 1) (by omega)
      rwa [show bn (s.data.toList.drop (p + 1)) j = bn (s.data.toList.drop p) (j + 1) by rw [bn_drop, bn_drop]; congr 1; omega]
    · rw [show p + 1 + n = p + (n + 1) by omega]; exact h2 (by omega)
theorem com_f (s : ByteArray) (hs : s.size < 1099511627776) (o : Nat) (blk : Bool) : ∀ (F p : Nat), s.size - p < F → o ≤ p → p ≤ s.size → p - o ≤ 65535 → Ev (fun k => colophonref10_comment.l0 k s (o : Int) blk (p : Int)) (quoV o (commentF (!blk) F (s.data.toList.drop p) (p - o)))
  | 0, p, h, _, _, _ => absurd h (Nat.not_lt_zero _)
  | F + 1, p, h, ho, hp, hle => by
    rw [commentF]
    by_cases hend : p = s.size
    · have hnil : s.data.toList.drop p = [] := List.drop_eq_nil_of_le (by rw [size_list]; omega)
      rw [hnil, if_pos (by rfl)]
      have d : ¬ ((p : Int) < (s.size : Int)) := by omega
      cases blk with
      | true =>
        rw [if_neg (by decide)]
        refine Ev.step (f := fun k => some ((o : Int), 101)) (fun k => ?_) (Ev.now _)
        simp only [colophonref10_comment.l0, if_neg d, if_true]
      | false =>
        rw [if_pos (by decide)]
        have : quoV o (7, p - o, 0) = ((p : Int), 0) := by simp [quoV]; omega
        rw [this]
        refine Ev.step (f := fun k => some ((p : Int), 0)) (fun k => ?_) (Ev.now _)
        simp only [colophonref10_comment.l0, if_neg d, Bool.false_eq_true, if_false]
    · have hlt : p < s.size := by omega
      obtain ⟨w1, w2, w3⟩ := next_wid s hlt
      have hb := bt_bn0 s p hlt
      have i10 := next_is (drop_ne hlt) 10 (by decide)
      have i125 := next_is (drop_ne hlt) 125 (by decide)
      have d1 : (p : Int) < (s.size : Int) := by omega
      have d2 : (0 : Int) ≤ (p : Int) := by omega
      rw [if_neg (by omega)]
      by_cases c1 : (!blk) = true ∧ (nextL (s.data.toList.drop p)).1 = 10
      · rw [if_pos c1]
        have hbk : blk = false := by simpa using c1.1
        subst hbk
        have : quoV o (7, p - o, 0) = ((p : Int), 0) := by simp [quoV]; omega
        rw [this]
        have e10 : ((bn (s.data.toList.drop p) 0 : Int) == 10) = true := by rw [beq_iff_eq]; have := i10.1 c1.2; omega
        refine Ev.step (f := fun k => colophonref10_comment.j1 k s (o : Int) false (p : Int) true) (fun k => ?_) (Ev.step (f := fun k => some ((p : Int), 0)) (fun k => ?_) (Ev.now _))
        · simp only [colophonref10_comment.l0, if_pos d1, if_pos d2, hb, Bool.false_eq_true, if_false, e10]
        · simp only [colophonref10_comment.j1, if_true]
      · rw [if_neg c1]
        have hwid := nextL_width (drop_ne hlt)
        by_cases hlong : p - o + (nextL (s.data.toList.drop p)).2.1 > 65535 ∧ True
        · rw [if_pos hlong.1]
          by_cases hlow : bn (s.data.toList.drop p) 0 < 128
          · have hn1 : (nextL (s.data.toList.drop p)).2.1 = 1 := by rw [next_low (drop_ne hlt) hlow]
            rw [hn1] at hlong
            have hX : p + 1 ≤ s.size := hlt
            have d : ((p + 1 - o : Nat) : Int) > 65535 := by omega
            have hw := wr_s p (by omega)
            have hw2 : wrap64 (((p + 1 : Nat) : Int) - (o : Int)) = ((p + 1 - o : Nat) : Int) := wr_d _ _ (Nat.le_succ_of_le ho) (Nat.lt_of_le_of_lt (show p + 1 ≤ s.size from hX) (Nat.lt_trans hs (by decide)))
            have key : Ev (fun k => colophonref10_comment.j1 k s (o : Int) blk (p : Int) false) ((o : Int), 103) := by
              refine Ev.step (f := fun k => some ((o : Int), 103)) (fun k => ?_) (Ev.now _)
              simp only [colophonref10_comment.j1, Bool.false_eq_true, if_false, hw, hw2, if_pos d]
            refine Ev.step (fun k => ?_) key
            simp only [colophonref10_comment.l0, if_pos d1, if_pos d2, hb]
            cases blk with
            | true => simp only [if_true]
            | false =>
              have : ((bn (s.data.toList.drop p) 0 : Int) == 10) = false := by
                rw [beq_eq_false_iff_ne]; intro h; apply c1; clear hw hw2; exact ⟨rfl, i10.2 (by omega)⟩
              simp only [Bool.false_eq_true, if_false, this]
          · refine com_char s hs o blk _ (nextL (s.data.toList.drop p)).2.1 p ho w2 (fun j hj => ?_) hle (fun _ => rfl) (fun h => absurd (show p + (nextL (s.data.toList.drop p)).2.1 - o > 65535 by omega) h)
            have := dec_high (s.data.toList.drop p) hlow j (by rw [← hwid]; exact hj)
            exact ⟨.inl (by omega), .inl (by omega)⟩
        · have hlong' : ¬ p - o + (nextL (s.data.toList.drop p)).2.1 > 65535 := fun h => hlong ⟨h, trivial⟩
          rw [if_neg hlong']
          by_cases c2 : (!blk) = false ∧ (nextL (s.data.toList.drop p)).1 = 125
          · rw [if_pos c2]
            have hbk : blk = true := by simpa using c2.1
            subst hbk
            have h125 := i125.1 c2.2
            have hn1 : (nextL (s.data.toList.drop p)).2.1 = 1 := by rw [next_low (drop_ne hlt) (by omega)]
            rw [hn1] at hlong' ⊢
            have hX : p + 1 ≤ s.size := hlt
            have d : ¬ ((p + 1 - o : Nat) : Int) > 65535 := by omega
            have e125 : (bn (s.data.toList.drop p) 0 : Int) = 125 := by omega
            have : quoV o (8, p - o + 1, 0) = (((p + 1 : Nat) : Int), 0) := by simp [quoV]; omega
            have hw := wr_s p (by omega)
            have hw2 : wrap64 (((p + 1 : Nat) : Int) - (o : Int)) = ((p + 1 - o : Nat) : Int) := wr_d _ _ (Nat.le_succ_of_le ho) (Nat.lt_of_le_of_lt (show p + 1 ≤ s.size from hX) (Nat.lt_trans hs (by decide)))
            rw [this]
            refine Ev.step (f := fun k => colophonref10_comment.j1 k s (o : Int) true (p : Int) false) (fun k => ?_) (Ev.step (f := fun k => some (((p + 1 : Nat) : Int), 0)) (fun k => ?_) (Ev.now _))
            · simp only [colophonref10_comment.l0, if_pos d1, if_true]
            · simp only [colophonref10_comment.j1, Bool.false_eq_true, if_false, hw, hw2, if_neg d, if_true, if_pos d1, if_pos d2, hb, if_pos e125]
          · rw [if_neg c2, List.drop_drop]
            have hrec := com_f s hs o blk F (p + (nextL (s.data.toList.drop p)).2.1) (by omega) (by omega) w2 (by omega)
            rw [show p + (nextL (s.data.toList.drop p)).2.1 - o = p - o + (nextL (s.data.toList.drop p)).2.1 by omega] at hrec
            refine com_char s hs o blk _ (nextL (s.data.toList.drop p)).2.1 p ho w2 (fun j hj => ?_) hle (fun h => absurd h (by omega)) (fun h => hrec)
            by_cases hlow : bn (s.data.toList.drop p) 0 < 128
            · have hn1 : (nextL (s.data.toList.drop p)).2.1 = 1 := by rw [next_low (drop_ne hlt) hlow]
              have hj0 : j = 0 := by omega
              subst hj0
              refine ⟨?_, ?_⟩
              · cases blk with
                | true => exact .inr rfl
                | false => left; intro h; apply c1; exact ⟨rfl, i10.2 h⟩
              · cases blk with
                | true => left; intro h; apply c2; exact ⟨rfl, i125.2 h⟩
                | false => exact .inr rfl
            · have := dec_high (s.data.toList.drop p) hlow j (by rw [← hwid]; exact hj)
              exact ⟨.inl (by omega), .inl (by omega)⟩
theorem quotedF_kind : ∀ (f : Nat) (l : List UInt8) (k : Nat), (quotedF f l k).2.2 = 0 → (quotedF f l k).1 = 4
  | 0, l, k, h => by simp [quotedF] at h
  | f + 1, l, k, h => by
    rw [quotedF] at h ⊢
    by_cases c1 : (nextL l).2.1 = 0
    · rw [if_pos c1] at h; simp at h
    · rw [if_neg c1] at h ⊢
      by_cases c2 : (nextL l).1 = 10
      · rw [if_pos c2] at h; simp at h
      · rw [if_neg c2] at h ⊢
        by_cases c3 : k + (nextL l).2.1 > 65535
        · rw [if_pos c3] at h; simp at h
        · rw [if_neg c3] at h ⊢
          by_cases c4 : controlB (nextL l).1 (nextL l).2.2 = true
          · rw [if_pos c4] at h; simp at h
          · rw [if_neg c4] at h ⊢
            by_cases c5 : (nextL l).1 = 34
            · rw [if_pos c5]
            · rw [if_neg c5] at h ⊢; exact quotedF_kind f _ _ h
theorem singleF_kind (l : List UInt8) (k : Nat) (h : (singleF l k).2.2 = 0) : (singleF l k).1 = 5 := by
  unfold singleF at h ⊢
  by_cases c1 : (nextL l).2.1 = 0
  · rw [if_pos c1] at h; simp at h
  · rw [if_neg c1] at h ⊢
    by_cases c2 : (nextL l).1 = 10
    · rw [if_pos c2] at h; simp at h
    · rw [if_neg c2] at h ⊢
      by_cases c3 : (nextL l).1 = 39
      · rw [if_pos c3] at h; simp at h
      · rw [if_neg c3] at h ⊢
        by_cases c4 : controlB (nextL l).1 (nextL l).2.2 = true
        · rw [if_pos c4] at h; simp at h
        · rw [if_neg c4] at h ⊢
          by_cases c5 : (nextL (l.drop (nextL l).2.1)).2.1 = 0
          · rw [if_pos c5] at h; simp at h
          · rw [if_neg c5] at h ⊢
            by_cases c6 : (nextL (l.drop (nextL l).2.1)).1 = 10
            · rw [if_pos c6] at h; simp at h
            · rw [if_neg c6] at h ⊢
              by_cases c7 : (nextL (l.drop (nextL l).2.1)).1 = 39
              · rw [if_pos c7]
              · rw [if_neg c7] at h; simp at h
theorem commentF_kind (line : Bool) : ∀ (f : Nat) (l : List UInt8) (k : Nat), (commentF line f l k).2.2 = 0 → (commentF line f l k).1 = if line = true then 7 else 8
  | 0, l, k, h => by simp [commentF] at h
  | f + 1, l, k, h => by
    rw [commentF] at h ⊢
    by_cases c1 : (nextL l).2.1 = 0
    · rw [if_pos c1] at h ⊢
      by_cases c2 : line = true
      · rw [if_pos c2, if_pos c2]
      · rw [if_neg c2] at h; simp at h
    · rw [if_neg c1] at h ⊢
      by_cases c2 : line = true ∧ (nextL l).1 = 10
      · rw [if_pos c2, if_pos c2.1]
      · rw [if_neg c2] at h ⊢
        by_cases c3 : k + (nextL l).2.1 > 65535
        · rw [if_pos c3] at h; simp at h
        · rw [if_neg c3] at h ⊢
          by_cases c4 : line = false ∧ (nextL l).1 = 125
          · rw [if_pos c4, if_neg (by rw [c4.1]; decide)]
          · rw [if_neg c4] at h ⊢; exact commentF_kind line f _ _ h
/-- What scan.one tells of the kind, before words are told from names. -/
theorem one_kind (s : ByteArray) (hs : s.size < 1099511627776) (p : Nat) (hp : p < s.size) :
    (kindN s p = 0 → oneR s p = (0, p, 100)) ∧ (kindN s p ≠ 0 → Ev (fun k => colophonref10_ends.f k s (p : Int) (kindN s p : Int)) (((oneR s p).2.1 : Int), ((oneR s p).2.2 : Int)) ∧ ((oneR s p).2.2 = 0 → (oneR s p).1 = if kindN s p = 1 then (if keyB (s.extract p (oneR s p).2.1) = true then 2 else 1) else kindN s p)) := by
  have hne := drop_ne hp
  have hb := bt_bn0 s p hp
  obtain ⟨w1, w2, w3⟩ := next_wid s hp
  have idig := next_digit hne
  have i34 := next_is hne 34 (by decide)
  have i39 := next_is hne 39 (by decide)
  have i123 := next_is hne 123 (by decide)
  have hw1 := wr_s p (by omega)
  have hll : (s.data.toList.drop p).length = s.size - p := by simp
  unfold kindN
  unfold oneR
  by_cases c1 : (nextL (s.data.toList.drop p)).2.2 = true ∧ letterB (nextL (s.data.toList.drop p)).1 = true
  · rw [if_pos c1, if_pos c1]
    refine ⟨fun h => by omega, fun _ => ?_⟩
    have hr := row_name s hs p (s.size - p + 1) p (by omega) (Nat.le_refl _) (by omega)
    have hstep : namedF (s.size - p + 1) (s.data.toList.drop p) (p - p) = namedF (s.size - (p + (nextL (s.data.toList.drop p)).2.1) + 1) (s.data.toList.drop (p + (nextL (s.data.toList.drop p)).2.1)) (p + (nextL (s.data.toList.drop p)).2.1 - p) := by
      have hpart : (nextL (s.data.toList.drop p)).2.2 = true ∧ partB (nextL (s.data.toList.drop p)).1 = true := ⟨c1.1, by unfold partB; rw [c1.2, Bool.or_true]⟩
      rw [namedF, if_pos hpart, if_neg (by omega), List.drop_drop, Nat.sub_self, Nat.zero_add, Nat.add_sub_cancel_left]
      generalize hX : s.data.toList.drop (p + (nextL (s.data.toList.drop p)).2.1) = X
      have hXl : X.length = s.size - (p + (nextL (s.data.toList.drop p)).2.1) := by rw [← hX]; simp
      have hmono : ∀ (F : Nat) (l : List UInt8) (k G : Nat), l.length < F → l.length < G → namedF F l k = namedF G l k := by
        intro F
        induction F with
        | zero => intro l k G h1; omega
        | succ F ih =>
          intro l k G h1 h2
          obtain ⟨G, rfl⟩ : ∃ g, G = g + 1 := ⟨G - 1, by omega⟩
          rw [namedF, namedF]
          by_cases hc : (nextL l).2.2 = true ∧ partB (nextL l).1 = true
          · rw [if_pos hc, if_pos hc]
            have hl := nextL_good hc.1
            have hwd := dec_width l hl.1
            rw [ih _ _ G (by rw [List.length_drop, hl.2.2.1]; omega) (by rw [List.length_drop, hl.2.2.1]; omega)]
          · rw [if_neg hc, if_neg hc]
      exact hmono _ _ _ _ (by omega) (by omega)
    rw [hstep] at hr
    unfold namedR
    have hends : ∀ r, Ev (fun k => colophonref10_row.l0 k s (p : Int) 1 (p : Int)) r → Ev (fun k => colophonref10_ends.f k s (p : Int) ((1 : Nat) : Int)) r := fun r h => by
      refine Ev.congr (f := fun k => (colophonref10_row.l0 k s (p : Int) 1 (p : Int)).bind fun b => some (b.1, b.2)) (fun k => ?_) (Ev.bind h (Ev.now _))
      simp only [colophonref10_ends.f, colophonref10_row.f]
      rfl
    cases hf : namedF (s.size - (p + (nextL (s.data.toList.drop p)).2.1) + 1) (s.data.toList.drop (p + (nextL (s.data.toList.drop p)).2.1)) (p + (nextL (s.data.toList.drop p)).2.1 - p) with
    | none => rw [hf] at hr; exact ⟨hends _ hr, fun h => by simp [namedO] at h⟩
    | some r => rw [hf] at hr; exact ⟨hends _ hr, fun h => (if_pos rfl).symm⟩
  · rw [if_neg c1, if_neg c1]
    by_cases c2 : 48 ≤ bn (s.data.toList.drop p) 0 ∧ bn (s.data.toList.drop p) 0 ≤ 57
    · rw [if_pos c2, if_pos (idig.2 c2)]
      refine ⟨fun h => by omega, fun _ => ?_⟩
      have hr := row_num s hs p (s.size - p + 1) p (by omega) (Nat.le_refl _) (by omega)
      have hstep : numberedF (s.size - p + 1) (s.data.toList.drop p) (p - p) = numberedF (s.size - (p + (nextL (s.data.toList.drop p)).2.1) + 1) (s.data.toList.drop (p + (nextL (s.data.toList.drop p)).2.1)) (p + (nextL (s.data.toList.drop p)).2.1 - p) := by
        rw [numberedF, if_pos ⟨by omega, idig.2 c2⟩, if_neg (by omega), List.drop_drop, Nat.sub_self, Nat.zero_add, Nat.add_sub_cancel_left]
        generalize hX : s.data.toList.drop (p + (nextL (s.data.toList.drop p)).2.1) = X
        have hXl : X.length = s.size - (p + (nextL (s.data.toList.drop p)).2.1) := by rw [← hX]; simp
        have hmono : ∀ (F : Nat) (l : List UInt8) (k G : Nat), l.length < F → l.length < G → numberedF F l k = numberedF G l k := by
          intro F
          induction F with
          | zero => intro l k G h1; omega
          | succ F ih =>
            intro l k G h1 h2
            obtain ⟨G, rfl⟩ : ∃ g, G = g + 1 := ⟨G - 1, by omega⟩
            rw [numberedF, numberedF]
            by_cases hc : 0 < (nextL l).2.1 ∧ 48 ≤ (nextL l).1 ∧ (nextL l).1 ≤ 57
            · rw [if_pos hc, if_pos hc]
              have hln : l ≠ [] := by intro h; rw [h] at hc; simp [nextL] at hc
              have : 0 < l.length := List.length_pos_iff.2 hln
              rw [ih _ _ G (by rw [List.length_drop]; omega) (by rw [List.length_drop]; omega)]
            · rw [if_neg hc, if_neg hc]
        exact hmono _ _ _ _ (by omega) (by omega)
      rw [hstep] at hr
      unfold numberedR
      have hends : ∀ r, Ev (fun k => colophonref10_row.l0 k s (p : Int) 3 (p : Int)) r → Ev (fun k => colophonref10_ends.f k s (p : Int) ((3 : Nat) : Int)) r := fun r h => by
        refine Ev.congr (f := fun k => (colophonref10_row.l0 k s (p : Int) 3 (p : Int)).bind fun b => some (b.1, b.2)) (fun k => ?_) (Ev.bind h (Ev.now _))
        simp only [colophonref10_ends.f, colophonref10_row.f]
        rfl
      cases hf : numberedF (s.size - (p + (nextL (s.data.toList.drop p)).2.1) + 1) (s.data.toList.drop (p + (nextL (s.data.toList.drop p)).2.1)) (p + (nextL (s.data.toList.drop p)).2.1 - p) with
      | none => rw [hf] at hr; exact ⟨hends _ hr, fun h => by simp [numberedO] at h⟩
      | some r => rw [hf] at hr; exact ⟨hends _ hr, fun h => rfl⟩
    · rw [if_neg c2, if_neg (fun h => c2 (idig.1 h))]
      by_cases c3 : bn (s.data.toList.drop p) 0 = 34
      · rw [if_pos c3, if_pos (i34.2 c3)]
        have hn1 : (nextL (s.data.toList.drop p)).2.1 = 1 := by rw [next_low hne (by omega)]
        rw [hn1]
        refine ⟨fun h => by omega, fun _ => ?_⟩
        have hq := quo_text s hs p (s.size - (p + 1) + 1) (p + 1) 0 (by omega) (by omega) (by omega)
        unfold quotedR
        refine ⟨?_, fun h => ?_⟩
        · refine Ev.congr (f := fun k => (colophonref10_quoted.l0 k s (p : Int) 34 false ((p + 1 : Nat) : Int) 0).bind fun b => some (b.1, b.2)) (fun k => ?_) (Ev.bind hq (Ev.now _))
          simp only [colophonref10_ends.f, colophonref10_quoted.f, hw1]
          rfl
        · exact quotedF_kind _ _ _ h
      · rw [if_neg c3, if_neg (fun h => c3 (i34.1 h))]
        by_cases c4 : bn (s.data.toList.drop p) 0 = 39
        · rw [if_pos c4, if_pos (i39.2 c4)]
          have hn1 : (nextL (s.data.toList.drop p)).2.1 = 1 := by rw [next_low hne (by omega)]
          rw [hn1]
          refine ⟨fun h => by omega, fun _ => ?_⟩
          have hq := quo_char s hs p hp
          unfold singleR
          rw [show p + 1 - p = 1 by omega]
          refine ⟨?_, fun h => ?_⟩
          · refine Ev.congr (f := fun k => (colophonref10_quoted.l0 k s (p : Int) 39 true ((p + 1 : Nat) : Int) 0).bind fun b => some (b.1, b.2)) (fun k => ?_) (Ev.bind hq (Ev.now _))
            simp only [colophonref10_ends.f, colophonref10_quoted.f, hw1]
            rfl
          · exact singleF_kind _ _ h
        · rw [if_neg c4, if_neg (fun h => c4 (i39.1 h))]
          have hgd : (s.data.toList.getD p 0 == 47) = decide (bn (s.data.toList.drop p) 0 = 47) := by
            have e : bn (s.data.toList.drop p) 0 = (s.data.toList.getD p 0).toNat := by rw [bn_drop]; rfl
            rw [e, Bool.eq_iff_iff, beq_iff_eq, decide_eq_true_eq]
            constructor
            · intro h; rw [h]; rfl
            · intro h; exact UInt8.toNat_inj.1 (by rw [h]; rfl)
          have hcmono : ∀ (line : Bool) (F : Nat) (l : List UInt8) (k G : Nat), l.length < F → l.length < G → commentF line F l k = commentF line G l k := by
            intro line F
            induction F with
            | zero => intro l k G h1; omega
            | succ F ih =>
              intro l k G h1 h2
              obtain ⟨G, rfl⟩ : ∃ g, G = g + 1 := ⟨G - 1, by omega⟩
              rw [commentF, commentF]
              by_cases n0 : (nextL l).2.1 = 0
              · rw [if_pos n0, if_pos n0]
              · rw [if_neg n0, if_neg n0]
                have hln : l ≠ [] := by intro h; apply n0; rw [h]; rfl
                have : 0 < l.length := List.length_pos_iff.2 hln
                rw [ih _ _ G (by rw [List.length_drop]; omega) (by rw [List.length_drop]; omega)]
          have hckind := commentF_kind
          have hcend : ∀ (blk : Bool) r, Ev (fun k => colophonref10_comment.l0 k s (p : Int) blk (p : Int)) r → Ev (fun k => colophonref10_ends.f k s (p : Int) ((if blk = true then 8 else 7 : Nat) : Int)) r := fun blk r h => by
            refine Ev.congr (f := fun k => (colophonref10_comment.l0 k s (p : Int) blk (p : Int)).bind fun b => some (b.1, b.2)) (fun k => ?_) (Ev.bind h (Ev.now _))
            simp only [colophonref10_ends.f, colophonref10_comment.f]
            cases blk <;> rfl
          have hfirst : ∀ (blk : Bool), bn (s.data.toList.drop p) 0 < 128 → (blk = false → ¬ bn (s.data.toList.drop p) 0 = 10) → (blk = true → ¬ bn (s.data.toList.drop p) 0 = 125) →
              commentF (!blk) (s.size - p + 1) (s.data.toList.drop p) (p - p) = commentF (!blk) (s.size - (p + 1) + 1) (s.data.toList.drop (p + 1)) (p + 1 - p) := by
            intro blk hlow h10 h125
            have hnx := next_low hne hlow
            rw [commentF, hnx, if_neg (by simp)]
            rw [if_neg (by rintro ⟨h1, h2⟩; exact h10 (by simpa using h1) h2), if_neg (by simp), if_neg (by rintro ⟨h1, h2⟩; exact h125 (by simpa using h1) h2)]
            dsimp only
            rw [List.drop_drop, Nat.sub_self, Nat.zero_add, Nat.add_sub_cancel_left]
            have : (s.data.toList.drop (p + 1)).length = s.size - (p + 1) := by simp
            exact hcmono _ _ _ _ _ (by omega) (by omega)
          by_cases c5 : Lib.hasPrefix (s.data.toList.drop p) [47, 47] = true
          · rw [if_pos c5, if_pos (.inr c5)]
            have h47 : bn (s.data.toList.drop p) 0 = 47 := by rw [pre_slash, decide_eq_true_eq] at c5; exact c5.1
            have hn1 : (nextL (s.data.toList.drop p)).2.1 = 1 := by rw [next_low hne (by omega)]
            rw [hn1, hgd, decide_eq_true h47]
            refine ⟨fun h => by omega, fun _ => ?_⟩
            have hc := com_f s hs p false (s.size - p + 1) p (by omega) (Nat.le_refl _) (by omega) (by omega)
            rw [hfirst false (by omega) (fun _ => by omega) (fun h => by cases h)] at hc
            unfold commentR
            exact ⟨hcend false _ hc, fun h => hckind true _ _ _ h⟩
          · rw [if_neg c5]
            by_cases c6 : bn (s.data.toList.drop p) 0 = 123
            · rw [if_pos c6, if_pos (.inl (i123.2 c6))]
              have hn1 : (nextL (s.data.toList.drop p)).2.1 = 1 := by rw [next_low hne (by omega)]
              rw [hn1, hgd, decide_eq_false (by omega)]
              refine ⟨fun h => by omega, fun _ => ?_⟩
              have hc := com_f s hs p true (s.size - p + 1) p (by omega) (Nat.le_refl _) (by omega) (by omega)
              rw [hfirst true (by omega) (fun h => by cases h) (fun _ => by omega)] at hc
              unfold commentR
              exact ⟨hcend true _ hc, fun h => hckind false _ _ _ h⟩
            · rw [if_neg c6, if_neg (show ¬ ((nextL (s.data.toList.drop p)).1 = 123 ∨ Lib.hasPrefix (s.data.toList.drop p) [47, 47] = true) from fun h => h.elim (fun h => c6 (i123.1 h)) c5)]
              by_cases c7 : (signB (s.extract p s.size)).size = 0
              · rw [if_pos c7, if_pos c7]
                exact ⟨fun _ => rfl, fun h => absurd rfl h⟩
              · rw [if_neg c7, if_neg c7]
                refine ⟨fun h => by omega, fun _ => ⟨?_, fun _ => rfl⟩⟩
                have hsg := sign_f s (by omega) p hp
                have hsl := signB_le (s.extract p s.size)
                have hw := wr_a p (signB (s.extract p s.size)).size (by simp at hsl; omega)
                refine Ev.congr (f := fun k => (colophonref04_Sign.f k s (p : Int)).bind fun t187 => some (wrap64 ((p : Int) + (t187.size : Int)), 0)) (fun k => ?_) (Ev.bind hsg ?_)
                · simp only [colophonref10_ends.f]; rfl
                · rw [hw]; exact Ev.now _
end Go.Proofs.YtgfloplakjmncaaDoor.PScan
