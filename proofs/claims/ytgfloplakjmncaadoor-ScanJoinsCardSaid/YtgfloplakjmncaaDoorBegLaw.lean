/- Plain: ScanBegins: a beginning's tokens but for the last one are the whole's first ones. By an AI agent; no person has read it. -/
import Derived.Test.YtgfloplakjmncaaDoorLocLaw2
set_option linter.unusedSimpArgs false
set_option linter.unusedVariables false
namespace Go.Proofs.YtgfloplakjmncaaDoor
open Go

theorem offR_ok {a : Nat} {r : Nat × Nat × Nat} {k e : Nat} (h : offR a r = (k, e, 0)) : ∃ j, r = (k, j, 0) ∧ e = a + j := by
  obtain ⟨x, y, z⟩ := r
  simp only [offR, Prod.mk.injEq] at h
  obtain ⟨rfl, rfl, rfl⟩ := h
  exact ⟨y, rfl, rfl⟩
/-- The blanks at a place. -/
def gapL (l : List UInt8) : Nat := l.length - (l.dropWhile (([32, 9, 13, 10] : List UInt8).contains ·)).length
theorem gap_list (s : ByteArray) (a : Nat) : gap s a = gapL (s.data.toList.drop a) := rfl
theorem gapL_append (l y : List UInt8) (h : gapL l < l.length) : gapL (l ++ y) = gapL l := by
  unfold gapL at *
  induction l with
  | nil => simp at h
  | cons c l ih =>
    by_cases hc : (([32, 9, 13, 10] : List UInt8).contains c) = true
    · rw [List.dropWhile_cons, if_pos hc] at h ⊢
      rw [List.cons_append, List.dropWhile_cons, if_pos hc]
      have hle : (l.dropWhile (([32, 9, 13, 10] : List UInt8).contains ·)).length ≤ l.length := (List.dropWhile_sublist _).length_le
      have hle2 : ((l ++ y).dropWhile (([32, 9, 13, 10] : List UInt8).contains ·)).length ≤ (l ++ y).length := (List.dropWhile_sublist _).length_le
      have := ih (by simp only [List.length_cons] at h; omega)
      simp only [List.length_cons, List.length_append] at *
      omega
    · rw [List.dropWhile_cons, if_neg hc, List.cons_append, List.dropWhile_cons, if_neg hc]; simp
theorem gapL_pos (l : List UInt8) (h : 0 < gapL l) : bn l 0 < 128 ∧ l ≠ [] := by
  rcases l with _ | ⟨c, l⟩
  · simp [gapL] at h
  · by_cases hc : (([32, 9, 13, 10] : List UInt8).contains c) = true
    · refine ⟨?_, by simp⟩
      simp only [List.contains_cons, List.contains_nil, Bool.or_false, Bool.or_eq_true, beq_iff_eq] at hc
      simp only [bn, List.getD_cons_zero]
      rcases hc with rfl | rfl | rfl | rfl <;> decide
    · unfold gapL at h; rw [List.dropWhile_cons, if_neg hc] at h; simp at h
theorem next_ascii (l : List UInt8) (hne : l ≠ []) (h : bn l 0 < 128) : (nextL l).2.2 = true := by
  unfold nextL
  rw [if_neg hne, if_neg]
  intro hb
  have := dec_1 l h
  rw [show dec l = (65533, 1) from hb] at this
  simp at this; omega
/-- A token of the beginning, behind which there is another one. -/
theorem one_begins (b s : ByteArray) (y : List UInt8) (hs : s.data.toList = b.data.toList ++ y) (m k e : Nat) (hm : m < b.size) (h : oneR b m = (k, e, 0)) (he : e + gap b e < b.size) (h2 : (oneR b (e + gap b e)).2.2 = 0) : oneR s m = (k, e, 0) := by
  have hlb := size_list b
  have hls := size_list s
  have hsz : b.size ≤ s.size := by rw [← hlb, ← hls, hs, List.length_append]; omega
  rw [one_shift b m (by omega)] at h
  obtain ⟨j, hj, rfl⟩ := offR_ok h
  have hne : b.data.toList.drop m ≠ [] := by intro h; have := congrArg List.length h; simp at this; omega
  have hgood : (nextL ((b.data.toList.drop m).drop j)).2.2 = true := by
    rw [List.drop_drop]
    by_cases hg : gap b (m + j) = 0
    · rw [hg, Nat.add_zero] at h2 he
      rw [one_shift b (m + j) (by omega)] at h2
      have hne2 : b.data.toList.drop (m + j) ≠ [] := by intro h; have := congrArg List.length h; simp at this; omega
      generalize hr : oneR (bs (b.data.toList.drop (m + j))) 0 = r at h2
      obtain ⟨r1, r2, r3⟩ := r
      have h3 : r3 = 0 := h2
      subst h3
      exact one_good _ _ _ hr hne2
    · obtain ⟨g1, g2⟩ := gapL_pos (b.data.toList.drop (m + j)) (by rw [← gap_list]; omega)
      exact next_ascii _ g2 g1
  have hlen : (b.data.toList.drop m).length = b.size - m := by simp
  have hna := next_append ((b.data.toList.drop m).drop j) y hgood
  have hloc := one_loc (b.data.toList.drop m) y k j hj hne (.inl ⟨by omega, hna.2, hna.1.symm⟩)
  rw [one_shift s m (by omega), hs, List.drop_append_of_le_length (by omega), hloc]
  rfl
theorem begins_F (b s : ByteArray) (y : List UInt8) (hs : s.data.toList = b.data.toList ++ y) : ∀ (fb fs a : Nat) (p : Pl), b.size - a < fb → s.size - a < fs → a ≤ b.size → (allF fb b a p).2.1 = 0 →
    (allF fb b a p).1.length - 1 ≤ (allF fs s a p).1.length ∧ (allF fb b a p).1.take ((allF fb b a p).1.length - 1) = (allF fs s a p).1.take ((allF fb b a p).1.length - 1)
  | 0, fs, a, p, h, _, _, _ => absurd h (Nat.not_lt_zero _)
  | fb + 1, fs, a, p, h1, h2, ha, h0 => by
    obtain ⟨fs, rfl⟩ : ∃ g, fs = g + 1 := ⟨fs - 1, by omega⟩
    have hlb := size_list b
    have hls := size_list s
    have hsz : b.size ≤ s.size := by rw [← hlb, ← hls, hs, List.length_append]; omega
    have hg := gap_le b a ha
    rw [allF] at h0 ⊢
    by_cases hend : a + gap b a = b.size
    · rw [if_pos hend]; simp
    · rw [if_neg hend] at h0 ⊢
      by_cases he : (oneR b (a + gap b a)).2.2 = 0
      · rw [if_pos he] at h0 ⊢
        simp only [List.length_cons, Nat.add_sub_cancel]
        have hmlt : a + gap b a < b.size := by omega
        have hle := oneR_le b (a + gap b a) hmlt
        have hlt := hle.2.2 he
        by_cases hrest : (allF fb b (oneR b (a + gap b a)).2.1 (adv (adv p (b.extract a (a + gap b a)).data.toList) (b.extract (a + gap b a) (oneR b (a + gap b a)).2.1).data.toList)).1 = []
        · rw [hrest]; simp
        · have hnz : (allF fb b (oneR b (a + gap b a)).2.1 (adv (adv p (b.extract a (a + gap b a)).data.toList) (b.extract (a + gap b a) (oneR b (a + gap b a)).2.1).data.toList)).1.length ≠ 0 := fun h => hrest (List.eq_nil_of_length_eq_zero h)
          obtain ⟨k, e, er, hone⟩ : ∃ k e er, oneR b (a + gap b a) = (k, e, er) := ⟨_, _, _, rfl⟩
          rw [hone] at he h0 hle hlt hrest hnz ⊢
          dsimp only at he h0 hle hlt hrest hnz ⊢
          subst he
          have hge := gap_le b e hle.2.1
          have hmore : e + gap b e < b.size ∧ (oneR b (e + gap b e)).2.2 = 0 := by
            obtain ⟨g, rfl⟩ : ∃ g, fb = g + 1 := ⟨fb - 1, by omega⟩
            rw [allF] at hrest
            by_cases hq : e + gap b e = b.size
            · rw [if_pos hq] at hrest; exact absurd rfl hrest
            · rw [if_neg hq] at hrest
              by_cases hq2 : (oneR b (e + gap b e)).2.2 = 0
              · exact ⟨by omega, hq2⟩
              · rw [if_neg hq2] at hrest; exact absurd rfl hrest
          have hs1 := one_begins b s y hs (a + gap b a) k e hmlt hone hmore.1 hmore.2
          have hgs : gap s a = gap b a := by
            rw [gap_list, gap_list, hs, List.drop_append_of_le_length (by omega)]
            refine gapL_append _ _ ?_
            rw [← gap_list]; simp; omega
          have hex : ∀ u v, v ≤ b.size → s.extract u v = b.extract u v := fun u v hv => by
            apply bs_ext
            rw [ext_list, ext_list, hs]
            by_cases hu : u ≤ b.data.toList.length
            · rw [List.drop_append_of_le_length hu, List.take_append_of_le_length (by simp; omega)]
            · rw [show v - u = 0 by omega, List.take_zero, List.take_zero]
          have htx : textOf s k (a + gap b a) e = textOf b k (a + gap b a) e := by
            unfold textOf; rw [hex _ _ hle.2.1]
          have hS : allF (fs + 1) s a p = (⟨k, textOf b k (a + gap b a) e, adv p (b.extract a (a + gap b a)).data.toList, feeds (b.extract a (a + gap b a)).data.toList⟩ :: (allF fs s e (adv (adv p (b.extract a (a + gap b a)).data.toList) (b.extract (a + gap b a) e).data.toList)).1, (allF fs s e (adv (adv p (b.extract a (a + gap b a)).data.toList) (b.extract (a + gap b a) e).data.toList)).2) := by
            rw [allF, hgs, if_neg (by omega), hs1, if_pos rfl]
            dsimp only
            rw [htx, hex _ _ (by omega), hex _ _ hle.2.1]
          rw [hS]
          have ih := begins_F b s y hs fb fs e (adv (adv p (b.extract a (a + gap b a)).data.toList) (b.extract (a + gap b a) e).data.toList) (by omega) (by omega) hle.2.1 h0
          obtain ⟨i1, i2⟩ := ih
          generalize (allF fb b e (adv (adv p (b.extract a (a + gap b a)).data.toList) (b.extract (a + gap b a) e).data.toList)).1 = L at *
          generalize (allF fs s e (adv (adv p (b.extract a (a + gap b a)).data.toList) (b.extract (a + gap b a) e).data.toList)).1 = M at *
          obtain ⟨n, hn⟩ : ∃ n, L.length = n + 1 := ⟨L.length - 1, by omega⟩
          rw [hn] at i1 i2 ⊢
          simp only [Nat.add_sub_cancel, List.length_cons] at i1 i2 ⊢
          refine ⟨by omega, ?_⟩
          rw [List.take_succ_cons, List.take_succ_cons, i2]
      · rw [if_neg he] at h0; exact absurd h0 he
theorem begins_R (b s : ByteArray) (y : List UInt8) (hs : s.data.toList = b.data.toList ++ y) (h : (allR b).2.1 = 0) :
    (allR b).1.length - 1 ≤ (allR s).1.length ∧ (allR b).1.take ((allR b).1.length - 1) = (allR s).1.take ((allR b).1.length - 1) :=
  begins_F b s y hs _ _ 0 _ (by omega) (by omega) (Nat.zero_le _) h
end Go.Proofs.YtgfloplakjmncaaDoor
