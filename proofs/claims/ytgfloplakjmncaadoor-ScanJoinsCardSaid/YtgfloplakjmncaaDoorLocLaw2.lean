/- Plain: a token of a text is a token of what goes on behind it. By an AI agent; no person has read it. -/
import Derived.Test.YtgfloplakjmncaaDoorEndLaws
set_option linter.unusedSimpArgs false
set_option linter.unusedVariables false
namespace Go.Proofs.YtgfloplakjmncaaDoor
open Go

theorem nextL_dec {a b : List UInt8} (ha : a ≠ []) (hb : b ≠ []) (h : dec a = dec b) : nextL a = nextL b := by
  unfold nextL
  rw [if_neg ha, if_neg hb]
  by_cases h1 : bad a
  · have h2 : bad b := h.symm.trans h1
    rw [if_pos h1, if_pos h2]
  · have h2 : ¬ bad b := fun h3 => h1 (h.trans h3)
    rw [if_neg h1, if_neg h2, h]
/-- No character goes on at a place: the ones ahead are the same, whatever follows. -/
theorem ag_append (l y : List UInt8) (e : Nat) (he : e ≤ l.length) (h1 : ¬ isc (l.drop e) 0) (h2 : ¬ isc (l.drop e ++ y) 0) : Ag l (l ++ y) e := by
  intro j hj
  have c1 := cut_of_stop (l.take e) (l.drop e) h1
  have c2 := cut_of_stop (l.take e) (l.drop e ++ y) h2
  have hlen : (l.take e).length = e := by simp; omega
  have s1 : l.drop j = (l.take e).drop j ++ l.drop e := by
    conv => lhs; rw [← List.take_append_drop e l]
    rw [List.drop_append_of_le_length (by omega)]
  have s2 : (l ++ y).drop j = (l.take e).drop j ++ (l.drop e ++ y) := by
    rw [List.drop_append_of_le_length (by omega), s1, List.append_assoc]
  have d1 := c1 j (by omega)
  have d2 := c2 j (by omega)
  have n1 : l.drop j ≠ [] := by intro h; have := congrArg List.length h; simp at this; omega
  have n2 : (l ++ y).drop j ≠ [] := by intro h; have := congrArg List.length h; simp at this; omega
  have hd : dec (l.drop j) = dec ((l ++ y).drop j) := by rw [s1, s2, d1, d2]
  exact nextL_dec n1 n2 hd
theorem prefix_append (l y z : List UInt8) (h : Lib.hasPrefix l z = true) : Lib.hasPrefix (l ++ y) z = true := by
  unfold Lib.hasPrefix at *
  rw [List.isPrefixOf_iff_prefix] at *
  exact h.trans (List.prefix_append l y)
theorem prefix_two (l y : List UInt8) (a b : UInt8) (hl : l ≠ []) (hy : 2 ≤ l.length ∨ y = [] ∨ (∃ z, y = 10 :: z) ∧ b ≠ 10) : Lib.hasPrefix (l ++ y) [a, b] = Lib.hasPrefix l [a, b] := by
  unfold Lib.hasPrefix
  rcases l with _ | ⟨c, _ | ⟨d, l⟩⟩
  · exact absurd rfl hl
  · rcases hy with h | h | ⟨⟨z, rfl⟩, h⟩
    · simp at h
    · subst h; simp
    · simp [List.isPrefixOf, h]
  · simp [List.isPrefixOf]
/-- What may follow a token. -/
def Nxt (l y : List UInt8) (e : Nat) : Prop := (e < l.length ∧ ¬ isc (l.drop e) 0 ∧ nextL (l.drop e) = nextL (l.drop e ++ y)) ∨ (e = l.length ∧ ∃ z, y = 10 :: z)
theorem isc_nl (z : List UInt8) : ¬ isc (10 :: z) 0 := by intro h; have := h.2.1; simp [bn] at this
theorem Nxt.ag {l y : List UInt8} {e : Nat} (h : Nxt l y e) : Ag l (l ++ y) e := by
  rcases h with ⟨h1, h2, _⟩ | ⟨rfl, z, rfl⟩
  · refine ag_append l y e (by omega) h2 ?_
    intro hc
    have := (isc_append (l.drop e) y 0 (by simp; omega)).1 hc
    exact h2 this
  · refine ag_append l _ _ (Nat.le_refl _) (by rw [List.drop_length]; intro h; exact absurd h.1 (by simp)) (by rw [List.drop_length, List.nil_append]; exact isc_nl z)
theorem next_nl (z : List UInt8) : nextL (10 :: z) = (10, 1, true) := by
  have hb : bn (10 :: z) 0 < 128 := by simp [bn]
  have hd := dec_1 (10 :: z) hb
  unfold nextL
  rw [if_neg (by simp), if_neg (by unfold bad; rw [hd]; simp [bn]), hd]
  simp [bn]
theorem Nxt.stp {l y : List UInt8} {e : Nat} (h : Nxt l y e) : Stp (l.drop e) ((l ++ y).drop e) := by
  rcases h with ⟨h1, h2, h3⟩ | ⟨rfl, z, rfl⟩
  · left; rw [List.drop_append_of_le_length (by omega)]; exact h3
  · right
    rw [List.drop_append_of_le_length (Nat.le_refl _), List.drop_length, List.nil_append]
    exact ⟨rfl, next_nl z⟩
theorem bs_take (l y : List UInt8) (k : Nat) (hk : k ≤ l.length) : (bs l).extract 0 k = (bs (l ++ y)).extract 0 k := by
  apply bs_ext
  rw [ext_list, ext_list, bs_list, bs_list, List.drop_zero, List.drop_zero, List.take_append_of_le_length (by omega)]
/-- A token stays a token. -/
theorem one_loc (l y : List UInt8) (k e : Nat) (h : oneR (bs l) 0 = (k, e, 0)) (hne : l ≠ []) (hn : Nxt l y e) : oneR (bs (l ++ y)) 0 = (k, e, 0) := by
  have hag := hn.ag
  have hst := hn.stp
  have hpos : 0 < l.length := List.length_pos_iff.2 hne
  have hle := oneR_le (bs l) 0 (by rw [bs_size]; exact hpos)
  rw [h] at hle
  have he0 : 0 < e := hle.2.2 rfl
  have hel : e ≤ l.length := by have := hle.2.1; rwa [bs_size] at this
  have h0 := hag.now he0
  have hy : 2 ≤ l.length ∨ y = [] ∨ (∃ z, y = 10 :: z) := by
    rcases hn with ⟨h1, _⟩ | ⟨_, z, hz⟩
    · left; omega
    · right; right; exact ⟨z, hz⟩
  have hy2 : ∀ b : UInt8, b ≠ 10 → 2 ≤ l.length ∨ y = [] ∨ (∃ z, y = 10 :: z) ∧ b ≠ 10 := fun b hb => by
    rcases hy with h | h | h
    · exact .inl h
    · exact .inr (.inl h)
    · exact .inr (.inr ⟨h, hb⟩)
  have hpre := prefix_two l y 47 47 hne (hy2 47 (by decide))
  have hhead : (l ++ y).getD 0 0 = l.getD 0 0 := by
    simp only [List.getD_eq_getElem?_getD, List.getElem?_append_left hpos]
  have hb := nextL_bounds l
  have hsz : (bs (l ++ y)).size = l.length + y.length := by rw [bs_size, List.length_append]
  unfold oneR at h ⊢
  simp only [bs_list, List.drop_zero, bs_size] at h ⊢
  rw [← h0, hpre, hhead]
  have hwid := hb.2.1
  have hw0 : 1 ≤ (nextL l).2.1 := hb.2.2.2.1 hne
  clear hb
  obtain ⟨x, hx⟩ : ∃ x, x = nextL l := ⟨_, rfl⟩
  rw [← hx] at h h0 hwid hw0 ⊢
  obtain ⟨v, n, g⟩ := x
  dsimp only at h hwid hw0 ⊢
  have hz : ∀ r : Nat, 0 + n - 0 ≤ r → r ≤ l.length → r - (0 + n - 0) < (l ++ y).length - (0 + n) + 1 := fun r h1 h2 => by rw [List.length_append]; omega
  have hagn : ∀ r : Nat, r = e → Ag (l.drop (0 + n)) ((l ++ y).drop (0 + n)) (r - (0 + n - 0)) := fun r hr => by
    have := hag.drop (0 + n); rwa [hr, show e - (0 + n - 0) = e - (0 + n) by omega]
  have hstn : ∀ r : Nat, r = e → n ≤ r → Stp ((l.drop (0 + n)).drop (r - (0 + n - 0))) (((l ++ y).drop (0 + n)).drop (r - (0 + n - 0))) := fun r hr hnr => by
    rw [List.drop_drop, List.drop_drop, show 0 + n + (r - (0 + n - 0)) = e by omega]; exact hst
  split
  · rename_i c1
    rw [if_pos c1] at h
    unfold namedR at h ⊢
    rw [bs_list, bs_size] at h
    rw [bs_list, bs_size]
    cases hf : namedF (l.length - (0 + n) + 1) (l.drop (0 + n)) (0 + n - 0) with
    | none => rw [hf] at h; simp [namedO] at h
    | some r =>
      rw [hf] at h
      have hr := namedF_le _ _ _ _ hf
      simp only [namedO, Prod.mk.injEq] at h
      have her : r = e := by omega
      have hf2 := named_loc _ _ ((l ++ y).drop (0 + n)) _ _ hf (hagn r her) (hstn r her (by omega)) ((l ++ y).length - (0 + n) + 1) (hz r (by omega) (by omega))
      rw [hf2]
      simp only [namedO]
      rw [← bs_take l y (0 + r) (by omega)]
      simp only [h.1, Prod.mk.injEq, true_and]
      exact ⟨by omega, trivial⟩
  · rename_i c1
    rw [if_neg c1] at h
    split
    · rename_i c2
      rw [if_pos c2] at h
      unfold numberedR at h ⊢
      rw [bs_list, bs_size] at h
      rw [bs_list, bs_size]
      cases hf : numberedF (l.length - (0 + n) + 1) (l.drop (0 + n)) (0 + n - 0) with
      | none => rw [hf] at h; simp [numberedO] at h
      | some r =>
        rw [hf] at h
        have hr := numberedF_le _ _ _ _ hf
        simp only [numberedO, Prod.mk.injEq] at h
        have her : r = e := by omega
        have hf2 := numbered_loc _ _ ((l ++ y).drop (0 + n)) _ _ hf (hagn r her) (hstn r her (by omega)) ((l ++ y).length - (0 + n) + 1) (hz r (by omega) (by omega))
        rw [hf2]
        simp only [numberedO, h.1, Prod.mk.injEq, true_and]
        exact ⟨by omega, trivial⟩
    · rename_i c2
      rw [if_neg c2] at h
      split
      · rename_i c3
        rw [if_pos c3] at h
        unfold quotedR at h ⊢
        rw [bs_list, bs_size] at h
        rw [bs_list, bs_size]
        generalize hf : quotedF (l.length - (0 + n) + 1) (l.drop (0 + n)) (0 + n - 0) = q at h
        obtain ⟨q1, q2, q3⟩ := q
        simp only [offR, Prod.mk.injEq] at h
        obtain ⟨rfl, h4, rfl⟩ := h
        have hr := (quotedF_le (l.length - (0 + n) + 1) (l.drop (0 + n)) (0 + n - 0)).2
        rw [hf] at hr
        have hr2 := hr rfl
        dsimp only at hr2
        have her : q2 = e := by omega
        have hf2 := quoted_loc _ _ ((l ++ y).drop (0 + n)) _ _ _ hf (hagn q2 her) ((l ++ y).length - (0 + n) + 1) (hz q2 hr2 (by omega))
        rw [hf2]
        simp only [offR, h4]
      · rename_i c3
        rw [if_neg c3] at h
        split
        · rename_i c4
          rw [if_pos c4] at h
          unfold singleR at h ⊢
          rw [bs_list] at h
          rw [bs_list]
          generalize hf : singleF (l.drop (0 + n)) (0 + n - 0) = q at h
          obtain ⟨q1, q2, q3⟩ := q
          simp only [offR, Prod.mk.injEq] at h
          obtain ⟨rfl, h4, rfl⟩ := h
          have her : q2 = e := by omega
          have hf2 := single_loc _ ((l ++ y).drop (0 + n)) _ _ _ hf (hagn q2 her)
          rw [hf2]
          simp only [offR, h4]
        · rename_i c4
          rw [if_neg c4] at h
          split
          · rename_i c5
            rw [if_pos c5] at h
            unfold commentR at h ⊢
            rw [bs_list, bs_size] at h
            rw [bs_list, bs_size]
            generalize hf : commentF (l.getD 0 0 == 47) (l.length - (0 + n) + 1) (l.drop (0 + n)) (0 + n - 0) = q at h
            obtain ⟨q1, q2, q3⟩ := q
            simp only [offR, Prod.mk.injEq] at h
            obtain ⟨rfl, h4, rfl⟩ := h
            have hr := (commentF_le (l.getD 0 0 == 47) (l.length - (0 + n) + 1) (l.drop (0 + n)) (0 + n - 0)).2
            rw [hf] at hr
            have hr2 := hr rfl
            dsimp only at hr2
            have her : q2 = e := by omega
            have hf2 := comment_loc _ _ _ ((l ++ y).drop (0 + n)) _ _ _ hf (hagn q2 her) (hstn q2 her (by omega)) ((l ++ y).length - (0 + n) + 1) (hz q2 hr2 (by omega))
            rw [hf2]
            simp only [offR, h4]
          · rename_i c5
            rw [if_neg c5] at h
            have hsg : signB ((bs (l ++ y)).extract 0 (l ++ y).length) = signB ((bs l).extract 0 l.length) := by
              have e1 : ((bs l).extract 0 l.length).data.toList = l := by rw [ext_list, bs_list, List.drop_zero, Nat.sub_zero, List.take_length]
              have e2 : ((bs (l ++ y)).extract 0 (l ++ y).length).data.toList = l ++ y := by rw [ext_list, bs_list, List.drop_zero, Nat.sub_zero, List.take_length]
              have z1 : ((bs l).extract 0 l.length).size = l.length := by rw [← size_list, e1]
              have z2 : ((bs (l ++ y)).extract 0 (l ++ y).length).size = (l ++ y).length := by rw [← size_list, e2]
              unfold signB
              rw [z1, z2, e1, e2, if_neg (show ¬ (l ++ y).length = 0 by rw [List.length_append]; omega), if_neg (show ¬ l.length = 0 by omega), hhead]
              have hfind : twoZs.find? (fun z => Lib.hasPrefix (l ++ y) z.data.toList) = twoZs.find? (fun z => Lib.hasPrefix l z.data.toList) := by
                have p1 := prefix_two l y 58 61 hne (hy2 61 (by decide))
                have p2 := prefix_two l y 46 46 hne (hy2 46 (by decide))
                have p3 := prefix_two l y 60 61 hne (hy2 61 (by decide))
                have p4 := prefix_two l y 62 61 hne (hy2 61 (by decide))
                simp only [twoZs, List.find?_cons, List.find?_nil, p1, p2, p3, p4]
              rw [hfind]
              have e3 : ((bs (l ++ y)).extract 0 (l ++ y).length).extract 0 1 = ((bs l).extract 0 l.length).extract 0 1 := by
                apply bs_ext; rw [ext_list ((bs (l ++ y)).extract 0 (l ++ y).length) 0 1, ext_list ((bs l).extract 0 l.length) 0 1, e1, e2, List.drop_zero, List.drop_zero, List.take_append_of_le_length (by omega)]
              rw [e3]
            rw [hsg]
            exact h
/-- A token begins with a good character. -/
theorem one_good (l : List UInt8) (k e : Nat) (h : oneR (bs l) 0 = (k, e, 0)) (hne : l ≠ []) : (nextL l).2.2 = true := by
  cases hg : (nextL l).2.2 with
  | true => rfl
  | false =>
    exfalso
    have hb : bad l := by
      unfold nextL at hg
      rw [if_neg hne] at hg
      split at hg
      · assumption
      · cases hg
    have hn : nextL l = (65533, 1, false) := by unfold nextL; rw [if_neg hne, if_pos hb]
    have h128 : ¬ bn l 0 < 128 := by intro h1; have := dec_1 l h1; rw [show dec l = (65533, 1) from hb] at this; simp at this; omega
    have hpos : 0 < l.length := List.length_pos_iff.2 hne
    unfold oneR at h
    simp only [bs_list, List.drop_zero, bs_size] at h
    rw [hn] at h
    have e1 : ((bs l).extract 0 l.length).data.toList = l := by rw [ext_list, bs_list]; simp
    have z1 : ((bs l).extract 0 l.length).size = l.length := by rw [← size_list, e1]
    have hp : ∀ a b : UInt8, a.toNat < 128 → Lib.hasPrefix l [a, b] = false := fun a b ha => by
      cases hh : Lib.hasPrefix l [a, b] with
      | false => rfl
      | true =>
        exfalso; apply h128
        have hpp := List.isPrefixOf_iff_prefix.1 (show ([a, b] : List UInt8).isPrefixOf l = true from hh)
        have := bn_prefix hpp 0 (by simp)
        rw [this]; exact ha
    rw [if_neg (by simp), if_neg (by simp), if_neg (by simp), if_neg (by simp), if_neg (by rw [hp 47 47 (by decide)]; simp)] at h
    have hs : signB ((bs l).extract 0 l.length) = ⟨#[]⟩ := by
      unfold signB
      rw [z1, e1, if_neg (by omega)]
      have hfind : twoZs.find? (fun z => Lib.hasPrefix l z.data.toList) = none := by
        simp only [twoZs, List.find?_cons, hp 58 61 (by decide), hp 46 46 (by decide), hp 60 61 (by decide), hp 62 61 (by decide), List.find?_nil]
      rw [hfind]
      dsimp only
      rw [if_neg]
      intro h2
      have hm := sign_mem h2
      have := one_small l hm
      exact h128 this
    rw [hs, if_pos (show (⟨#[]⟩ : ByteArray).size = 0 from rfl)] at h
    simp at h
/-- A good first character is the same, whatever follows. -/
theorem next_append (l y : List UInt8) (h : (nextL l).2.2 = true) : nextL (l ++ y) = nextL l ∧ ¬ isc l 0 := by
  obtain ⟨h1, h2, h3, h4⟩ := nextL_good h
  have hF := fin_take_good l 0 (by simpa using h1) (by simpa using h2)
  simp only [List.drop_zero, Nat.zero_add] at hF
  have hw := dec_width l h1
  have hc1 := hF (l.drop (dec l).2) 0 (by simp; omega)
  have hc2 := hF (l.drop (dec l).2 ++ y) 0 (by simp; omega)
  simp only [List.drop_zero] at hc1 hc2
  rw [← List.append_assoc, List.take_append_drop] at hc2
  rw [List.take_append_drop] at hc1
  have hd : dec (l ++ y) = dec l := hc2.trans hc1.symm
  refine ⟨?_, ?_⟩
  · exact nextL_dec (by simp [h1]) h1 hd
  · intro hc
    have hx := hc.2
    apply h2
    rcases dec_cases l with ⟨c1, e1⟩ | ⟨c1, e1⟩ | ⟨c1, e1⟩ | ⟨c1, e1⟩ | ⟨_, _, _, _, e1⟩
    · omega
    · have := c1.1; omega
    · have := c1.1; omega
    · have := c1.1; omega
    · exact e1
end Go.Proofs.YtgfloplakjmncaaDoor
