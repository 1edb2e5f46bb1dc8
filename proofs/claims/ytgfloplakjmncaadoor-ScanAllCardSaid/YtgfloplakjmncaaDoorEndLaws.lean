/- Plain: where tokens end, what they hang on, what they cover. By an AI agent; no person has read it. -/
import Derived.Test.YtgfloplakjmncaaDoorTxt
import Derived.Test.YtgfloplakjmncaaDoorScanA
import Derived.Test.YtgfloplakjmncaaDoorBase
import Derived.Test.YtgfloplakjmncaaDoorPlace
set_option linter.unusedSimpArgs false
set_option linter.unusedVariables false
namespace Go.Proofs.YtgfloplakjmncaaDoor
open Go
/-- At a place no character goes on. -/
def B (L : List UInt8) (a : Nat) : Prop := ∀ n, Cut (L.take a) ((L.drop a).take n)
theorem B_fin {L : List UInt8} {a : Nat} (h : Fin (L.take a)) : B L a := fun n => h _
theorem B_stop {L : List UInt8} {a : Nat} (h : ¬ isc (L.drop a) 0) : B L a := by
  intro n
  refine cut_of_stop _ _ ?_
  intro hc
  apply h
  obtain ⟨h1, h2⟩ := hc
  simp only [List.length_take] at h1
  have : bn ((L.drop a).take n) 0 = bn (L.drop a) 0 := by
    unfold bn; rw [List.getD_eq_getElem?_getD, List.getD_eq_getElem?_getD, List.getElem?_take, if_pos (by omega)]
  rw [this] at h2
  exact ⟨by omega, h2⟩
theorem fin_take_good (L : List UInt8) (e : Nat) (hne : L.drop e ≠ []) (hb : ¬ bad (L.drop e)) : Fin (L.take (e + (dec (L.drop e)).2)) := by
  have hw := dec_width _ hne
  have hd := dec_take (L.drop e) (dec (L.drop e)).2 hne (Nat.le_refl _)
  rw [List.take_add]
  refine fin_good _ _ ?_ ?_ ?_
  · unfold bad; rw [hd]; exact hb
  · intro h; have := congrArg List.length h; rw [List.length_take] at this; simp only [List.length_nil] at this; omega
  · rw [hd, List.length_take]; omega
theorem B_step (L : List UInt8) (e : Nat) (hF : Fin (L.take e)) (hne : L.drop e ≠ []) : B L (e + (dec (L.drop e)).2) := by
  by_cases hb : bad (L.drop e)
  · have hw : (dec (L.drop e)).2 = 1 := by rw [hb]
    rw [hw]
    have hel : e < L.length := by
      rcases Nat.lt_or_ge e L.length with h | h
      · exact h
      · exact absurd (List.drop_eq_nil_of_le h) hne
    intro n k hk
    have hlen : (L.take (e + 1)).length = e + 1 := by simp; omega
    rw [hlen] at hk
    have ht : L.take (e + 1) = L.take e ++ (L.drop e).take 1 := List.take_add
    by_cases hke : k < e
    · have h1 : (L.take (e + 1)).drop k = (L.take e).drop k ++ (L.drop e).take 1 := by
        rw [ht, List.drop_append_of_le_length (by simp; omega)]
      rw [h1, List.append_assoc, hF _ k (by simp; omega), hF _ k (by simp; omega)]
    · have hke2 : k = e := by omega
      subst hke2
      have h1 : (L.take (k + 1)).drop k = (L.drop k).take 1 := by rw [List.drop_take]; simp
      have h2 : (L.drop k).take 1 ++ (L.drop (k + 1)).take n = (L.drop k).take (1 + n) := by
        rw [List.take_add, List.drop_drop]
      rw [h1, h2, dec_take _ _ hne (by omega), dec_take _ _ hne (by omega)]
  · exact B_fin (fin_take_good L e hne hb)
/-- What char.Next says, taken apart. -/
theorem nextL_good {l : List UInt8} (h : (nextL l).2.2 = true) : l ≠ [] ∧ ¬ bad l ∧ (nextL l).2.1 = (dec l).2 ∧ (nextL l).1 = (dec l).1 := by
  unfold nextL at *
  split at h
  · cases h
  · split at h
    · cases h
    · rename_i h1 h2; rw [if_neg h1, if_neg h2]; exact ⟨h1, h2, rfl, rfl⟩
theorem nextL_small {l : List UInt8} (h0 : 0 < (nextL l).2.1) (h : (nextL l).1 < 65533) : (nextL l).2.2 = true := by
  unfold nextL at *
  split
  · rename_i h1; rw [if_pos h1] at h0; simp at h0
  · rename_i h1
    rw [if_neg h1] at h
    split
    · rename_i h2; rw [if_pos h2] at h; simp at h
    · rfl
theorem nextL_pos {l : List UInt8} (h : 0 < (nextL l).1) : 0 < (nextL l).2.1 := by
  unfold nextL at *
  split at h
  · simp at h
  · rename_i h1
    have hw := dec_width l h1
    rw [if_neg h1]
    split
    · simp
    · exact hw.1
theorem fin_next (L : List UInt8) (e : Nat) (h : (nextL (L.drop e)).2.2 = true) : Fin (L.take (e + (nextL (L.drop e)).2.1)) := by
  obtain ⟨h1, h2, h3, _⟩ := nextL_good h
  rw [h3]; exact fin_take_good L e h1 h2
theorem stop_small (L : List UInt8) (e : Nat) (h : (nextL (L.drop e)).2.1 = 0 ∨ (nextL (L.drop e)).1 < 128) : ¬ isc (L.drop e) 0 := by
  intro hc
  have hne : L.drop e ≠ [] := by intro h; rw [h] at hc; exact absurd hc.1 (by simp)
  have hp := (nextL_bounds (L.drop e)).2.2.2.1 hne
  have h1 : (nextL (L.drop e)).1 < 128 := by omega
  have hg := nextL_good (l := L.drop e) (nextL_small (l := L.drop e) (by omega) (by omega))
  rw [hg.2.2.2] at h1
  have h2 := hc.2
  have hd : dec (L.drop e) = (65533, 1) := by
    rcases dec_cases (L.drop e) with ⟨c1, e1⟩ | ⟨c1, e1⟩ | ⟨c1, e1⟩ | ⟨c1, e1⟩ | ⟨_, _, _, _, e1⟩
    · omega
    · have := c1.1; omega
    · have := c1.1; omega
    · have := c1.1; omega
    · exact e1
  exact hg.2.1 hd
theorem namedF_fin (L : List UInt8) : ∀ (f e k r : Nat), namedF f (L.drop e) k = some r → Fin (L.take e) → Fin (L.take (e + r - k))
  | 0, e, k, r, h, _ => by simp [namedF] at h
  | f + 1, e, k, r, h, hF => by
    rw [namedF] at h
    split at h
    · rename_i h1
      split at h
      · cases h
      · rw [List.drop_drop] at h
        have h2 := (namedF_le f _ _ r h).1
        have := namedF_fin L f (e + (nextL (L.drop e)).2.1) (k + (nextL (L.drop e)).2.1) r h (fin_next L e h1.1)
        rwa [show e + (nextL (L.drop e)).2.1 + r - (k + (nextL (L.drop e)).2.1) = e + r - k by omega] at this
    · injection h with h; subst h; rwa [show e + k - k = e by omega]
theorem numberedF_fin (L : List UInt8) : ∀ (f e k r : Nat), numberedF f (L.drop e) k = some r → Fin (L.take e) → Fin (L.take (e + r - k))
  | 0, e, k, r, h, _ => by simp [numberedF] at h
  | f + 1, e, k, r, h, hF => by
    rw [numberedF] at h
    split at h
    · rename_i h1
      split at h
      · cases h
      · rw [List.drop_drop] at h
        have h2 := (numberedF_le f _ _ r h).1
        have := numberedF_fin L f (e + (nextL (L.drop e)).2.1) (k + (nextL (L.drop e)).2.1) r h (fin_next L e (nextL_small h1.1 (by omega)))
        rwa [show e + (nextL (L.drop e)).2.1 + r - (k + (nextL (L.drop e)).2.1) = e + r - k by omega] at this
    · injection h with h; subst h; rwa [show e + k - k = e by omega]
/-- Where a text ends. -/
theorem quotedF_B (L : List UInt8) : ∀ (f e k : Nat), ((quotedF f (L.drop e) k).2.2 = 0 ∨ (quotedF f (L.drop e) k).2.2 = 102 → k ≤ (quotedF f (L.drop e) k).2.1 ∧ B L (e + (quotedF f (L.drop e) k).2.1 - k)) ∧ (¬ (quotedF f (L.drop e) k).2.2 = 0 → ¬ (quotedF f (L.drop e) k).2.2 = 102 → (quotedF f (L.drop e) k).2.1 = 0)
  | 0, e, k => by simp [quotedF]
  | f + 1, e, k => by
    rw [quotedF]
    split
    · simp
    · rename_i n0
      split
      · simp
      · split
        · simp
        · split
          · rename_i hc
            refine ⟨fun _ => ⟨Nat.le_refl _, ?_⟩, fun _ h => absurd rfl h⟩
            dsimp only
            rw [show e + k - k = e by omega]
            refine B_stop (stop_small L e (.inr ?_))
            unfold controlB at hc
            simp at hc
            omega
          · split
            · rename_i h34
              refine ⟨fun _ => ⟨by dsimp only; omega, ?_⟩, fun h => absurd rfl h⟩
              dsimp only
              rw [show e + (k + (nextL (L.drop e)).2.1) - k = e + (nextL (L.drop e)).2.1 by omega]
              exact B_fin (fin_next L e (nextL_small (by omega) (by omega)))
            · rw [List.drop_drop]
              have := quotedF_B L f (e + (nextL (L.drop e)).2.1) (k + (nextL (L.drop e)).2.1)
              refine ⟨fun h => ?_, this.2⟩
              obtain ⟨h1, h2⟩ := this.1 h
              refine ⟨by omega, ?_⟩
              rwa [show e + (nextL (L.drop e)).2.1 + (quotedF f (List.drop (e + (nextL (L.drop e)).2.1) L) (k + (nextL (L.drop e)).2.1)).2.1 - (k + (nextL (L.drop e)).2.1) = e + (quotedF f (List.drop (e + (nextL (L.drop e)).2.1) L) (k + (nextL (L.drop e)).2.1)).2.1 - k by omega] at h2
theorem commentF_B (line : Bool) (L : List UInt8) : ∀ (f e k : Nat), ((commentF line f (L.drop e) k).2.2 = 0 → k ≤ (commentF line f (L.drop e) k).2.1 ∧ B L (e + (commentF line f (L.drop e) k).2.1 - k)) ∧ (¬ (commentF line f (L.drop e) k).2.2 = 0 → (commentF line f (L.drop e) k).2.1 = 0 ∧ ¬ (commentF line f (L.drop e) k).2.2 = 102)
  | 0, e, k => by simp [commentF]
  | f + 1, e, k => by
    rw [commentF]
    split
    · rename_i n0
      split
      · refine ⟨fun _ => ⟨Nat.le_refl _, ?_⟩, fun h => absurd rfl h⟩
        dsimp only
        rw [show e + k - k = e by omega]
        exact B_stop (stop_small L e (.inl n0))
      · simp
    · rename_i n0
      split
      · rename_i h10
        refine ⟨fun _ => ⟨Nat.le_refl _, ?_⟩, fun h => absurd rfl h⟩
        dsimp only
        rw [show e + k - k = e by omega]
        exact B_stop (stop_small L e (.inr (by omega)))
      · split
        · simp
        · split
          · rename_i h125
            refine ⟨fun _ => ⟨by dsimp only; omega, ?_⟩, fun h => absurd rfl h⟩
            dsimp only
            rw [show e + (k + (nextL (L.drop e)).2.1) - k = e + (nextL (L.drop e)).2.1 by omega]
            exact B_fin (fin_next L e (nextL_small (by omega) (by omega)))
          · rw [List.drop_drop]
            have := commentF_B line L f (e + (nextL (L.drop e)).2.1) (k + (nextL (L.drop e)).2.1)
            refine ⟨fun h => ?_, this.2⟩
            obtain ⟨h1, h2⟩ := this.1 h
            refine ⟨by omega, ?_⟩
            rwa [show e + (nextL (L.drop e)).2.1 + (commentF line f (List.drop (e + (nextL (L.drop e)).2.1) L) (k + (nextL (L.drop e)).2.1)).2.1 - (k + (nextL (L.drop e)).2.1) = e + (commentF line f (List.drop (e + (nextL (L.drop e)).2.1) L) (k + (nextL (L.drop e)).2.1)).2.1 - k by omega] at h2
end Go.Proofs.YtgfloplakjmncaaDoor
namespace Go.Proofs.YtgfloplakjmncaaDoor
open Go
theorem nextL_width {l : List UInt8} (h : l ≠ []) : (nextL l).2.1 = (dec l).2 := by
  unfold nextL
  rw [if_neg h]
  split
  · rename_i h2; rw [h2]
  · rfl
theorem next_ne {L : List UInt8} {e : Nat} (h : ¬ (nextL (L.drop e)).2.1 = 0) : L.drop e ≠ [] := by
  intro h2; apply h; rw [h2]; rfl
theorem singleF_B (L : List UInt8) (e k : Nat) (hF : Fin (L.take e)) : ((singleF (L.drop e) k).2.2 = 0 ∨ (singleF (L.drop e) k).2.2 = 102 → k ≤ (singleF (L.drop e) k).2.1 ∧ B L (e + (singleF (L.drop e) k).2.1 - k)) ∧ (¬ (singleF (L.drop e) k).2.2 = 0 → ¬ (singleF (L.drop e) k).2.2 = 102 → (singleF (L.drop e) k).2.1 = 0) := by
  have here : ∀ r : Nat × Nat × Nat, r = (0, k, 102) → (r.2.2 = 0 ∨ r.2.2 = 102 → k ≤ r.2.1 ∧ B L (e + r.2.1 - k)) ∧ (¬ r.2.2 = 0 → ¬ r.2.2 = 102 → r.2.1 = 0) := by
    rintro r rfl
    refine ⟨fun _ => ⟨Nat.le_refl _, ?_⟩, fun _ h => absurd rfl h⟩
    dsimp only
    rw [show e + k - k = e by omega]
    exact B_fin hF
  unfold singleF
  rw [List.drop_drop]
  split
  · simp
  · rename_i n0
    split
    · simp
    · split
      · exact here _ rfl
      · split
        · exact here _ rfl
        · split
          · simp
          · rename_i m0
            split
            · simp
            · split
              · rename_i h39
                refine ⟨fun _ => ⟨by dsimp only; omega, ?_⟩, fun h => absurd rfl h⟩
                dsimp only
                rw [show e + (k + (nextL (L.drop e)).2.1 + (nextL (L.drop (e + (nextL (L.drop e)).2.1))).2.1) - k = e + (nextL (L.drop e)).2.1 + (nextL (L.drop (e + (nextL (L.drop e)).2.1))).2.1 by omega]
                exact B_fin (fin_next L _ (nextL_small (by omega) (by omega)))
              · refine ⟨fun _ => ⟨by dsimp only; omega, ?_⟩, fun _ h => absurd rfl h⟩
                dsimp only
                rw [show e + (k + (nextL (L.drop e)).2.1) - k = e + (nextL (L.drop e)).2.1 by omega, nextL_width (next_ne n0)]
                exact B_step L e hF (next_ne n0)
theorem bn_take (L : List UInt8) (n j : Nat) (h : j < n) : bn (L.take n) j = bn L j := by
  unfold bn; rw [List.getD_eq_getElem?_getD, List.getD_eq_getElem?_getD, List.getElem?_take, if_pos h]
theorem fin_bn (L : List UInt8) (n : Nat) (h0 : 0 < n) (hn : n ≤ L.length) (h : bn L (n - 1) < 128) : Fin (L.take n) := by
  have hl : (L.take n).length = n := by simp; omega
  refine fin_ascii _ (by omega) ?_
  rw [hl, bn_take _ _ _ (by omega)]; exact h
theorem two_small : ∀ z ∈ twoZs, z.size = 2 ∧ ∀ j, bn z.data.toList j < 128 := by
  intro z hz
  simp only [twoZs, List.mem_cons, List.not_mem_nil, or_false] at hz
  rcases hz with rfl | rfl | rfl | rfl <;> refine ⟨rfl, fun j => ?_⟩ <;> (rcases j with _ | _ | j <;> simp [bn])
theorem index_mem : ∀ (l : List UInt8) (c : UInt8), 0 ≤ Lib.indexByte l c → c ∈ l
  | [], c, h => by simp [Lib.indexByte] at h
  | b :: l, c, h => by
    rw [Lib.indexByte] at h
    split at h
    · rename_i hb; rw [beq_iff_eq] at hb; rw [hb]; exact List.mem_cons_self
    · split at h
      · omega
      · rename_i h1
        have h2 := Lib.indexByte_ge l c
        have h3 : ¬ Lib.indexByte l c = -1 := by simpa using h1
        exact List.mem_cons_of_mem _ (index_mem l c (by omega))
theorem one_small (l : List UInt8) (h : l.getD 0 0 ∈ oneSigns) : bn l (1 - 1) < 128 := by
  have : ∀ c ∈ oneSigns, c.toNat < 128 := by decide
  exact this _ h
theorem sign_mem {l : List UInt8} (h : 0 ≤ Lib.indexByte oneSigns (l.getD 0 0)) : l.getD 0 0 ∈ oneSigns := index_mem _ _ h
theorem bn_prefix {z l : List UInt8} (h : z <+: l) (j : Nat) (hj : j < z.length) : bn l j = bn z j := by
  obtain ⟨t, rfl⟩ := h
  exact bn_append z t j hj
theorem sign_fin (s : ByteArray) (m : Nat) (hg : ¬ (signB (s.extract m s.size)).size = 0) : Fin (s.data.toList.take (m + (signB (s.extract m s.size)).size)) := by
  have hex : (s.extract m s.size).data.toList = s.data.toList.drop m := by simp [List.take_of_length_le]
  have hsz : (s.extract m s.size).size = s.size - m := by simp
  have hle := signB_le (s.extract m s.size)
  have hlen : s.data.toList.length = s.size := by simp
  refine fin_bn _ _ (by omega) (by omega) ?_
  have key : bn (s.data.toList.drop m) ((signB (s.extract m s.size)).size - 1) < 128 := by
    unfold signB at hg ⊢
    by_cases h0 : (s.extract m s.size).size = 0
    · rw [if_pos h0] at hg; exact absurd rfl hg
    · rw [if_neg h0] at hg ⊢
      cases hf : twoZs.find? (fun z => Lib.hasPrefix (s.extract m s.size).data.toList z.data.toList) with
      | some z =>
        have hp0 := List.find?_some hf
        have hp := List.isPrefixOf_iff_prefix.1 (show z.data.toList.isPrefixOf (s.extract m s.size).data.toList = true from hp0)
        rw [hex] at hp
        obtain ⟨h2, h3⟩ := two_small z (List.mem_of_find?_eq_some hf)
        dsimp only
        rw [bn_prefix hp _ (by simp; omega)]
        exact h3 _
      | none =>
        rw [hf] at hg
        dsimp only at hg ⊢
        split
        · rename_i hi
          have h1 : ((s.extract m s.size).extract 0 1).size = 1 := by simp; omega
          rw [h1]
          have hmem := sign_mem hi
          rw [hex] at hmem
          exact one_small _ hmem
        · rename_i hi; rw [if_neg hi] at hg; exact absurd rfl hg
  rw [bn_drop] at key
  rwa [show m + (signB (s.extract m s.size)).size - 1 = m + ((signB (s.extract m s.size)).size - 1) by omega]
/-- Where a token, or what is wrong, ends. -/
theorem oneR_B (s : ByteArray) (m : Nat) (hm : m < s.size) (hB : B s.data.toList m) : B s.data.toList (oneR s m).2.1 := by
  have hlen : s.data.toList.length = s.size := by simp
  have hgood : (nextL (s.data.toList.drop m)).2.2 = true → Fin (s.data.toList.take (m + (nextL (s.data.toList.drop m)).2.1)) := fin_next _ m
  have hsm : 0 < (nextL (s.data.toList.drop m)).1 → (nextL (s.data.toList.drop m)).1 < 65533 → Fin (s.data.toList.take (m + (nextL (s.data.toList.drop m)).2.1)) := fun h1 h2 => hgood (nextL_small (nextL_pos h1) h2)
  unfold oneR
  generalize nextL (s.data.toList.drop m) = x at *
  obtain ⟨v, n, g⟩ := x
  dsimp only at *
  split
  · rename_i h
    have hF := hgood h.1
    unfold namedR
    cases h2 : namedF (s.size - (m + n) + 1) (s.data.toList.drop (m + n)) (m + n - m) with
    | none => exact hB
    | some r =>
      have h3 := namedF_fin _ _ _ _ _ h2 hF
      have h4 := (namedF_le _ _ _ _ h2).1
      dsimp only [namedO]
      rw [show m + n + r - (m + n - m) = m + r by omega] at h3
      exact B_fin h3
  · split
    · rename_i h
      have hF := hsm (by omega) (by omega)
      unfold numberedR
      cases h2 : numberedF (s.size - (m + n) + 1) (s.data.toList.drop (m + n)) (m + n - m) with
      | none => exact hB
      | some r =>
        have h3 := numberedF_fin _ _ _ _ _ h2 hF
        have h4 := (numberedF_le _ _ _ _ h2).1
        dsimp only [numberedO]
        rw [show m + n + r - (m + n - m) = m + r by omega] at h3
        exact B_fin h3
    · split
      · have h3 := quotedF_B s.data.toList (s.size - (m + n) + 1) (m + n) (m + n - m)
        simp only [quotedR, offR]
        generalize quotedF (s.size - (m + n) + 1) (s.data.toList.drop (m + n)) (m + n - m) = q at *
        by_cases h4 : q.2.2 = 0 ∨ q.2.2 = 102
        · obtain ⟨h5, h6⟩ := h3.1 h4
          rwa [show m + n + q.2.1 - (m + n - m) = m + q.2.1 by omega] at h6
        · rw [h3.2 (fun h => h4 (.inl h)) (fun h => h4 (.inr h))]; exact hB
      · split
        · rename_i h39
          have h3 := singleF_B s.data.toList (m + n) (m + n - m) (hsm (by omega) (by omega))
          simp only [singleR, offR]
          generalize singleF (s.data.toList.drop (m + n)) (m + n - m) = q at *
          by_cases h4 : q.2.2 = 0 ∨ q.2.2 = 102
          · obtain ⟨h5, h6⟩ := h3.1 h4
            rwa [show m + n + q.2.1 - (m + n - m) = m + q.2.1 by omega] at h6
          · rw [h3.2 (fun h => h4 (.inl h)) (fun h => h4 (.inr h))]; exact hB
        · split
          · have h3 := commentF_B (s.data.toList.getD m 0 == 47) s.data.toList (s.size - (m + n) + 1) (m + n) (m + n - m)
            simp only [commentR, offR]
            generalize commentF (s.data.toList.getD m 0 == 47) (s.size - (m + n) + 1) (s.data.toList.drop (m + n)) (m + n - m) = q at *
            by_cases h4 : q.2.2 = 0
            · obtain ⟨h5, h6⟩ := h3.1 h4
              rwa [show m + n + q.2.1 - (m + n - m) = m + q.2.1 by omega] at h6
            · rw [(h3.2 h4).1]; exact hB
          · split
            · exact hB
            · rename_i hg; exact B_fin (sign_fin s m hg)
/-- The bytes of a gap. -/
theorem dropWhile_split (p : UInt8 → Bool) : ∀ (l : List UInt8), ∃ k, k = l.length - (l.dropWhile p).length ∧ k ≤ l.length ∧ l.dropWhile p = l.drop k ∧ (∀ c ∈ l.take k, p c = true)
  | [] => ⟨0, rfl, Nat.le_refl _, rfl, by simp⟩
  | c :: l => by
    by_cases h : p c = true
    · obtain ⟨k, h1, h2, h3, h4⟩ := dropWhile_split p l
      have hle : (l.dropWhile p).length ≤ l.length := (List.dropWhile_sublist _).length_le
      refine ⟨k + 1, ?_, by simp; omega, ?_, ?_⟩
      · rw [List.dropWhile_cons, if_pos h]; simp only [List.length_cons]; omega
      · rw [List.dropWhile_cons, if_pos h, List.drop_succ_cons]; exact h3
      · intro d hd
        rw [List.take_succ_cons, List.mem_cons] at hd
        rcases hd with rfl | hd
        · exact h
        · exact h4 d hd
    · exact ⟨0, by rw [List.dropWhile_cons, if_neg h]; simp, Nat.zero_le _, by rw [List.dropWhile_cons, if_neg h]; rfl, by simp⟩
theorem gap_bytes (s : ByteArray) (a : Nat) : ∀ c ∈ (s.data.toList.drop a).take (gap s a), c = 32 ∨ c = 9 ∨ c = 13 ∨ c = 10 := by
  obtain ⟨k, h1, _, _, h4⟩ := dropWhile_split (([32, 9, 13, 10] : List UInt8).contains ·) (s.data.toList.drop a)
  have hk : gap s a = k := by unfold gap Lib.trimLeftS; exact h1.symm
  rw [hk]
  intro c hc
  have := h4 c hc
  simpa using this
theorem gap_B (s : ByteArray) (a : Nat) (ha : a ≤ s.size) (hB : B s.data.toList a) : B s.data.toList (a + gap s a) := by
  have hg := gap_bytes s a
  have hle := gap_le s a ha
  have hlen : s.data.toList.length = s.size := by simp
  by_cases h0 : gap s a = 0
  · rw [h0]; exact hB
  · refine B_fin (fin_bn _ _ (by omega) (by omega) ?_)
    rw [show a + gap s a - 1 = a + (gap s a - 1) by omega, ← bn_drop, ← bn_take _ (gap s a) _ (by omega)]
    have hl : ((s.data.toList.drop a).take (gap s a)).length = gap s a := by simp; omega
    have hm : ((s.data.toList.drop a).take (gap s a)).getD (gap s a - 1) 0 ∈ (s.data.toList.drop a).take (gap s a) := by
      rw [List.getD_eq_getElem?_getD, List.getElem?_eq_getElem (by omega)]; exact List.getElem_mem _
    have := hg _ hm
    unfold bn
    rcases this with h | h | h | h <;> rw [h] <;> decide
end Go.Proofs.YtgfloplakjmncaaDoor
namespace Go.Proofs.YtgfloplakjmncaaDoor
open Go
/-- A row of bytes as a text. -/
def bs (l : List UInt8) : ByteArray := ⟨l.toArray⟩
theorem bs_ext {s t : ByteArray} (h : s.data.toList = t.data.toList) : s = t := ByteArray.ext (Array.toList_inj.1 h)
theorem ext_list (s : ByteArray) (a b : Nat) : (s.extract a b).data.toList = (s.data.toList.drop a).take (b - a) := Lib.extract_data s a b
theorem bs_of (s : ByteArray) : bs s.data.toList = s := bs_ext rfl
theorem size_list (s : ByteArray) : s.data.toList.length = s.size := by simp
def Ag (l l' : List UInt8) (e : Nat) : Prop := ∀ j, j < e → nextL (l.drop j) = nextL (l'.drop j)
theorem Ag.drop {l l' : List UInt8} {e : Nat} (h : Ag l l' e) (n : Nat) : Ag (l.drop n) (l'.drop n) (e - n) := fun j hj => by
  rw [List.drop_drop, List.drop_drop]; exact h _ (by omega)
theorem Ag.now {l l' : List UInt8} {e : Nat} (h : Ag l l' e) (he : 0 < e) : nextL l = nextL l' := by simpa using h 0 he
end Go.Proofs.YtgfloplakjmncaaDoor
namespace Go.Proofs.YtgfloplakjmncaaDoor
open Go Go.RowKit
def blankB (c : UInt8) : Bool := c == 32 || c == 9 || c == 13
/-- What stands between tokens: how many line ends, or below 0. -/
def betw (l : List UInt8) : Int := if (l.all fun c => c == 10 || blankB c) = true then (l.count 10 : Nat) else -1
theorem betw_all {l : List UInt8} (h : (l.all fun c => c == 10 || blankB c) = true) : betw l = (l.count 10 : Nat) := if_pos h
theorem sub_snoc (s : ByteArray) (a i : Nat) (ha : a ≤ i) (hi : i < s.size) : (s.extract a (i + 1)).data.toList = (s.extract a i).data.toList ++ [s[i]'hi] := by
  rw [Lib.extract_data, Lib.extract_data, show i + 1 - a = (i - a) + 1 by omega, List.take_add_one, List.getElem?_drop, show a + (i - a) = i by omega, List.getElem?_eq_getElem (by simpa using hi)]
  rfl
end Go.Proofs.YtgfloplakjmncaaDoor
namespace Go.Proofs.YtgfloplakjmncaaDoor
open Go
theorem sub_list (s : ByteArray) (a b : Nat) : (s.extract a b).data.toList = (s.data.toList.drop a).take (b - a) := Lib.extract_data s a b
theorem adv_to (s : ByteArray) (a b : Nat) (hab : a ≤ b) (hB : B s.data.toList a) : adv (adv pl1 (s.data.toList.take a)) (s.extract a b).data.toList = adv pl1 (s.data.toList.take b) := by
  rw [sub_list, adv_adv _ _ _ (hB _), ← List.take_add, show a + (b - a) = b by omega]
theorem betw_append (x y : List UInt8) (hx : ∀ c ∈ x, blankB c = true) (hx2 : ∀ c ∈ x, c ≠ 10) : betw (x ++ y) = betw y := by
  unfold betw
  have h1 : (x.all fun c => c == 10 || blankB c) = true := List.all_eq_true.2 fun c hc => by rw [hx c hc]; simp
  have h2 : x.count 10 = 0 := List.count_eq_zero.2 fun h => hx2 10 h rfl
  rw [List.all_append, h1, Bool.true_and, List.count_append, h2, Nat.zero_add]
theorem betw_gap {l : List UInt8} (h : ∀ c ∈ l, c = 32 ∨ c = 9 ∨ c = 13 ∨ c = 10) : betw l = (l.count 10 : Nat) := by
  refine betw_all (List.all_eq_true.2 fun c hc => ?_)
  rcases h c hc with rfl | rfl | rfl | rfl <;> rfl
/-- What the law sees, token by token. -/
def Covd (s : ByteArray) : Nat → Nat → List Tk → Nat → Pl → Prop
  | a, h, [], er, q => (er = 0 → a ≤ s.size ∧ 0 ≤ betw (s.extract a s.size).data.toList) ∧ (er ≠ 0 → ∃ E, E ≤ s.size ∧ a ≤ E ∧ q = adv pl1 (s.data.toList.take E) ∧ (0 ≤ betw (s.extract a E).data.toList ∨ (er = 102 ∧ a < E)))
  | a, h, t :: ts, er, q => ∃ m, a ≤ m ∧ h ≤ m ∧ m + t.text.size ≤ s.size ∧ 0 < t.text.size ∧ t.place = adv pl1 (s.data.toList.take m) ∧ betw (s.extract a m).data.toList = t.feeds ∧ s.extract m (m + t.text.size) = t.text ∧
      adv (adv pl1 (s.data.toList.take h)) (s.extract h m).data.toList = adv pl1 (s.data.toList.take m) ∧ Covd s (m + t.text.size) m ts er q
theorem sub_split (s : ByteArray) (a b c : Nat) (h1 : a ≤ b) (h2 : b ≤ c) : (s.extract a c).data.toList = (s.extract a b).data.toList ++ (s.extract b c).data.toList := by
  rw [sub_list, sub_list, sub_list, show c - a = (b - a) + (c - b) by omega, List.take_add, List.drop_drop, show a + (b - a) = b by omega]
/-- Where an error stands. -/
theorem err_place (s : ByteArray) (m : Nat) (hm : m < s.size) (he : ¬ (oneR s m).2.2 = 0) : (oneR s m).2.1 = m ∨ ((oneR s m).2.2 = 102 ∧ m < (oneR s m).2.1) := by
  have hb := nextL_bounds (s.data.toList.drop m)
  have hn := hb.2.2.2.1 (by intro h; have := congrArg List.length h; simp at this; omega)
  clear hb
  unfold oneR at he ⊢
  generalize nextL (s.data.toList.drop m) = x at *
  obtain ⟨v, n, g⟩ := x
  dsimp only at *
  split
  · rename_i h; rw [if_pos h] at he
    unfold namedR at he ⊢
    cases h2 : namedF (s.size - (m + n) + 1) (s.data.toList.drop (m + n)) (m + n - m) with
    | none => exact .inl rfl
    | some r => rw [h2] at he; exact absurd rfl he
  · rename_i h; rw [if_neg h] at he
    split
    · rename_i h; rw [if_pos h] at he
      unfold numberedR at he ⊢
      cases h2 : numberedF (s.size - (m + n) + 1) (s.data.toList.drop (m + n)) (m + n - m) with
      | none => exact .inl rfl
      | some r => rw [h2] at he; exact absurd rfl he
    · rename_i h; rw [if_neg h] at he
      split
      · rename_i h; rw [if_pos h] at he
        have h3 := quotedF_B s.data.toList (s.size - (m + n) + 1) (m + n) (m + n - m)
        simp only [quotedR, offR] at he ⊢
        generalize quotedF (s.size - (m + n) + 1) (s.data.toList.drop (m + n)) (m + n - m) = q at *
        by_cases h4 : q.2.2 = 102
        · have := (h3.1 (.inr h4)).1; exact .inr ⟨h4, by omega⟩
        · left; rw [h3.2 he h4]; rfl
      · rename_i h; rw [if_neg h] at he
        split
        · rename_i h39; rw [if_pos h39] at he
          have hF : Fin (s.data.toList.take (m + n)) ∨ True := .inr trivial
          simp only [singleR, offR] at he ⊢
          have h3 : (¬ (singleF (s.data.toList.drop (m + n)) (m + n - m)).2.2 = 0 → ¬ (singleF (s.data.toList.drop (m + n)) (m + n - m)).2.2 = 102 → (singleF (s.data.toList.drop (m + n)) (m + n - m)).2.1 = 0) ∧ ((singleF (s.data.toList.drop (m + n)) (m + n - m)).2.2 = 102 → m + n - m ≤ (singleF (s.data.toList.drop (m + n)) (m + n - m)).2.1) := by
            unfold singleF
            repeat' split
            all_goals simp
            all_goals omega
          generalize singleF (s.data.toList.drop (m + n)) (m + n - m) = q at *
          by_cases h4 : q.2.2 = 102
          · have := h3.2 h4; exact .inr ⟨h4, by omega⟩
          · left; rw [h3.1 he h4]; rfl
        · rename_i h; rw [if_neg h] at he
          split
          · rename_i h; rw [if_pos h] at he
            have h3 := commentF_B (s.data.toList.getD m 0 == 47) s.data.toList (s.size - (m + n) + 1) (m + n) (m + n - m)
            simp only [commentR, offR] at he ⊢
            generalize commentF (s.data.toList.getD m 0 == 47) (s.size - (m + n) + 1) (s.data.toList.drop (m + n)) (m + n - m) = q at *
            left; rw [(h3.2 he).1]; rfl
          · rename_i h; rw [if_neg h] at he
            split
            · exact .inl rfl
            · rename_i hg; rw [if_neg hg] at he; exact absurd rfl he
end Go.Proofs.YtgfloplakjmncaaDoor
namespace Go.Proofs.YtgfloplakjmncaaDoor
open Go
theorem quotedF_7 : ∀ (f : Nat) (l : List UInt8) (k : Nat), (quotedF f l k).1 ≠ 7
  | 0, l, k => by simp [quotedF]
  | f + 1, l, k => by
    rw [quotedF]
    repeat' split
    all_goals first | (simp; done) | exact quotedF_7 f _ _
theorem singleF_7 (l : List UInt8) (k : Nat) : (singleF l k).1 ≠ 7 := by
  unfold singleF
  repeat' split
  all_goals simp
theorem commentF_7 (line : Bool) : ∀ (f : Nat) (l : List UInt8) (k : Nat), (commentF line f l k).1 = 7 → line = true
  | 0, l, k, h => by simp [commentF] at h
  | f + 1, l, k, h => by
    rw [commentF] at h
    split at h
    · split at h
      · assumption
      · simp at h
    · split at h
      · rename_i h1; exact h1.1
      · split at h
        · simp at h
        · split at h
          · simp at h
          · exact commentF_7 line f _ _ h
theorem oneR_7 (s : ByteArray) (m : Nat) (h : (oneR s m).1 = 7) : s.data.toList.getD m 0 = 47 := by
  unfold oneR at h
  split at h
  · unfold namedR at h
    cases h2 : namedF (s.size - (m + (nextL (s.data.toList.drop m)).2.1) + 1) (s.data.toList.drop (m + (nextL (s.data.toList.drop m)).2.1)) (m + (nextL (s.data.toList.drop m)).2.1 - m) with
    | none => rw [h2] at h; simp [namedO] at h
    | some r => rw [h2] at h; simp only [namedO] at h; split at h <;> omega
  · split at h
    · unfold numberedR at h
      cases h2 : numberedF (s.size - (m + (nextL (s.data.toList.drop m)).2.1) + 1) (s.data.toList.drop (m + (nextL (s.data.toList.drop m)).2.1)) (m + (nextL (s.data.toList.drop m)).2.1 - m) with
      | none => rw [h2] at h; simp [numberedO] at h
      | some r => rw [h2] at h; simp [numberedO] at h
    · split at h
      · exact absurd h (quotedF_7 _ _ _)
      · split at h
        · exact absurd h (singleF_7 _ _)
        · split at h
          · have := commentF_7 _ _ _ _ h
            exact beq_iff_eq.1 this
          · split at h <;> simp at h
theorem text_facts (s : ByteArray) (k m e : Nat) (hme : m < e) (he : e ≤ s.size) (h7 : k = 7 → s.data.toList.getD m 0 = 47) :
    0 < (textOf s k m e).size ∧ m + (textOf s k m e).size ≤ e ∧ s.extract m (m + (textOf s k m e).size) = textOf s k m e ∧ ∀ c ∈ (s.extract (m + (textOf s k m e).size) e).data.toList, c = 32 ∨ c = 9 ∨ c = 13 := by
  have hl : (s.extract m e).data.toList.length = e - m := by simp; omega
  by_cases hk : k = 7
  · have h47 := h7 hk
    obtain ⟨j, h1, h2, h3, h4⟩ := dropWhile_split (([32, 9, 13] : List UInt8).contains ·) (s.extract m e).data.toList.reverse
    rw [List.length_reverse, hl] at h2
    have ht : Lib.trimRightS (s.extract m e).data.toList [32, 9, 13] = (s.extract m e).data.toList.take (e - m - j) := by
      unfold Lib.trimRightS
      rw [h3, List.drop_reverse, List.reverse_reverse, hl]
    have htx : textOf s k m e = s.extract m (m + (e - m - j)) := by
      unfold textOf
      rw [if_pos hk, ht]
      apply ByteArray.ext
      apply Array.toList_inj.1
      rw [sub_list, sub_list, List.take_take, show m + (e - m - j) - m = e - m - j by omega, Nat.min_eq_left (by omega)]
    have hsz : (textOf s k m e).size = e - m - j := by rw [htx]; simp; omega
    have hb : ∀ c ∈ (s.extract m e).data.toList.drop (e - m - j), c = 32 ∨ c = 9 ∨ c = 13 := by
      intro c hc
      have := h4 c (by rw [List.take_reverse, hl, List.mem_reverse]; exact hc)
      simpa using this
    have hpos : 0 < e - m - j := by
      rcases Nat.eq_zero_or_pos (e - m - j) with h0 | h0
      · exfalso
        rw [h0, List.drop_zero] at hb
        have hm : (47 : UInt8) ∈ (s.extract m e).data.toList := by
          rw [sub_list]
          refine List.mem_of_getElem? (i := 0) ?_
          rw [List.getElem?_take, if_pos (by omega), List.getElem?_drop, Nat.add_zero, ← h47, List.getD_eq_getElem?_getD, List.getElem?_eq_getElem (by simp; omega)]
          rfl
        have := hb 47 hm
        revert this; decide
      · exact h0
    rw [hsz]
    refine ⟨hpos, by omega, htx.symm, ?_⟩
    intro c hc
    refine hb c ?_
    rw [sub_list] at hc ⊢
    rw [List.drop_take, List.drop_drop]
    rwa [show e - m - (e - m - j) = e - (m + (e - m - j)) by omega]
  · have htx : textOf s k m e = s.extract m e := by unfold textOf; rw [if_neg hk]
    have hsz : (s.extract m e).size = e - m := by simp; omega
    rw [htx, hsz, show m + (e - m) = e by omega]
    refine ⟨by omega, by omega, rfl, ?_⟩
    intro c hc
    rw [sub_list, Nat.sub_self] at hc
    simp at hc
theorem all_cov (s : ByteArray) : ∀ (f a b h : Nat) (p : Pl), s.size - a < f → a ≤ s.size → B s.data.toList a → p = adv pl1 (s.data.toList.take a) → b ≤ a → h ≤ b → B s.data.toList h →
    (∀ c ∈ (s.extract b a).data.toList, c = 32 ∨ c = 9 ∨ c = 13) → Covd s b h (allF f s a p).1 (allF f s a p).2.1 (allF f s a p).2.2
  | 0, a, b, h, p, hf, _, _, _, _, _, _, _ => absurd hf (Nat.not_lt_zero _)
  | f + 1, a, b, h, p, hf, ha, hB, hp, hba, hhb, hBh, hbl => by
    have hg := gap_le s a ha
    have hBm := gap_B s a ha hB
    have hgb := gap_bytes s a
    have hsub : (s.extract a (a + gap s a)).data.toList = (s.data.toList.drop a).take (gap s a) := by rw [sub_list, show a + gap s a - a = gap s a by omega]
    rw [← hsub] at hgb
    have hbet : betw (s.extract b (a + gap s a)).data.toList = (feeds (s.extract a (a + gap s a)).data.toList : Nat) := by
      rw [sub_split s b a (a + gap s a) hba (by omega), betw_append _ _ (fun c hc => by rcases hbl c hc with rfl | rfl | rfl <;> rfl) (fun c hc => by rcases hbl c hc with rfl | rfl | rfl <;> decide), betw_gap hgb]
      rfl
    have hpm : adv p (s.extract a (a + gap s a)).data.toList = adv pl1 (s.data.toList.take (a + gap s a)) := by rw [hp]; exact adv_to s a _ (by omega) hB
    rw [allF]
    generalize hm : a + gap s a = m at *
    split
    · rename_i hend
      refine ⟨fun _ => ⟨by omega, ?_⟩, fun h => absurd rfl h⟩
      rw [← hend, hbet]; omega
    · rename_i hend
      have hmlt : m < s.size := by omega
      have hle := oneR_le s m hmlt
      have hBe := oneR_B s m hmlt hBm
      have he : adv (adv pl1 (s.data.toList.take m)) (s.extract m (oneR s m).2.1).data.toList = adv pl1 (s.data.toList.take (oneR s m).2.1) := adv_to s m _ hle.1 hBm
      split
      · rename_i h0
        have h3 := hle.2.2 h0
        obtain ⟨t1, t2, t3, t4⟩ := text_facts s (oneR s m).1 m (oneR s m).2.1 h3 hle.2.1 (oneR_7 s m)
        refine ⟨m, by omega, by omega, by dsimp only; omega, t1, hpm, hbet, t3, adv_to s h m (by omega) hBh, ?_⟩
        rw [hpm, he]
        exact all_cov s f _ _ _ _ (by omega) hle.2.1 hBe rfl t2 (by omega) hBm t4
      · rename_i h0
        refine ⟨fun h => absurd h h0, fun _ => ⟨(oneR s m).2.1, hle.2.1, by omega, by rw [hpm, he], ?_⟩⟩
        rcases err_place s m hmlt h0 with h1 | ⟨h1, h2⟩
        · left; rw [h1, hbet]; omega
        · right; exact ⟨h1, by omega⟩
theorem allR_cov (s : ByteArray) : Covd s 0 0 (allR s).1 (allR s).2.1 (allR s).2.2 := by
  have hB : B s.data.toList 0 := B_fin (by rw [List.take_zero]; exact fin_nil)
  refine all_cov s (s.size + 1) 0 0 0 _ (by omega) (Nat.zero_le _) hB ?_ (Nat.le_refl _) (Nat.le_refl _) hB ?_
  · rw [List.take_zero]; exact (adv_nil pl1 (by simp [Pl.ok, okI])).symm
  · intro c hc; rw [sub_list] at hc; simp at hc
theorem covd_len (s : ByteArray) : ∀ (l : List Tk) (a h er : Nat) (q : Pl), Covd s a h l er q → l ≠ [] → a + l.length ≤ s.size
  | [], _, _, _, _, _, hn => absurd rfl hn
  | t :: ts, a, h, er, q, hc, _ => by
    obtain ⟨m, h1, _, h3, h4, _, _, _, _, hc2⟩ := hc
    by_cases hts : ts = []
    · subst hts; simp; omega
    · have := covd_len s ts _ _ er q hc2 hts
      simp; omega
theorem adv_at0 (s : ByteArray) (E : Nat) (hE : E ≤ s.size) (hs : s.size < 4611686018427387904) : (adv pl1 (s.data.toList.take E)).at_ = E := by
  have h1 : (s.data.toList.take E).length = E := by simp; omega
  show RowKit.wrap64 (0 + ((s.data.toList.take E).length : Int)) = E
  rw [h1, wrap_ok (by unfold okI; omega)]; omega
end Go.Proofs.YtgfloplakjmncaaDoor
