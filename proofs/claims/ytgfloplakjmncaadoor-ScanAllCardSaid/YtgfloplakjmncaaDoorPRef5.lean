/- The printed reference of package scan: what Find and All come to. By an AI agent; no person has read it. -/
import Derived.Test.YtgfloplakjmncaaDoorPRef4
import Derived.Test.YtgfloplakjmncaaDoorPScanx10
set_option linter.unusedSimpArgs false
set_option linter.unusedVariables false
namespace Go.Proofs.YtgfloplakjmncaaDoor.PScan
open Go Go.RowKit Go.Proofs.YtgfloplakjmncaaDoor Go.Proofs.YtgfloplakjmncaaDoorW.PrintWords Go.Proofs.YtgfloplakjmncaaDoorW.PrintLast
/-- How many bytes stand ahead of what is wrong. -/
def allE : Nat → ByteArray → Nat → Nat
  | 0, _, _ => 0
  | f + 1, s, a => if a + gap s a = s.size then 0 else if (oneR s (a + gap s a)).2.2 = 0 then allE f s (oneR s (a + gap s a)).2.1 else (oneR s (a + gap s a)).2.1
theorem allE_le (s : ByteArray) : ∀ (f a : Nat), a ≤ s.size → allE f s a ≤ s.size
  | 0, a, _ => Nat.zero_le _
  | f + 1, a, ha => by
    have hg := gap_le s a ha
    rw [allE]
    split
    · exact Nat.zero_le _
    · rename_i h
      have hle := oneR_le s (a + gap s a) (by omega)
      split
      · exact allE_le s f _ hle.2.1
      · exact hle.2.1
theorem allE_place (s : ByteArray) : ∀ (f a : Nat) (p : Pl), s.size - a < f → a ≤ s.size → B s.data.toList a → p = adv pl1 (s.data.toList.take a) → (allF f s a p).2.1 ≠ 0 → (allF f s a p).2.2 = adv pl1 (s.data.toList.take (allE f s a))
  | 0, a, p, h, _, _, _, _ => absurd h (Nat.not_lt_zero _)
  | f + 1, a, p, h, ha, hB, hp, he => by
    have hg := gap_le s a ha
    have hBm := gap_B s a ha hB
    rw [allF] at he ⊢
    rw [allE]
    by_cases hend : a + gap s a = s.size
    · rw [if_pos hend] at he; exact absurd rfl he
    · rw [if_neg hend] at he ⊢
      rw [if_neg hend]
      have hmlt : a + gap s a < s.size := by omega
      have hle := oneR_le s (a + gap s a) hmlt
      have hBe := oneR_B s (a + gap s a) hmlt hBm
      have hpm : adv p (s.extract a (a + gap s a)).data.toList = adv pl1 (s.data.toList.take (a + gap s a)) := by rw [hp]; exact adv_to s a _ (by omega) hB
      have hpe := adv_to s (a + gap s a) (oneR s (a + gap s a)).2.1 hle.1 hBm
      by_cases h0 : (oneR s (a + gap s a)).2.2 = 0
      · rw [if_pos h0] at he ⊢
        rw [if_pos h0]
        have hlt := hle.2.2 h0
        exact allE_place s f _ _ (by omega) hle.2.1 hBe (by rw [hpm, hpe]) he
      · rw [if_neg h0] at he ⊢
        rw [if_neg h0]
        rw [hpm, hpe]
theorem gap_in (s : ByteArray) (a j : Nat) (ha : a ≤ s.size) (hj : j < gap s a) : bn (s.data.toList.drop (a + j)) 0 = 32 ∨ bn (s.data.toList.drop (a + j)) 0 = 9 ∨ bn (s.data.toList.drop (a + j)) 0 = 13 ∨ bn (s.data.toList.drop (a + j)) 0 = 10 := by
  have hg := gap_le s a ha
  have hb := gap_bytes s a (s.data.toList.getD (a + j) 0) (by
    refine List.mem_of_getElem? (i := j) ?_
    rw [List.getElem?_take, if_pos hj, List.getElem?_drop, List.getElem?_eq_getElem (by rw [size_list]; omega), List.getD_eq_getElem?_getD, List.getElem?_eq_getElem (by rw [size_list]; omega)]
    rfl)
  have e : bn (s.data.toList.drop (a + j)) 0 = (s.data.toList.getD (a + j) 0).toNat := by rw [bn_drop]; rfl
  rw [e]
  rcases hb with h | h | h | h <;> rw [h] <;> decide
theorem gap_stop (s : ByteArray) (a : Nat) (ha : a + gap s a < s.size) : ¬ bn (s.data.toList.drop (a + gap s a)) 0 = 32 ∧ ¬ bn (s.data.toList.drop (a + gap s a)) 0 = 9 ∧ ¬ bn (s.data.toList.drop (a + gap s a)) 0 = 13 ∧ ¬ bn (s.data.toList.drop (a + gap s a)) 0 = 10 := by
  obtain ⟨k, h1, h2, h3, h4⟩ := dropWhile_split (([32, 9, 13, 10] : List UInt8).contains ·) (s.data.toList.drop a)
  have hk : gap s a = k := by rw [gap_list]; exact h1.symm
  rw [hk] at ha ⊢
  have h5 : s.data.toList.drop (a + k) = (s.data.toList.drop a).dropWhile (([32, 9, 13, 10] : List UInt8).contains ·) := by rw [h3, List.drop_drop]
  have hne := drop_ne ha
  rw [h5] at hne ⊢
  have h6 := List.head_dropWhile_not (([32, 9, 13, 10] : List UInt8).contains ·) hne
  generalize (s.data.toList.drop a).dropWhile (([32, 9, 13, 10] : List UInt8).contains ·) = X at *
  rcases X with _ | ⟨c, X⟩
  · exact absurd rfl hne
  · simp only [List.head_cons, List.contains_cons, List.contains_nil, Bool.or_false, Bool.or_eq_false_iff, beq_eq_false_iff_ne] at h6
    simp only [bn, List.getD_cons_zero]
    refine ⟨fun h => h6.1 (UInt8.toNat_inj.1 (by rw [h]; rfl)), fun h => h6.2.1 (UInt8.toNat_inj.1 (by rw [h]; rfl)), fun h => h6.2.2.1 (UInt8.toNat_inj.1 (by rw [h]; rfl)), fun h => h6.2.2.2 (UInt8.toNat_inj.1 (by rw [h]; rfl))⟩
theorem find_gap (s : ByteArray) (hs : s.size < 1099511627776) (a : Nat) (acc : List S35) (e1 e2 p1 p2 p3 : Int) (r : List S35 × Int × Int) (ha : a ≤ s.size) (d : Nat) : ∀ j : Nat, j ≤ gap s a → gap s a - j = d →
    Ev (fun k => colophonref10_Find.l0 k s (feeds (s.extract a (a + gap s a)).data.toList : Int) ((a + gap s a : Nat) : Int) acc e1 e2 p1 p2 p3) r → Ev (fun k => colophonref10_Find.l0 k s (feeds (s.extract a (a + j)).data.toList : Int) ((a + j : Nat) : Int) acc e1 e2 p1 p2 p3) r := by
  have hg := gap_le s a ha
  induction d with
  | zero => intro j hj hd h; rw [show j = gap s a by omega]; exact h
  | succ d ih =>
    intro j hj hd h
    have hrec := ih (j + 1) (by omega) (by omega) h
    have hin := gap_in s a j ha (by omega)
    have hlt : a + j < s.size := by omega
    have hb := bt_bn0 s (a + j) hlt
    have d1 : ((a + j : Nat) : Int) < (s.size : Int) := by omega
    have d2 : (0 : Int) ≤ ((a + j : Nat) : Int) := by omega
    have hfl : feeds (s.extract a (a + j)).data.toList ≤ s.size := by
      have h1 : feeds (s.extract a (a + j)).data.toList ≤ (s.extract a (a + j)).data.toList.length := List.count_le_length
      rw [ext_list, List.length_take, List.length_drop, size_list] at h1
      rw [ext_list]; omega
    have hsn : (s.extract a (a + (j + 1))).data.toList = (s.extract a (a + j)).data.toList ++ [s[a + j]'hlt] := sub_snoc s a (a + j) (by omega) hlt
    have hbn : bn (s.data.toList.drop (a + j)) 0 = (s[a + j]'hlt).toNat := by
      rw [bn_drop, Nat.add_zero]
      unfold bn
      rw [List.getD_eq_getElem?_getD, List.getElem?_eq_getElem (by rw [size_list]; exact hlt)]
      rfl
    have hfe : feeds (s.extract a (a + (j + 1))).data.toList = feeds (s.extract a (a + j)).data.toList + if bn (s.data.toList.drop (a + j)) 0 = 10 then 1 else 0 := by
      rw [hsn, feeds_append]
      congr 1
      rw [hbn]
      by_cases hc : s[a + j]'hlt = 10
      · rw [hc]; rfl
      · rw [if_neg (fun h => hc (UInt8.toNat_inj.1 (by rw [h]; rfl)))]
        simp [feeds, hc]
    rw [hfe] at hrec
    have hw := wr_s (a + j) (by omega)
    have hwf := wr_s (feeds (s.extract a (a + j)).data.toList) (by omega)
    have hj2 : ∀ x5 : Int, Ev (fun k => colophonref10_Find.l0 k s x5 ((a + j + 1 : Nat) : Int) acc e1 e2 p1 p2 p3) r → Ev (fun k => colophonref10_Find.j2 k s x5 ((a + j : Nat) : Int) true acc e1 e2 p1 p2 p3) r := fun x5 h => by
      refine Ev.step (fun k => ?_) h
      simp only [colophonref10_Find.j2, if_true, hw]
    by_cases h10 : bn (s.data.toList.drop (a + j)) 0 = 10
    · rw [if_pos h10] at hrec
      have e10 : (bn (s.data.toList.drop (a + j)) 0 : Int) = 10 := by omega
      refine Ev.step (f := fun k => colophonref10_Find.j1 k s ((feeds (s.extract a (a + j)).data.toList + 1 : Nat) : Int) ((a + j : Nat) : Int) acc e1 e2 p1 p2 p3) (fun k => ?_) (Ev.step (fun k => ?_) (hj2 _ hrec))
      · simp only [colophonref10_Find.l0, if_pos d1, if_pos d2, hb, if_pos e10, hwf]
      · simp only [colophonref10_Find.j1, if_pos d1, if_pos d2, hb, if_pos e10]
    · rw [if_neg h10, Nat.add_zero] at hrec
      have e10 : ¬ (bn (s.data.toList.drop (a + j)) 0 : Int) = 10 := by omega
      have hbl : decide (bn (s.data.toList.drop (a + j)) 0 = 32 ∨ bn (s.data.toList.drop (a + j)) 0 = 9 ∨ bn (s.data.toList.drop (a + j)) 0 = 13) = true := decide_eq_true (by omega)
      refine Ev.step (f := fun k => colophonref10_Find.j1 k s (feeds (s.extract a (a + j)).data.toList : Int) ((a + j : Nat) : Int) acc e1 e2 p1 p2 p3) (fun k => ?_) (Ev.step (fun k => ?_) (hj2 _ hrec))
      · simp only [colophonref10_Find.l0, if_pos d1, if_pos d2, hb, if_neg e10]
      · simp only [colophonref10_Find.j1, if_pos d1, if_pos d2, hb, if_neg e10, rblank_f, hbl, Option.bind_some]
theorem trimRight_snoc (l : List UInt8) (c : UInt8) (cs : List UInt8) : Lib.trimRightS (l ++ [c]) cs = if cs.contains c = true then Lib.trimRightS l cs else l ++ [c] := by
  unfold Lib.trimRightS
  rw [List.reverse_append, List.reverse_singleton, List.singleton_append, List.dropWhile_cons]
  by_cases h : cs.contains c = true
  · rw [if_pos h, if_pos h]
  · rw [if_neg h, if_neg h]; simp
theorem find_trim (s : ByteArray) (acc : List S35) (ha : acc.length < 2513169434916) (e1 e2 p1 p2 p3 e er kd q1 q2 q3 fe : Int) (r : List S35 × Int × Int) (n : Nat) : ∀ (x : ByteArray), x.size = n → x.size < 1099511627776 → 0 < x.size → bn x.data.toList 0 = 47 →
    Ev (fun k => colophonref10_Find.l0 k s 0 e (acc ++ [(⟨kd, ⟨(Lib.trimRightS x.data.toList [32, 9, 13]).toArray⟩, (⟨q1, q2, q3⟩ : S26), fe⟩ : S35)]) e1 e2 p1 p2 p3) r → Ev (fun k => colophonref10_Find.l1 k s 7 acc e1 e2 p1 p2 p3 e er kd x q1 q2 q3 fe) r := by
  induction n with
  | zero => intro x hx _ h0; omega
  | succ n ih =>
    intro x hx hlt h0 h47 h
    have hlast : ∃ c : UInt8, x.data.toList = (x.extract 0 n).data.toList ++ [c] ∧ bn (x.data.toList.drop n) 0 = c.toNat := by
      refine ⟨x[n]'(by omega), ?_, ?_⟩
      · have := sub_snoc x 0 n (Nat.zero_le _) (by omega)
        rw [← this, ext_list, List.drop_zero, Nat.sub_zero, List.take_of_length_le (by rw [size_list]; omega)]
      · rw [bn_drop, Nat.add_zero]
        unfold bn
        rw [List.getD_eq_getElem?_getD, List.getElem?_eq_getElem (by rw [size_list]; omega)]
        rfl
    obtain ⟨c, hc1, hc2⟩ := hlast
    have d1 : (0 : Int) ≤ (n : Int) := by omega
    have d2 : (n : Int) < (x.size : Int) := by omega
    have d3 : (n : Int) ≤ (x.size : Int) := by omega
    have hb := bt_bn0 x n (by omega)
    have hw : wrap64 ((x.size : Int) - 1) = (n : Int) := by rw [hx]; unfold wrap64; omega
    rw [hc2] at hb
    rw [hc1, trimRight_snoc] at h
    by_cases hbl : c.toNat = 32 ∨ c.toNat = 9 ∨ c.toNat = 13
    · have hcc : ([32, 9, 13] : List UInt8).contains c = true := by
        rcases hbl with h | h | h
        · rw [show c = 32 from UInt8.toNat_inj.1 (by rw [h]; rfl)]; decide
        · rw [show c = 9 from UInt8.toNat_inj.1 (by rw [h]; rfl)]; decide
        · rw [show c = 13 from UInt8.toNat_inj.1 (by rw [h]; rfl)]; decide
      rw [if_pos hcc] at h
      have hn0 : 0 < n := by
        rcases Nat.eq_zero_or_pos n with h1 | h1
        · subst h1; rw [List.drop_zero, h47] at hc2; omega
        · exact h1
      have hxs : (x.extract 0 n).size = n := by simp; omega
      have hrec := ih (x.extract 0 n) hxs (by omega) (by omega) (by rw [ext_list, List.drop_zero, Nat.sub_zero, bn_take _ _ _ hn0]; exact h47) h
      refine Ev.step (fun k => ?_) hrec
      simp only [colophonref10_Find.l1, if_true, hw, if_pos d1, if_pos d2, hb, rblank_f, decide_eq_true hbl, Option.bind_some, if_pos d3, Int.toNat_natCast]
    · have hcc : ¬ ([32, 9, 13] : List UInt8).contains c = true := by
        intro hh; apply hbl
        simp only [List.contains_cons, List.contains_nil, Bool.or_false, Bool.or_eq_true, beq_iff_eq] at hh
        rcases hh with rfl | rfl | rfl <;> decide
      rw [if_neg hcc, ← hc1] at h
      have hx2 : (⟨x.data.toList.toArray⟩ : ByteArray) = x := bs_of x
      rw [hx2] at h
      refine Ev.step (fun k => ?_) h
      simp only [colophonref10_Find.l1, if_true, hw, if_pos d1, if_pos d2, hb, rblank_f, decide_eq_false hbl, Option.bind_some, Bool.false_eq_true, if_false, if_pos ha]
theorem find_l0 (s : ByteArray) (hs : s.size < 1099511627776) : ∀ (F a h : Nat) (acc : List S35), s.size - a < F → a ≤ s.size → h ≤ a → B s.data.toList a → B s.data.toList h → acc.length ≤ a →
    Ev (fun k => colophonref10_Find.l0 k s 0 (a : Int) acc 0 0 (adv pl1 (s.data.toList.take h)).at_ (adv pl1 (s.data.toList.take h)).line (adv pl1 (s.data.toList.take h)).col) (acc ++ (allF F s a (adv pl1 (s.data.toList.take a))).1.map tkS, ((allF F s a (adv pl1 (s.data.toList.take a))).2.1 : Int), (allE F s a : Int))
  | 0, a, h, acc, hF, _, _, _, _, _ => absurd hF (Nat.not_lt_zero _)
  | F + 1, a, h, acc, hF, ha, hha, hB, hBh, hacc => by
    have hg := gap_le s a ha
    have hBm := gap_B s a ha hB
    have hgap := find_gap s hs a acc 0 0 (adv pl1 (s.data.toList.take h)).at_ (adv pl1 (s.data.toList.take h)).line (adv pl1 (s.data.toList.take h)).col (acc ++ (allF (F + 1) s a (adv pl1 (s.data.toList.take a))).1.map tkS, ((allF (F + 1) s a (adv pl1 (s.data.toList.take a))).2.1 : Int), (allE (F + 1) s a : Int)) ha (gap s a) 0 (Nat.zero_le _) (Nat.sub_zero _)
    have hz : (s.extract a (a + 0)).data.toList = [] := by rw [ext_list]; simp
    rw [hz, Nat.add_zero] at hgap
    refine hgap ?_
    clear hgap hz
    have hpm : adv (adv pl1 (s.data.toList.take a)) (s.extract a (a + gap s a)).data.toList = adv pl1 (s.data.toList.take (a + gap s a)) := adv_to s a _ (by omega) hB
    rw [allF, allE]
    by_cases hend : a + gap s a = s.size
    · rw [if_pos hend, if_pos hend]
      have d : ¬ ((a + gap s a : Nat) : Int) < (s.size : Int) := by omega
      refine Ev.step (f := fun k => some (acc, 0, 0)) (fun k => ?_) ?_
      · simp only [colophonref10_Find.l0, if_neg d]
      · simp only [List.map_nil, List.append_nil]; exact Ev.now _
    · rw [if_neg hend, if_neg hend]
      have hmlt : a + gap s a < s.size := by omega
      obtain ⟨g1, g2, g3, g4⟩ := gap_stop s a hmlt
      have hle := oneR_le s (a + gap s a) hmlt
      have hBe := oneR_B s (a + gap s a) hmlt hBm
      have hok := one_kind s hs (a + gap s a) hmlt
      have hbeg := begins_f s hs (a + gap s a) hmlt
      rw [hpm]
      have hpe := adv_to s (a + gap s a) (oneR s (a + gap s a)).2.1 hle.1 hBm
      rw [hpe]
      have hph := adv_to s h (a + gap s a) (by omega) hBh
      have hrec := fun acc' (hl : acc'.length ≤ (oneR s (a + gap s a)).2.1) (hlt : a + gap s a < (oneR s (a + gap s a)).2.1) => find_l0 s hs F (oneR s (a + gap s a)).2.1 (a + gap s a) acc' (by omega) hle.2.1 hle.1 hBe hBm hl
      have h7 := oneR_7 s (a + gap s a)
      have hat : (adv pl1 (s.data.toList.take h)).at_ = (h : Int) := adv_at0 s h (by omega) (by omega)
      have hline : okI (adv pl1 (s.data.toList.take h)).line := (adv_ok _ _).2.1
      have hradv := radv_f (adv pl1 (s.data.toList.take h)) hline (s.extract h (a + gap s a)) (by simp; omega)
      rw [hph] at hradv
      have hkey := fun e => risKey_f (s.extract (a + gap s a) e)
      have hhm : h ≤ a + gap s a := by omega
      have haccm : acc.length ≤ a + gap s a := by omega
      generalize feeds (s.extract a (a + gap s a)).data.toList = fe at *
      generalize a + gap s a = m at *
      have hb := bt_bn0 s m hmlt
      have d1 : (m : Int) < (s.size : Int) := by omega
      have d2 : (0 : Int) ≤ (m : Int) := by omega
      have d3 : (m : Int) ≤ (s.size : Int) := by omega
      have d4 : (0 : Int) ≤ (h : Int) := by omega
      have d5 : (h : Int) ≤ (m : Int) := by omega
      have e10 : ¬ (bn (s.data.toList.drop m) 0 : Int) = 10 := by omega
      have hbl : decide (bn (s.data.toList.drop m) 0 = 32 ∨ bn (s.data.toList.drop m) 0 = 9 ∨ bn (s.data.toList.drop m) 0 = 13) = false := decide_eq_false (by omega)
      refine Ev.step (f := fun k => colophonref10_Find.j1 k s (fe : Int) (m : Int) acc 0 0 (adv pl1 (s.data.toList.take h)).at_ (adv pl1 (s.data.toList.take h)).line (adv pl1 (s.data.toList.take h)).col) (fun k => ?_) (Ev.step (f := fun k => colophonref10_Find.j2 k s (fe : Int) (m : Int) false acc 0 0 (adv pl1 (s.data.toList.take h)).at_ (adv pl1 (s.data.toList.take h)).line (adv pl1 (s.data.toList.take h)).col) (fun k => ?_) ?_)
      · simp only [colophonref10_Find.l0, if_pos d1, if_pos d2, hb, if_neg e10]
      · simp only [colophonref10_Find.j1, if_pos d1, if_pos d2, hb, if_neg e10, rblank_f, hbl, Option.bind_some]
      · refine Ev.step (fun k => by simp only [colophonref10_Find.j2, Bool.false_eq_true, if_false]; rfl) ?_
        refine Ev.bind hbeg ?_
        by_cases hk0 : kindN s m = 0
        · have ho := hok.1 hk0
          have h100 : ¬ ((100 : Nat) = 0) := by decide
          have k0 : ((kindN s m : Nat) : Int) = 0 := by omega
          rw [ho]
          dsimp only
          rw [if_neg h100, if_neg h100]
          simp only [if_pos k0, List.map_nil, List.append_nil]
          exact Ev.now _
        · obtain ⟨hends, hkind⟩ := hok.2 hk0
          have k0 : ¬ ((kindN s m : Nat) : Int) = 0 := by omega
          simp only [if_neg k0]
          refine Ev.bind hends ?_
          obtain ⟨k1, e, er, ho⟩ : ∃ k1 e er, oneR s m = (k1, e, er) := ⟨_, _, _, rfl⟩
          rw [ho] at hle hBe hrec hkind h7 ⊢
          dsimp only at hle hBe hrec hkind h7 ⊢
          by_cases he : er = 0
          · subst he
            have z0 : ((0 : Nat) : Int) = 0 := rfl
            have hlt := hle.2.2 rfl
            have hkd := hkind rfl
            have c1 : (m : Int) ≤ (e : Int) := by omega
            have c2 : (e : Int) ≤ (s.size : Int) := by omega
            rw [if_pos rfl, if_pos rfl]
            simp only [if_pos z0, hat, if_pos d4, if_pos d5, if_pos d3, Int.toNat_natCast]
            rw [hat] at hradv
            refine Ev.bind hradv ?_
            simp only [if_pos d2, if_pos c1, if_pos c2]
            refine Ev.bind (hkey e) ?_
            have hal : acc.length < 2513169434916 := by omega
            have hnext := hrec (acc ++ [tkS ⟨k1, textOf s k1 m e, adv pl1 (s.data.toList.take m), fe⟩]) (by rw [List.length_append, List.length_singleton]; omega) hlt
            rw [List.append_assoc] at hnext
            rw [List.map_cons]
            have hl1 : ∀ kd : Nat, kd = k1 → (k1 = 7 ↔ kindN s m = 7) → Ev (fun k => colophonref10_Find.j4 k s (kindN s m : Int) acc 0 0 (adv pl1 (s.data.toList.take m)).at_ (adv pl1 (s.data.toList.take m)).line (adv pl1 (s.data.toList.take m)).col (e : Int) ((0 : Nat) : Int) (kd : Int) (s.extract m e) (adv pl1 (s.data.toList.take m)).at_ (adv pl1 (s.data.toList.take m)).line (adv pl1 (s.data.toList.take m)).col (fe : Int))
                (acc ++ ([tkS ⟨k1, textOf s k1 m e, adv pl1 (s.data.toList.take m), fe⟩] ++ (allF F s e (adv pl1 (s.data.toList.take e))).1.map tkS), ((allF F s e (adv pl1 (s.data.toList.take e))).2.1 : Int), (allE F s e : Int)) := by
              intro kd hkd7 h77
              subst hkd7
              refine Ev.step (fun k => by simp only [colophonref10_Find.j4]; rfl) ?_
              by_cases hk7 : kindN s m = 7
              · have hk17 := h77.2 hk7
                rw [hk7]
                refine find_trim s acc hal 0 0 _ _ _ (e : Int) ((0 : Nat) : Int) (kd : Int) _ _ _ (fe : Int) _ (s.extract m e).size (s.extract m e) rfl (by simp; omega) (by simp; omega) ?_ ?_
                · have h8 := h7 hk17
                  rw [ext_list, bn_take _ _ _ (by omega), bn_drop, Nat.add_zero]
                  unfold bn; rw [h8]; rfl
                · have htx : (⟨(Lib.trimRightS (s.extract m e).data.toList [32, 9, 13]).toArray⟩ : ByteArray) = textOf s kd m e := by unfold textOf; rw [if_pos hk17]
                  rw [htx]; exact hnext
              · have hk17 : ¬ kd = 7 := fun h => hk7 (h77.1 h)
                have n7 : ¬ ((kindN s m : Nat) : Int) = 7 := by omega
                have htx : textOf s kd m e = s.extract m e := by unfold textOf; rw [if_neg hk17]
                rw [htx] at hnext ⊢
                refine Ev.step (fun k => ?_) hnext
                simp only [colophonref10_Find.l1, if_neg n7, if_pos hal]
                rfl
            have hkb : Ev (fun k => colophonref10_Find.j3 k s (kindN s m : Int) (decide (kindN s m = 1) && keyB (s.extract m e)) acc 0 0 (adv pl1 (s.data.toList.take m)).at_ (adv pl1 (s.data.toList.take m)).line (adv pl1 (s.data.toList.take m)).col (e : Int) ((0 : Nat) : Int) (kindN s m : Int) (s.extract m e) (adv pl1 (s.data.toList.take m)).at_ (adv pl1 (s.data.toList.take m)).line (adv pl1 (s.data.toList.take m)).col (fe : Int))
                (acc ++ ([tkS ⟨k1, textOf s k1 m e, adv pl1 (s.data.toList.take m), fe⟩] ++ (allF F s e (adv pl1 (s.data.toList.take e))).1.map tkS), ((allF F s e (adv pl1 (s.data.toList.take e))).2.1 : Int), (allE F s e : Int)) := by
              by_cases hk1 : kindN s m = 1
              · rw [if_pos hk1] at hkd
                cases hkB : keyB (s.extract m e) with
                | true =>
                  rw [hkB, if_pos rfl] at hkd
                  refine Ev.step (fun k => ?_) (hl1 2 hkd.symm (by rw [hkd, hk1]; decide))
                  simp only [colophonref10_Find.j3, decide_eq_true hk1, Bool.true_and, if_true]
                  rfl
                | false =>
                  rw [hkB, if_neg (by decide)] at hkd
                  refine Ev.step (fun k => ?_) (hl1 1 hkd.symm (by rw [hkd, hk1]))
                  simp only [colophonref10_Find.j3, Bool.and_false, Bool.false_eq_true, if_false, hk1]
              · rw [if_neg hk1] at hkd
                refine Ev.step (fun k => ?_) (hl1 (kindN s m) hkd.symm (by rw [hkd]))
                simp only [colophonref10_Find.j3, decide_eq_false hk1, Bool.false_and, Bool.false_eq_true, if_false]
            by_cases hk1 : kindN s m = 1
            · have i1 : ((kindN s m : Nat) : Int) = 1 := by omega
              rw [decide_eq_true hk1, Bool.true_and] at hkb
              simp only [if_pos i1]
              exact hkb
            · have i1 : ¬ ((kindN s m : Nat) : Int) = 1 := by omega
              rw [decide_eq_false hk1, Bool.false_and] at hkb
              simp only [if_neg i1]
              exact hkb
          · have z0 : ¬ ((er : Nat) : Int) = 0 := by omega
            rw [if_neg he, if_neg he]
            simp only [if_neg z0, List.map_nil, List.append_nil]
            exact Ev.now _
theorem find_f (s : ByteArray) (hs : s.size < 1099511627776) : Ev (fun k => colophonref10_Find.f k s) ((allR s).1.map tkS, ((allR s).2.1 : Int), (allE (s.size + 1) s 0 : Int)) := by
  have hB : B s.data.toList 0 := B_fin (by rw [List.take_zero]; exact fin_nil)
  have h := find_l0 s hs (s.size + 1) 0 0 [] (by omega) (Nat.zero_le _) (Nat.le_refl _) hB hB (by simp)
  have hp0 : adv pl1 (s.data.toList.take 0) = ⟨0, 1, 1⟩ := by rw [List.take_zero]; exact adv_nil pl1 (by simp [Pl.ok, okI])
  rw [hp0] at h
  exact h
theorem rall_f (s : ByteArray) (hs : s.size < 1099511627776) : Ev (fun k => colophonref10_All.f k s) ((allR s).1.map tkS, ((allR s).2.1 : Int), (allR s).2.2.at_, (allR s).2.2.line, (allR s).2.2.col) := by
  have hf := find_f s hs
  have hB : B s.data.toList 0 := B_fin (by rw [List.take_zero]; exact fin_nil)
  have hp0 : (⟨0, 1, 1⟩ : Pl) = adv pl1 (s.data.toList.take 0) := by rw [List.take_zero]; exact (adv_nil pl1 (by simp [Pl.ok, okI])).symm
  have hE := allE_place s (s.size + 1) 0 ⟨0, 1, 1⟩ (by omega) (Nat.zero_le _) hB hp0
  have hle := allE_le s (s.size + 1) 0 (Nat.zero_le _)
  have hzero : ∀ (f a : Nat) (p : Pl), (allF f s a p).2.1 = 0 → (allF f s a p).2.2 = ⟨0, 0, 0⟩ := by
    intro f
    induction f with
    | zero => intro a p _; rfl
    | succ f ih =>
      intro a p h
      rw [allF] at h ⊢
      by_cases c1 : a + gap s a = s.size
      · rw [if_pos c1]
      · rw [if_neg c1] at h ⊢
        by_cases c2 : (oneR s (a + gap s a)).2.2 = 0
        · rw [if_pos c2] at h ⊢; exact ih _ _ h
        · rw [if_neg c2] at h; exact absurd h c2
  have hz := hzero (s.size + 1) 0 ⟨0, 1, 1⟩
  change (allR s).2.1 = 0 → (allR s).2.2 = ⟨0, 0, 0⟩ at hz
  change (allR s).2.1 ≠ 0 → (allR s).2.2 = adv pl1 (s.data.toList.take (allE (s.size + 1) s 0)) at hE
  generalize allE (s.size + 1) s 0 = E at *
  generalize allR s = R at *
  obtain ⟨tks, er, q⟩ := R
  dsimp only at hf hE hz ⊢
  refine Ev.congr (f := fun k => (colophonref10_Find.f k s).bind fun bt218 => (if bt218.2.1 = 0 then (some (bt218.1, 0, 0, 0, 0)) else (if 0 ≤ bt218.2.2 then (if bt218.2.2 ≤ (s.size : Int) then ((colophonref03_Advance.f k 0 1 1 (s.extract 0 (bt218.2.2 : Int).toNat)).bind fun bt225 => (some (bt218.1, bt218.2.1, bt225.1, bt225.2.1, bt225.2.2))) else (none)) else (none)))) (fun k => rfl) (Ev.bind hf ?_)
  by_cases he : er = 0
  · have e0 : ((er : Nat) : Int) = 0 := by omega
    rw [hz he]
    simp only [if_pos e0, e0]
    exact Ev.now _
  · have e0 : ¬ ((er : Nat) : Int) = 0 := by omega
    have d1 : (0 : Int) ≤ (E : Int) := by omega
    have d2 : (E : Int) ≤ (s.size : Int) := by omega
    have ha := radv_f pl1 (by simp [okI]) (s.extract 0 E) (by simp; omega)
    rw [extract_take, ← hE he] at ha
    simp only [if_neg e0, if_pos d1, if_pos d2, Int.toNat_natCast]
    exact Ev.bind ha (Ev.now _)
theorem spoil_l0 (d : Nat) : ∀ (x : List S35) (j : Nat), x.length < 2513169434916 → j ≤ x.length → x.length - j = d → Ev (fun k => colophonlaw10_spoil.l0 k x (j : Int)) () := by
  induction d with
  | zero =>
    intro x j hx hj hd
    have d1 : ¬ (j : Int) < (x.length : Int) := by omega
    refine Ev.step (f := fun k => some ()) (fun k => ?_) (Ev.now ())
    simp only [colophonlaw10_spoil.l0, if_neg d1, if_pos hx, Option.bind_some, List.length_append, List.length_singleton]
    have hw : wrap64 (((x.length + 1 : Nat) : Int) - 1) = (x.length : Int) := by unfold wrap64; omega
    rw [hw, if_pos (by omega), if_pos (by omega)]
  | succ d ih =>
    intro x j hx hj hd
    have d1 : (j : Int) < (x.length : Int) := by omega
    have d2 : (0 : Int) ≤ (j : Int) := by omega
    have hrec := ih (x.set j ⟨0, ⟨#[119, 114, 105, 116, 116, 101, 110]⟩, ⟨0, 0, 0⟩, 0⟩) (j + 1) (by rw [List.length_set]; exact hx) (by rw [List.length_set]; omega) (by rw [List.length_set]; omega)
    refine Ev.step (fun k => ?_) hrec
    simp only [colophonlaw10_spoil.l0, if_pos d1, if_pos d2, wr_s j (by omega), Int.toNat_natCast]
theorem spoil_f (x : List S35) (hx : x.length < 2513169434916) : Ev (fun k => colophonlaw10_spoil.f k x) () := spoil_l0 x.length x 0 hx (Nat.zero_le _) rfl
end Go.Proofs.YtgfloplakjmncaaDoor.PScan
