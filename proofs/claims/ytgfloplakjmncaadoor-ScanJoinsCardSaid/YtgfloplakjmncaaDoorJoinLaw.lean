/- Plain: ScanJoins: of two texts with a line end between, the tokens are those of the one, and then those of the other one. By an AI agent; no person has read it. -/
import Derived.Test.YtgfloplakjmncaaDoorBegLaw
set_option linter.unusedSimpArgs false
set_option linter.unusedVariables false
namespace Go.Proofs.YtgfloplakjmncaaDoor
open Go Go.RowKit

/-- The places of b's tokens, behind `off` bytes. -/
def TkRel (off : Nat) (t t' : Tk) : Prop := t'.kind = t.kind ∧ t'.text = t.text ∧ (∃ m : Nat, t.place.at_ = (m : Int) ∧ t'.place.at_ = ((off + m : Nat) : Int)) ∧ t'.place.col = t.place.col
/-- All but the first one's line ends are the same. -/
def TksRel (off : Nat) : Bool → List Tk → List Tk → Prop
  | _, [], l' => l' = []
  | first, t :: l, l' => ∃ t' r', l' = t' :: r' ∧ TkRel off t t' ∧ (first = false → t'.feeds = t.feeds) ∧ TksRel off false l r'
theorem TksRel.len {off : Nat} : ∀ {f : Bool} {l l' : List Tk}, TksRel off f l l' → l'.length = l.length
  | _, [], l', h => by rw [show l' = [] from h]
  | _, t :: l, l', h => by obtain ⟨t', r', rfl, _, _, h4⟩ := h; simp [TksRel.len h4]
theorem TksRel.at {off : Nat} : ∀ {f : Bool} {l l' : List Tk}, TksRel off f l l' → ∀ (i : Nat) (hi : i < l.length) (hi' : i < l'.length), TkRel off l[i] l'[i] ∧ (0 < i ∨ f = false → l'[i].feeds = l[i].feeds)
  | _, [], l', h, i, hi, _ => absurd hi (by simp)
  | f, t :: l, l', h, i, hi, hi' => by
    obtain ⟨t', r', rfl, h2, h3, h4⟩ := h
    cases i with
    | zero => exact ⟨h2, fun hh => h3 (by rcases hh with hh | hh; · omega
                                          · exact hh)⟩
    | succ i =>
      have := TksRel.at h4 i (by simpa using hi) (by simpa using hi')
      exact ⟨this.1, fun _ => this.2 (.inr rfl)⟩
/-- Two places, of which the one stands `off` bytes behind the other one. -/
def PlRel (off m : Nat) (p p' : Pl) : Prop := p.at_ = (m : Int) ∧ p'.at_ = ((off + m : Nat) : Int) ∧ p'.col = p.col
theorem PlRel.adv {off m : Nat} {p p' : Pl} (h : PlRel off m p p') (x : List UInt8) (hb : off + m + x.length < 4611686018427387904) : PlRel off (m + x.length) (adv p x) (adv p' x) := by
  obtain ⟨h1, h2, h3⟩ := h
  refine ⟨?_, ?_, ?_⟩
  · show wrap64 (p.at_ + x.length) = _
    rw [h1, wrap_ok (by unfold okI; omega)]; omega
  · show wrap64 (p'.at_ + x.length) = _
    rw [h2, wrap_ok (by unfold okI; omega)]; omega
  · show wrap64 _ = wrap64 _
    rw [h3]
theorem gapL_le (l : List UInt8) : gapL l ≤ l.length := by unfold gapL; omega
/-- What stands behind: the same, shifted. -/
theorem shift_F (b s : ByteArray) (pre : List UInt8) (hs : s.data.toList = pre ++ b.data.toList) (hsz : s.size < 4611686018427387904) : ∀ (fb fs m : Nat) (p p' : Pl), b.size - m < fb → s.size - (pre.length + m) < fs → m ≤ b.size → PlRel pre.length m p p' →
    TksRel pre.length false (allF fb b m p).1 (allF fs s (pre.length + m) p').1 ∧ (allF fs s (pre.length + m) p').2.1 = (allF fb b m p).2.1 ∧ ((allF fb b m p).2.1 ≠ 0 → ∃ q : Nat, (allF fb b m p).2.2.at_ = (q : Int) ∧ (allF fs s (pre.length + m) p').2.2.at_ = ((pre.length + q : Nat) : Int))
  | 0, fs, m, p, p', h, _, _, _ => absurd h (Nat.not_lt_zero _)
  | fb + 1, fs, m, p, p', h1, h2, hm, hp => by
    obtain ⟨fs, rfl⟩ : ∃ g, fs = g + 1 := ⟨fs - 1, by omega⟩
    have hlb := size_list b
    have hls := size_list s
    have hss : s.size = pre.length + b.size := by rw [← hls, hs, List.length_append, hlb]
    have hdrop : ∀ j, s.data.toList.drop (pre.length + j) = b.data.toList.drop j := fun j => by
      rw [hs, List.drop_append, Nat.add_sub_cancel_left, List.drop_of_length_le (by omega), List.nil_append]
    have hg : gap s (pre.length + m) = gap b m := by rw [gap_list, gap_list, hdrop]
    have hgl := gap_le b m hm
    have hex : ∀ u v, s.extract (pre.length + u) (pre.length + v) = b.extract u v := fun u v => by
      apply bs_ext; rw [ext_list, ext_list, hdrop]; congr 1; omega
    rw [allF, allF, hg]
    by_cases hend : m + gap b m = b.size
    · rw [if_pos hend, if_pos (show pre.length + m + gap b m = s.size by omega)]
      exact ⟨rfl, rfl, fun h => absurd rfl h⟩
    · rw [if_neg hend, if_neg (show ¬ pre.length + m + gap b m = s.size by omega)]
      have hmlt : m + gap b m < b.size := by omega
      have hle := oneR_le b (m + gap b m) hmlt
      have hone : oneR s (pre.length + m + gap b m) = ((oneR b (m + gap b m)).1, pre.length + (oneR b (m + gap b m)).2.1, (oneR b (m + gap b m)).2.2) := by
        rw [Nat.add_assoc, one_shift s _ (by omega), hdrop, one_shift b _ (by omega)]
        simp only [offR, Prod.mk.injEq, true_and, and_true]; omega
      rw [hone]
      dsimp only
      obtain ⟨k, e, er, ho⟩ : ∃ k e er, oneR b (m + gap b m) = (k, e, er) := ⟨_, _, _, rfl⟩
      rw [ho] at hle ⊢
      dsimp only at hle ⊢
      have x1 : s.extract (pre.length + m) (pre.length + m + gap b m) = b.extract m (m + gap b m) := by rw [Nat.add_assoc]; exact hex _ _
      have x2 : s.extract (pre.length + m + gap b m) (pre.length + e) = b.extract (m + gap b m) e := by rw [Nat.add_assoc]; exact hex _ _
      have l1 : (b.extract m (m + gap b m)).data.toList.length = gap b m := by rw [ext_list]; simp; omega
      have l2 : (b.extract (m + gap b m) e).data.toList.length = e - (m + gap b m) := by rw [ext_list]; simp; omega
      have hp1 := hp.adv (b.extract m (m + gap b m)).data.toList (by omega)
      have hp2 := hp1.adv (b.extract (m + gap b m) e).data.toList (by omega)
      rw [l1] at hp1 hp2
      rw [l2, show m + gap b m + (e - (m + gap b m)) = e by omega] at hp2
      rw [x1, x2]
      by_cases he : er = 0
      · rw [if_pos he, if_pos he]
        have hlt := hle.2.2 he
        have htx : textOf s k (pre.length + m + gap b m) (pre.length + e) = textOf b k (m + gap b m) e := by
          unfold textOf; rw [x2]
        rw [htx]
        have ih := shift_F b s pre hs hsz fb fs e _ _ (by omega) (by omega) hle.2.1 hp2
        refine ⟨⟨_, _, rfl, ⟨rfl, rfl, ⟨_, hp1.1, hp1.2.1⟩, hp1.2.2⟩, fun _ => rfl, ih.1⟩, ih.2.1, ih.2.2⟩
      · rw [if_neg he, if_neg he]
        exact ⟨rfl, rfl, fun _ => ⟨_, hp2.1, hp2.2.1⟩⟩
theorem lineTail_nl (x y : List UInt8) : lineTail (x ++ 10 :: y) = lineTail y := by
  have h1 : x ++ 10 :: y = (x ++ [10]) ++ y := by simp
  rw [h1, lineTail_append]
  split
  · rename_i h0
    rw [lineTail_append, if_neg (by simp [feeds])]
    rw [lineTail_none y h0]
    simp [lineTail]
  · rfl
/-- Behind the one: the blanks up to the other one's first token. -/
theorem join_place (p : Pl) (x y : List UInt8) (off m : Nat) (hat : p.at_ + x.length + 1 = (off : Int)) (hm : m = y.length) (hb : off + y.length < 4611686018427387904) (h0 : 0 ≤ p.at_) : PlRel off m (adv ⟨0, 1, 1⟩ y) (adv p (x ++ 10 :: y)) := by
  subst hm
  refine ⟨?_, ?_, ?_⟩
  · show wrap64 (0 + (y.length : Int)) = _
    rw [wrap_ok (by unfold okI; omega)]; omega
  · show wrap64 (p.at_ + ((x ++ 10 :: y).length : Int)) = _
    simp only [List.length_append, List.length_cons]
    rw [wrap_ok (by unfold okI; omega)]; omega
  · show wrap64 _ = wrap64 _
    rw [lineTail_nl, if_neg (show ¬ feeds (x ++ 10 :: y) = 0 by simp [feeds])]
    by_cases hf : feeds y = 0
    · rw [if_pos hf]
    · rw [if_neg hf]
theorem gapL_all : ∀ (l y : List UInt8), gapL l = l.length → gapL (l ++ 10 :: y) = l.length + 1 + gapL y
  | [], y, _ => by
    unfold gapL
    rw [List.nil_append, List.dropWhile_cons, if_pos (by decide)]
    have : (y.dropWhile (([32, 9, 13, 10] : List UInt8).contains ·)).length ≤ y.length := (List.dropWhile_sublist _).length_le
    simp only [List.length_cons, List.length_nil]; omega
  | c :: l, y, h => by
    have hc : (([32, 9, 13, 10] : List UInt8).contains c) = true := by
      cases hcc : (([32, 9, 13, 10] : List UInt8).contains c) with
      | true => rfl
      | false => unfold gapL at h; rw [List.dropWhile_cons, if_neg (by rw [hcc]; decide)] at h; simp at h
    have hle : (l.dropWhile (([32, 9, 13, 10] : List UInt8).contains ·)).length ≤ l.length := (List.dropWhile_sublist _).length_le
    have hl : gapL l = l.length := by
      unfold gapL at h ⊢; rw [List.dropWhile_cons, if_pos hc] at h; simp only [List.length_cons] at h; omega
    have ih := gapL_all l y hl
    have hle2 : ((l ++ 10 :: y).dropWhile (([32, 9, 13, 10] : List UInt8).contains ·)).length ≤ (l ++ 10 :: y).length := (List.dropWhile_sublist _).length_le
    unfold gapL at ih ⊢
    rw [List.cons_append, List.dropWhile_cons, if_pos hc]
    simp only [List.length_cons, List.length_append] at *
    omega
/-- The two texts, joined. -/
theorem joins_F (a b s : ByteArray) (hs : s.data.toList = a.data.toList ++ 10 :: b.data.toList) (hsz : s.size < 4611686018427387904) : ∀ (fa fs i : Nat) (p : Pl), a.size - i < fa → s.size - i < fs → i ≤ a.size → p.at_ = (i : Int) → (allF fa a i p).2.1 = 0 →
    ∃ r, (allF fs s i p).1 = (allF fa a i p).1 ++ r ∧ TksRel (a.size + 1) true (allR b).1 r ∧ (allF fs s i p).2.1 = (allR b).2.1 ∧ ((allR b).2.1 ≠ 0 → ∃ q : Nat, (allR b).2.2.at_ = (q : Int) ∧ (allF fs s i p).2.2.at_ = ((a.size + 1 + q : Nat) : Int))
  | 0, fs, i, p, h, _, _, _, _ => absurd h (Nat.not_lt_zero _)
  | fa + 1, fs, i, p, h1, h2, hi, hpa, h0 => by
    obtain ⟨fs, rfl⟩ : ∃ g, fs = g + 1 := ⟨fs - 1, by omega⟩
    have hla := size_list a
    have hlb := size_list b
    have hls := size_list s
    have hss : s.size = a.size + 1 + b.size := by rw [← hls, hs, List.length_append, List.length_cons, hla, hlb]; omega
    have hg := gap_le a i hi
    have hgs : gap s i = gapL (a.data.toList.drop i ++ 10 :: b.data.toList) := by rw [gap_list, hs, List.drop_append_of_le_length (by omega)]
    have hal : (a.data.toList.drop i).length = a.size - i := by simp
    by_cases hend : i + gap a i = a.size
    · have hA : allF (fa + 1) a i p = ([], 0, ⟨0, 0, 0⟩) := by rw [allF, if_pos hend]
      rw [hA]
      have hgb := gap_le b 0 (Nat.zero_le _)
      have hgs2 : gap s i = a.size - i + 1 + gap b 0 := by
        rw [hgs, gapL_all _ _ (by rw [← gap_list]; omega), hal, gap_list b 0, List.drop_zero]
      have hpre : s.data.toList = (a.data.toList ++ [10]) ++ b.data.toList := by rw [hs]; simp
      have hpl : (a.data.toList ++ [10]).length = a.size + 1 := by simp
      have hdrop : ∀ j, s.data.toList.drop (a.size + 1 + j) = b.data.toList.drop j := fun j => by
        rw [hpre, List.drop_append, hpl, Nat.add_sub_cancel_left, List.drop_of_length_le (by omega), List.nil_append]
      have hex : ∀ u v, s.extract (a.size + 1 + u) (a.size + 1 + v) = b.extract u v := fun u v => by
        apply bs_ext; rw [ext_list, ext_list, hdrop]; congr 1; omega
      unfold allR
      rw [allF, allF, hgs2, show i + (a.size - i + 1 + gap b 0) = a.size + 1 + gap b 0 by omega]
      simp only [Nat.zero_add]
      by_cases hbe : gap b 0 = b.size
      · rw [if_pos hbe, if_pos (show a.size + 1 + gap b 0 = s.size by omega)]
        exact ⟨[], rfl, rfl, rfl, fun h => absurd rfl h⟩
      · rw [if_neg hbe, if_neg (show ¬ a.size + 1 + gap b 0 = s.size by omega)]
        have hmlt : gap b 0 < b.size := by omega
        have hle := oneR_le b (gap b 0) hmlt
        have hone : oneR s (a.size + 1 + gap b 0) = ((oneR b (gap b 0)).1, a.size + 1 + (oneR b (gap b 0)).2.1, (oneR b (gap b 0)).2.2) := by
          rw [one_shift s _ (by omega), hdrop, one_shift b _ (by omega)]
          simp only [offR, Prod.mk.injEq, true_and, and_true]; omega
        rw [hone]
        dsimp only
        obtain ⟨k, e, er, ho⟩ : ∃ k e er, oneR b (gap b 0) = (k, e, er) := ⟨_, _, _, rfl⟩
        rw [ho] at hle ⊢
        dsimp only at hle ⊢
        have l1 : (b.extract 0 (gap b 0)).data.toList.length = gap b 0 := by rw [ext_list]; simp; omega
        have l2 : (b.extract (gap b 0) e).data.toList.length = e - gap b 0 := by rw [ext_list]; simp; omega
        have x1 : (s.extract i (a.size + 1 + gap b 0)).data.toList = a.data.toList.drop i ++ 10 :: (b.extract 0 (gap b 0)).data.toList := by
          rw [ext_list, ext_list, hs, List.drop_append_of_le_length (by omega), show a.size + 1 + gap b 0 - i = (a.data.toList.drop i).length + (gap b 0 + 1) by rw [hal]; omega, List.take_length_add_append, List.take_succ_cons]
          simp
        have x2 : s.extract (a.size + 1 + gap b 0) (a.size + 1 + e) = b.extract (gap b 0) e := hex _ _
        have hp1 := join_place p (a.data.toList.drop i) (b.extract 0 (gap b 0)).data.toList (a.size + 1) (gap b 0) (by rw [hpa, hal]; omega) l1.symm (by rw [l1]; omega) (by omega)
        rw [← x1] at hp1
        have hp2 := hp1.adv (b.extract (gap b 0) e).data.toList (by rw [l2]; omega)
        rw [l2, show gap b 0 + (e - gap b 0) = e by omega] at hp2
        rw [x2]
        by_cases he : er = 0
        · rw [if_pos he, if_pos he]
          have hlt := hle.2.2 he
          have htx : textOf s k (a.size + 1 + gap b 0) (a.size + 1 + e) = textOf b k (gap b 0) e := by unfold textOf; rw [x2]
          rw [htx]
          have hsh := shift_F b s (a.data.toList ++ [10]) hpre hsz b.size fs e
          rw [hpl] at hsh
          have ih := hsh _ _ (by omega) (by omega) hle.2.1 hp2
          refine ⟨_, rfl, ⟨_, _, rfl, ⟨rfl, rfl, ⟨_, hp1.1, hp1.2.1⟩, hp1.2.2⟩, (fun h => by cases h), ih.1⟩, ih.2.1, ih.2.2⟩
        · rw [if_neg he, if_neg he]
          exact ⟨[], rfl, rfl, rfl, fun _ => ⟨_, hp2.1, hp2.2.1⟩⟩
    · rw [allF, if_neg hend] at h0
      have hmlt : i + gap a i < a.size := by omega
      have hle := oneR_le a (i + gap a i) hmlt
      by_cases he : (oneR a (i + gap a i)).2.2 = 0
      · rw [if_pos he] at h0
        have hlt := hle.2.2 he
        obtain ⟨k, e, er, ho⟩ : ∃ k e er, oneR a (i + gap a i) = (k, e, er) := ⟨_, _, _, rfl⟩
        rw [ho] at he h0 hle hlt
        dsimp only at he h0 hle hlt
        subst he
        have hgs2 : gap s i = gap a i := by
          rw [hgs, gap_list]; exact gapL_append _ _ (by rw [← gap_list]; omega)
        have hex : ∀ u v, v ≤ a.size → s.extract u v = a.extract u v := fun u v hv => by
          apply bs_ext
          rw [ext_list, ext_list, hs]
          by_cases hu : u ≤ a.data.toList.length
          · rw [List.drop_append_of_le_length hu, List.take_append_of_le_length (by simp; omega)]
          · rw [show v - u = 0 by omega, List.take_zero, List.take_zero]
        have hs1 : oneR s (i + gap a i) = (k, e, 0) := by
          by_cases hlast : e + gap a e < a.size
          · have h2nd : (oneR a (e + gap a e)).2.2 = 0 := by
              obtain ⟨g, rfl⟩ : ∃ g, fa = g + 1 := ⟨fa - 1, by omega⟩
              rw [allF, if_neg (by omega)] at h0
              by_cases hq2 : (oneR a (e + gap a e)).2.2 = 0
              · exact hq2
              · rw [if_neg hq2] at h0; exact h0
            exact one_begins a s _ hs (i + gap a i) k e hmlt ho hlast h2nd
          · have hge := gap_le a e hle.2.1
            have hea : e + gap a e = a.size := by omega
            rw [one_shift a _ (by omega)] at ho
            obtain ⟨j, hj, rfl⟩ := offR_ok ho
            have hne : a.data.toList.drop (i + gap a i) ≠ [] := by intro h; have := congrArg List.length h; simp at this; omega
            have hlen : (a.data.toList.drop (i + gap a i)).length = a.size - (i + gap a i) := by simp
            have hnx : Nxt (a.data.toList.drop (i + gap a i)) (10 :: b.data.toList) j := by
              by_cases hz : gap a (i + gap a i + j) = 0
              · right; exact ⟨by omega, _, rfl⟩
              · left
                have hdd : (a.data.toList.drop (i + gap a i)).drop j = a.data.toList.drop (i + gap a i + j) := by rw [List.drop_drop]
                obtain ⟨g1, g2⟩ := gapL_pos (a.data.toList.drop (i + gap a i + j)) (by rw [← gap_list]; omega)
                have hna := next_append (a.data.toList.drop (i + gap a i + j)) (10 :: b.data.toList) (next_ascii _ g2 g1)
                rw [hdd]
                exact ⟨by omega, hna.2, hna.1.symm⟩
            have hloc := one_loc _ _ k j hj hne hnx
            rw [one_shift s _ (by omega), hs, List.drop_append_of_le_length (by omega), hloc]
            rfl
        have x1 : (a.extract i (i + gap a i)).data.toList.length = gap a i := by rw [ext_list]; simp; omega
        have x2 : (a.extract (i + gap a i) e).data.toList.length = e - (i + gap a i) := by rw [ext_list]; simp; omega
        have hpa2 : (adv (adv p (a.extract i (i + gap a i)).data.toList) (a.extract (i + gap a i) e).data.toList).at_ = (e : Int) := by
          show wrap64 (wrap64 (p.at_ + ((a.extract i (i + gap a i)).data.toList.length : Int)) + ((a.extract (i + gap a i) e).data.toList.length : Int)) = _
          rw [x1, x2, hpa, wrap_ok (x := (i : Int) + (gap a i : Int)) (by unfold okI; omega), wrap_ok (by unfold okI; omega)]; omega
        have ih := joins_F a b s hs hsz fa fs e _ (by omega) (by omega) hle.2.1 hpa2 h0
        obtain ⟨r, r1, r2, r3, r4⟩ := ih
        have hA : allF (fa + 1) a i p = (⟨k, textOf a k (i + gap a i) e, adv p (a.extract i (i + gap a i)).data.toList, feeds (a.extract i (i + gap a i)).data.toList⟩ :: (allF fa a e (adv (adv p (a.extract i (i + gap a i)).data.toList) (a.extract (i + gap a i) e).data.toList)).1, (allF fa a e (adv (adv p (a.extract i (i + gap a i)).data.toList) (a.extract (i + gap a i) e).data.toList)).2) := by
          rw [allF, if_neg hend, ho, if_pos rfl]
        have hS : allF (fs + 1) s i p = (⟨k, textOf a k (i + gap a i) e, adv p (a.extract i (i + gap a i)).data.toList, feeds (a.extract i (i + gap a i)).data.toList⟩ :: (allF fs s e (adv (adv p (a.extract i (i + gap a i)).data.toList) (a.extract (i + gap a i) e).data.toList)).1, (allF fs s e (adv (adv p (a.extract i (i + gap a i)).data.toList) (a.extract (i + gap a i) e).data.toList)).2) := by
          rw [allF, hgs2, if_neg (show ¬ i + gap a i = s.size by omega), hs1, if_pos rfl]
          dsimp only
          have htx : textOf s k (i + gap a i) e = textOf a k (i + gap a i) e := by unfold textOf; rw [hex _ _ hle.2.1]
          rw [htx, hex _ _ (by omega), hex _ _ hle.2.1]
        rw [hA, hS]
        refine ⟨r, ?_, r2, r3, r4⟩
        dsimp only
        rw [r1]; rfl
      · rw [if_neg he] at h0; exact absurd h0 he
theorem joins_R (a b s : ByteArray) (hs : s.data.toList = a.data.toList ++ 10 :: b.data.toList) (hsz : s.size < 4611686018427387904) (h0 : (allR a).2.1 = 0) :
    ∃ r, (allR s).1 = (allR a).1 ++ r ∧ TksRel (a.size + 1) true (allR b).1 r ∧ (allR s).2.1 = (allR b).2.1 ∧ ((allR b).2.1 ≠ 0 → ∃ q : Nat, (allR b).2.2.at_ = (q : Int) ∧ (allR s).2.2.at_ = ((a.size + 1 + q : Nat) : Int)) :=
  joins_F a b s hs hsz _ _ 0 _ (by omega) (by omega) (Nat.zero_le _) rfl h0
end Go.Proofs.YtgfloplakjmncaaDoor
