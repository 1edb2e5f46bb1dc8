/- ScanJoins, the pure statement: what the printed function comes to. By an AI agent; no person has read it. -/
import Derived.Test.YtgfloplakjmncaaDoorJoinLaw
import Derived.Test.YtgfloplakjmncaaDoorPScanx13
import Derived.Test.YtgfloplakjmncaaDoorPSame
set_option linter.unusedSimpArgs false
set_option linter.unusedVariables false
namespace Go.Proofs.YtgfloplakjmncaaDoor.PScan
open Go Go.RowKit Go.Proofs.YtgfloplakjmncaaDoor Go.Proofs.YtgfloplakjmncaaDoorW.PrintWords Go.Proofs.YtgfloplakjmncaaDoorW.PrintLast

theorem rd_tk' (l : List Tk) (j : Nat) (h : j < l.length) : rd_T35 (l.map tkS) (j : Int) = tkS (l[j]'h) := by
  unfold rd_T35
  simp [List.getD_eq_getElem?_getD, h]
theorem w64a (a b n : Nat) (h : a + b ≤ n) (hn : n < 4611686018427387904) : wrap64 ((a : Int) + (b : Int)) = ((a + b : Nat) : Int) := by unfold wrap64; omega
theorem w64b (a n : Nat) (h : a < n) (hn : n < 4611686018427387904) : wrap64 ((a : Int) + 1) = ((a + 1 : Nat) : Int) := by unfold wrap64; omega
theorem joins_step (x0 : ByteArray) (x6 x9 x12 : List S35) (j n : Nat) (T T' : S35) (m : Nat) (hn : n < 4611686018427387904) (h0 : x0.size < 4611686018427387903) (hj : j < x9.length) (hl : x6.length + j < x12.length) (hb : x12.length ≤ n) (hm : x0.size + 1 + m ≤ n) (hT : rd_T35 x9 (j : Int) = T) (hT' : rd_T35 x12 ((x6.length + j : Nat) : Int) = T')
    (e0 : T'.f0 = T.f0) (e1 : T'.f1 = T.f1) (ea : T.f2.f0 = (m : Int)) (ea' : T'.f2.f0 = ((x0.size + 1 + m : Nat) : Int)) (ec : T'.f2.f2 = T.f2.f2) (ef : 0 < j → T'.f3 = T.f3) (k : Nat) :
    colophonlaw10_ScanJoins.l0 (k + 1) x0 x6 x9 x12 true (j : Int) = colophonlaw10_ScanJoins.j3 k x0 x6 x9 x12 true (j : Int) false := by
  have arith : wrap64 ((x6.length : Int) + (j : Int)) = ((x6.length + j : Nat) : Int) ∧ wrap64 ((j : Int) + 1) = ((j + 1 : Nat) : Int) ∧ wrap64 ((m : Int) + (x0.size : Int)) = ((m + x0.size : Nat) : Int) ∧ wrap64 (((m + x0.size : Nat) : Int) + 1) = ((x0.size + 1 + m : Nat) : Int) ∧ (j : Int) < (x9.length : Int) ∧ (0 : Int) ≤ ((x6.length + j : Nat) : Int) ∧ ((x6.length + j : Nat) : Int) < (x12.length : Int) ∧ (0 : Int) ≤ (j : Int) := by
    clear ef ec ea' ea e1 e0 hT' hT
    refine ⟨w64a _ _ n (by omega) hn, w64b _ n (by omega) hn, w64a _ _ n (by omega) hn, ?_, by omega, by omega, by omega, by omega⟩
    rw [w64b _ n (by omega) hn]; omega
  obtain ⟨hw, hw2, hw3, hw4, d1, d2, d3, d4⟩ := arith
  simp only [colophonlaw10_ScanJoins.l0, hw, hw2, hT, hT', e0, e1, ea, ea', ec, hw3, hw4, if_pos d1, if_pos d2, if_pos d3, if_pos d4, if_true]
  by_cases h : 0 < j
  · have d5 : (j : Int) > 0 := by clear ef ec ea' ea e1 e0 hT' hT; omega
    have d6 : (T'.f3 != T.f3) = false := by rw [ef h]; simp
    rw [if_pos d5, d6]
  · have d5 : ¬ (j : Int) > 0 := by clear ef ec ea' ea e1 e0 hT' hT; omega
    rw [if_neg d5]
theorem joins_l0 (x0 : ByteArray) (la lb r : List Tk) (n : Nat) (hn : n < 4611686018427387904) (h0 : x0.size < 4611686018427387903) (hlen : (la ++ r).length ≤ n) (hrel : TksRel (x0.size + 1) true lb r) (hat : ∀ (i : Nat) (hi : i < lb.length) (m : Nat), (lb[i]'hi).place.at_ = (m : Int) → x0.size + 1 + m ≤ n) (d : Nat) : ∀ j : Nat, j ≤ lb.length → lb.length - j = d →
    Ev (fun k => colophonlaw10_ScanJoins.l0 k x0 (la.map tkS) (lb.map tkS) ((la ++ r).map tkS) true (j : Int)) true := by
  have hrl := hrel.len
  induction d with
  | zero =>
    intro j hj hd
    refine Ev.step (f := fun _ => some true) (fun k => ?_) (Ev.now true)
    simp only [colophonlaw10_ScanJoins.l0, List.length_map]
    rw [if_neg (by omega)]
  | succ d ih =>
    intro j hj hd
    have hjl : j < lb.length := by omega
    have hjr : j < r.length := by omega
    obtain ⟨⟨a1, a2, ⟨m, a3, a4⟩, a5⟩, a6⟩ := hrel.at j hjl hjr
    have hlr : la.length + j < (la ++ r).length := by rw [List.length_append]; omega
    have hget : (la ++ r)[la.length + j]'hlr = r[j]'hjr := by rw [List.getElem_append_right (by omega)]; congr 1; omega
    have hT := rd_tk' lb j hjl
    have hT' := rd_tk' (la ++ r) (la.length + j) hlr
    rw [hget] at hT'
    have hmm := hat j hjl m a3
    have b0 : (tkS (r[j]'hjr)).f0 = (tkS (lb[j]'hjl)).f0 := by show ((r[j]'hjr).kind : Int) = ((lb[j]'hjl).kind : Int); rw [a1]
    have b3 : 0 < j → (tkS (r[j]'hjr)).f3 = (tkS (lb[j]'hjl)).f3 := fun h => by show ((r[j]'hjr).feeds : Int) = ((lb[j]'hjl).feeds : Int); rw [a6 (.inl h)]
    refine Ev.step (fun k => joins_step x0 (la.map tkS) (lb.map tkS) ((la ++ r).map tkS) j n (tkS (lb[j]'hjl)) (tkS (r[j]'hjr)) m hn h0 (by simpa using hjl) (by rw [List.length_map, List.length_map]; exact hlr) (by rw [List.length_map]; exact hlen) hmm hT (by rw [List.length_map]; exact hT') b0 a2 a3 a4 a5 b3 k) (Ev.step (fun k => ?_) (ih (j + 1) (by omega) (by omega)))
    have hw2 := w64b j n (by rw [List.length_append] at hlen; omega) hn
    simp only [colophonlaw10_ScanJoins.j3, Bool.false_eq_true, if_false, hw2]
theorem joins_small (s : ByteArray) (hs : s.size < 4611686018427387904) : (allR s).1.length ≤ s.size ∧ (∀ (i : Nat) (hi : i < (allR s).1.length) (m : Nat), ((allR s).1[i]'hi).place.at_ = (m : Int) → m ≤ s.size) ∧ ((allR s).2.1 ≠ 0 → ∃ E : Nat, E ≤ s.size ∧ (allR s).2.2.at_ = (E : Int)) := by
  have hcov := allR_cov s
  generalize allR s = R at *
  obtain ⟨tks, er, q⟩ := R
  dsimp only at hcov ⊢
  refine ⟨?_, ?_, ?_⟩
  · by_cases h0 : tks = []
    · subst h0; simp
    · have := covd_len s tks 0 0 er q hcov h0; omega
  · intro i hi m hm
    obtain ⟨mm, h1, h2⟩ := covd_at s hs er q tks 0 0 hcov i hi
    have h3 : (mm : Int) = (m : Int) := h2.symm.trans hm
    have h4 : mm = m := Int.ofNat.inj h3
    rw [← h4]; exact h1
  · intro he
    obtain ⟨E, h1, h2⟩ := covd_end s tks 0 0 er q hcov he
    exact ⟨E, h1, by rw [h2]; exact adv_at0 s E h1 hs⟩
theorem joins_bytes (a b : ByteArray) : ((a ++ (⟨#[10]⟩ : ByteArray)) ++ b).data.toList = a.data.toList ++ 10 :: b.data.toList := by
  simp [ByteArray.data_append]
theorem joins_j0 (a b : ByteArray) (ha : a.size ≤ 67108864) (hb : b.size ≤ 67108864) : Ev (fun k => colophonlaw10_ScanJoins.j0 k a b true false) true := by
  have hbytes := joins_bytes a b
  have hsz : ((a ++ (⟨#[10]⟩ : ByteArray)) ++ b).size = a.size + 1 + b.size := by
    rw [← size_list, hbytes, List.length_append, List.length_cons, size_list, size_list]; omega
  have hsz1 : (a ++ (⟨#[10]⟩ : ByteArray)).size = a.size + 1 := by rw [ByteArray.size_append]; rfl
  have fa := all_f a (by omega)
  have fb := all_f b (by omega)
  have fs := all_f ((a ++ (⟨#[10]⟩ : ByteArray)) ++ b) (by omega)
  have hj := joins_R a b _ hbytes (by omega)
  have sa := joins_small a (by omega)
  have sb := joins_small b (by omega)
  have ss := joins_small ((a ++ (⟨#[10]⟩ : ByteArray)) ++ b) (by omega)
  generalize allR a = A at *
  generalize allR b = B at *
  generalize allR ((a ++ (⟨#[10]⟩ : ByteArray)) ++ b) = S at *
  obtain ⟨la, ea, qa⟩ := A
  obtain ⟨lb, eb, qb⟩ := B
  obtain ⟨ls, es, qs⟩ := S
  dsimp only at fa fb fs hj sa sb ss
  by_cases h0 : ea = 0
  · obtain ⟨r, rfl, r2, rfl, r4⟩ := hj h0
    have hrl := r2.len
    have hl := joins_l0 a la lb r (a.size + 1 + b.size) (by omega) (by omega) (by omega) r2 (fun i hi m hm => by have := sb.2.1 i hi m hm; omega) lb.length 0 (Nat.zero_le _) rfl
    have hj1 : Ev (fun k => colophonlaw10_ScanJoins.j1 k a (la.map tkS) (lb.map tkS) ((la ++ r).map tkS) false) true := by
      have hsm := same_f (la.map tkS) (by rw [List.length_map]; omega)
      refine Ev.step (f := fun k => (colophonlaw10_same.f k (la.map tkS) (la.map tkS)).bind fun t => colophonlaw10_ScanJoins.l0 k a (la.map tkS) (lb.map tkS) ((la ++ r).map tkS) t 0) (fun k => ?_) (Ev.bind hsm hl)
      have e1 : ((la ++ r).map tkS).take (la.map tkS).length = la.map tkS := by rw [List.map_append, List.take_left']; rfl
      simp only [colophonlaw10_ScanJoins.j1, Bool.false_eq_true, if_false]
      rw [if_pos (by omega), if_pos (by rw [List.length_map, List.length_map, List.length_append]; omega), Int.toNat_natCast, e1]
    refine Ev.step (f := fun k => colophonlaw10_ScanJoins.j1 k a (la.map tkS) (lb.map tkS) ((la ++ r).map tkS) false) (fun k => ?_) hj1
    have hcl : la.length + lb.length ≤ a.size + 1 + b.size := by have h1 := ss.1; rw [List.length_append, hrl] at h1; omega
    have hcnt : ((((la ++ r).map tkS).length : Int) != wrap64 (((la.map tkS).length : Int) + ((lb.map tkS).length : Int))) = false := by
      rw [List.length_map, List.length_map, List.length_map, List.length_append, hrl, w64a la.length lb.length (a.size + 1 + b.size) hcl (by omega)]
      simp
    simp only [colophonlaw10_ScanJoins.j0, Bool.false_eq_true, if_false]
    rw [fa, fb]
    simp only [Option.bind_some]
    rw [if_pos (by omega), if_pos (by rw [hsz1]; omega), fs]
    have e0 : ((ea : Nat) : Int) = 0 := by omega
    simp only [Option.bind_some, if_pos e0, if_true, hcnt]
    by_cases hz : es = 0
    · have e1 : ((es : Nat) : Int) = 0 := by omega
      rw [if_pos e1]
    · have e1 : ¬ ((es : Nat) : Int) = 0 := by omega
      obtain ⟨q, q1, q2⟩ := r4 hz
      obtain ⟨E, E1, E2⟩ := sb.2.2 hz
      have hqE : q = E := Int.ofNat.inj (q1.symm.trans E2)
      have hq : q ≤ b.size := by rw [hqE]; exact E1
      have hw : wrap64 (wrap64 ((q : Int) + (a.size : Int)) + 1) = ((a.size + 1 + q : Nat) : Int) := by
        clear q1 q2 E2
        rw [w64a q a.size (a.size + 1 + b.size) (by omega) (by omega), w64b _ (a.size + 1 + b.size) (by omega) (by omega)]; omega
      rw [if_neg e1, q1, hw, if_pos q2]
  · refine Ev.step (f := fun k => some true) (fun k => ?_) (Ev.now true)
    simp only [colophonlaw10_ScanJoins.j0, Bool.false_eq_true, if_false]
    rw [fa, fb]
    simp only [Option.bind_some]
    rw [if_pos (by omega), if_pos (by rw [hsz1]; omega), fs]
    simp only [Option.bind_some]
    rw [if_neg (by omega)]
/-- The pure statement. -/
theorem joins (a b : ByteArray) : Ev (fun k => colophonlaw10_ScanJoins.f k a b) true := by
  refine Ev.congr (f := fun k => (colophonlaw10_awake.f k).bind fun t => (if t = true then (if (a.size : Int) > 67108864 then (colophonlaw10_ScanJoins.j0 k a b t true) else (colophonlaw10_ScanJoins.j0 k a b t (decide ((b.size : Int) > 67108864)))) else (colophonlaw10_ScanJoins.j0 k a b t true))) (fun k => rfl) (Ev.bind awake_f ?_)
  simp only [if_true]
  have big : Ev (fun k => colophonlaw10_ScanJoins.j0 k a b true true) true := by
    refine Ev.step (f := fun k => some true) (fun k => ?_) (Ev.now true)
    simp only [colophonlaw10_ScanJoins.j0, if_true]
  by_cases h1 : (a.size : Int) > 67108864
  · simp only [if_pos h1]; exact big
  · simp only [if_neg h1]
    by_cases h2 : (b.size : Int) > 67108864
    · simp only [decide_eq_true h2]; exact big
    · simp only [decide_eq_false h2]; exact joins_j0 a b (by omega) (by omega)
end Go.Proofs.YtgfloplakjmncaaDoor.PScan
