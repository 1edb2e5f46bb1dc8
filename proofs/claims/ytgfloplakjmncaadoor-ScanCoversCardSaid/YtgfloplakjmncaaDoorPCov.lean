/- ScanCovers, the pure statement: what the printed function comes to. By an AI agent; no person has read it. -/
import Derived.Test.YtgfloplakjmncaaDoorEndLaws
import Derived.Test.YtgfloplakjmncaaDoorPScanx12
import Derived.Test.YtgfloplakjmncaaDoorPSame
set_option linter.unusedSimpArgs false
set_option linter.unusedVariables false
namespace Go.Proofs.YtgfloplakjmncaaDoor.PScan
open Go Go.RowKit Go.Proofs.YtgfloplakjmncaaDoor Go.Proofs.YtgfloplakjmncaaDoorW.PrintWords Go.Proofs.YtgfloplakjmncaaDoorW.PrintLast

theorem bt_of (s : ByteArray) (i : Nat) (h : i < s.size) : bt s (i : Int) = ((s[i]'h).toNat : Int) := by
  unfold bt
  simp [h]
theorem blank_f (c : UInt8) : colophonlaw10_blank.f (c.toNat : Int) = some (blankB c) := by
  have h1 := u8_beq c 32 (by decide)
  have h2 := u8_beq c 9 (by decide)
  have h3 := u8_beq c 13 (by decide)
  have hB : blankB c = ((c == UInt8.ofNat 32) || (c == UInt8.ofNat 9) || (c == UInt8.ofNat 13)) := rfl
  rw [hB, ← h1, ← h2, ← h3]
  unfold colophonlaw10_blank.f
  by_cases a1 : (c.toNat : Int) = 32
  · rw [if_pos a1]; simp [a1]
  · rw [if_neg a1]
    by_cases a2 : (c.toNat : Int) = 9
    · rw [if_pos a2]; simp [a2]
    · rw [if_neg a2]; simp [a1, a2]
theorem between_l0 (s : ByteArray) (b : Nat) (hb : b ≤ s.size) (hs : s.size < 4611686018427387904) (d : Nat) : ∀ (i n : Nat), i ≤ b → b - i = d → n ≤ i →
    Ev (fun k => colophonlaw10_between.l0 k s (b : Int) (n : Int) (i : Int)) (if ((s.extract i b).data.toList.all fun c => c == 10 || blankB c) = true then ((n + (s.extract i b).data.toList.count 10 : Nat) : Int) else -1) := by
  induction d with
  | zero =>
    intro i n hi hd hn
    have : i = b := by omega
    subst this
    refine Ev.step (f := fun _ => some (n : Int)) (fun k => by simp only [colophonlaw10_between.l0]; rw [if_neg (by omega)]) ?_
    have he : (s.extract i i).data.toList = [] := by rw [Lib.extract_data]; simp
    rw [he]
    simpa using Ev.now (n : Int)
  | succ d ih =>
    intro i n hi hd hn
    have hlt : i < s.size := by omega
    have hsp : (s.extract i b).data.toList = s[i]'hlt :: (s.extract (i + 1) b).data.toList := by
      rw [Lib.extract_data, Lib.extract_data, show b - i = (b - (i + 1)) + 1 by omega, ← List.getElem_cons_drop (i := i) (by simpa using hlt), List.take_succ_cons]
      rfl
    rw [hsp]
    have hw : ∀ x : Nat, x ≤ s.size → wrap64 ((x : Int) + 1) = ((x + 1 : Nat) : Int) := fun x hx => by unfold wrap64; omega
    have hbt := bt_of s i hlt
    have h10 := u8_beq (s[i]'hlt) 10 (by decide)
    by_cases c10 : s[i]'hlt = 10
    · refine Ev.step (f := fun k => colophonlaw10_between.l0 k s (b : Int) ((n + 1 : Nat) : Int) ((i + 1 : Nat) : Int)) (fun k => ?_) ?_
      · have e10 : bt s (i : Int) = 10 := by rw [hbt, c10]; rfl
        simp only [colophonlaw10_between.l0]
        rw [if_pos (by omega), if_pos (by omega), if_pos (by omega), if_pos e10, hw n (by omega), hw i (by omega)]
      · have := ih (i + 1) (n + 1) (by omega) (by omega) (by omega)
        rw [c10]
        simpa [List.count_cons, Nat.add_assoc, Nat.add_comm, Nat.add_left_comm] using this
    · have e10 : ¬ bt s (i : Int) = 10 := by
        rw [hbt]; intro h; apply c10
        have h11 : ((s[i]'hlt).toNat : Int) == 10 := beq_iff_eq.2 h
        have h12 : (s[i]'hlt == UInt8.ofNat 10) = true := h10.symm.trans h11
        exact beq_iff_eq.1 h12
      have b10 : (s[i]'hlt == 10) = false := by simpa using c10
      cases hB : blankB (s[i]'hlt) with
      | true =>
        refine Ev.step (f := fun k => colophonlaw10_between.l0 k s (b : Int) (n : Int) ((i + 1 : Nat) : Int)) (fun k => ?_) ?_
        · simp only [colophonlaw10_between.l0]
          rw [if_pos (by omega), if_pos (by omega), if_pos (by omega), if_neg e10, hbt, blank_f, hB]
          simp only [Option.bind_some, if_true]
          rw [hw i (by omega)]
        · have := ih (i + 1) n (by omega) (by omega) (by omega)
          simpa [b10, hB, List.count_cons] using this
      | false =>
        refine Ev.step (f := fun k => some (-1)) (fun k => ?_) ?_
        · simp only [colophonlaw10_between.l0]
          rw [if_pos (by omega), if_pos (by omega), if_pos (by omega), if_neg e10, hbt, blank_f, hB]
          simp only [Option.bind_some, Bool.false_eq_true, if_false]
        · simpa [b10, hB] using Ev.now (-1 : Int)
theorem between_f (s : ByteArray) (a b : Nat) (hab : a ≤ b) (hb : b ≤ s.size) (hs : s.size < 4611686018427387904) :
    Ev (fun k => colophonlaw10_between.f k s (a : Int) (b : Int)) (betw (s.extract a b).data.toList) := by
  have h := between_l0 s b hb hs (b - a) a 0 hab rfl (Nat.zero_le _)
  refine Ev.congr (f := fun k => colophonlaw10_between.j0 k s (a : Int) (b : Int) false) (fun k => ?_) ?_
  · unfold colophonlaw10_between.f
    rw [if_neg (by omega), decide_eq_false (by omega)]
  · refine Ev.step (f := fun k => colophonlaw10_between.l0 k s (b : Int) ((0 : Nat) : Int) (a : Int)) (fun k => ?_) ?_
    · simp only [colophonlaw10_between.j0, Bool.false_eq_true, if_false]; rfl
    · unfold betw; simpa using h
theorem start_f : place_Start.f = some (0, 1, 1) := rfl
theorem adv_f (p : Pl) (t : ByteArray) (h : t.size < 4611686018427387904) : place_Advance.f p.at_ p.line p.col t = some ((adv p t.data.toList).at_, (adv p t.data.toList).line, (adv p t.data.toList).col) := by
  unfold place_Advance.f; rw [if_pos h]
theorem of_f (s : ByteArray) (k : Nat) (hk : k ≤ s.size) (hs : s.size < 4611686018427387904) : place_Of.f s (k : Int) = some ((adv pl1 (s.data.toList.take k)).at_, (adv pl1 (s.data.toList.take k)).line, (adv pl1 (s.data.toList.take k)).col, 0) := by
  unfold place_Of.f; rw [if_pos ⟨hs, by omega, by omega⟩]; rfl
theorem adv_at (s : ByteArray) (E : Nat) (hE : E ≤ s.size) (hs : s.size < 4611686018427387904) : (adv pl1 (s.data.toList.take E)).at_ = E := by
  have h1 : (s.data.toList.take E).length = E := by simp; omega
  show wrap64 (0 + ((s.data.toList.take E).length : Int)) = E
  rw [h1, wrap_ok (by unfold okI; omega)]; omega
theorem rd_tk (l : List Tk) (j : Nat) (h : j < l.length) : rd_T35 (l.map tkS) (j : Int) = tkS (l[j]'h) := by
  unfold rd_T35
  simp [List.getD_eq_getElem?_getD, h]
theorem w64n (a b n : Nat) (h : a + b ≤ n) (hn : n < 4611686018427387904) : wrap64 ((a : Int) + (b : Int)) = ((a + b : Nat) : Int) := by unfold wrap64; omega
theorem w64s (a n : Nat) (h : a < n) (hn : n < 4611686018427387904) : wrap64 ((a : Int) + 1) = ((a + 1 : Nat) : Int) := by unfold wrap64; omega
/-- A step of the loop. -/
theorem covers_step (s : ByteArray) (toks : List S35) (er last : Int) (j m a : Nat) (T : S35) (p0 p1 p2 : Int) (hs : s.size < 4611686018427387904) (hj : j < toks.length) (hrd : rd_T35 toks (j : Int) = T) (hf : T.f2.f0 = (m : Int)) (hsz : 0 < T.f1.size)
    (hend : m + T.f1.size ≤ s.size) (hx : s.extract m (m + T.f1.size) = T.f1) (k : Nat) :
    colophonlaw10_ScanCovers.l0 (k + 1) s toks er last (a : Int) (j : Int) p0 p1 p2 = (colophonlaw10_between.f k s (a : Int) (m : Int)).bind fun t363 => if t363 < 0 then none else if t363 = T.f3 then colophonlaw10_ScanCovers.j3 k s toks er last (j : Int) ((m + T.f1.size : Nat) : Int) false p0 p1 p2 T.f0 T.f1 (m : Int) T.f2.f1 T.f2.f2 T.f3 else none := by
  have hw := w64n m T.f1.size s.size hend hs
  have hx2 : ((s.extract (m : Int).toNat ((m + T.f1.size : Nat) : Int).toNat).toList != T.f1.toList) = false := by
    rw [Int.toNat_natCast, Int.toNat_natCast, hx]; simp
  simp only [colophonlaw10_ScanCovers.l0]
  rw [if_pos (by omega), if_pos (by omega), hrd, hf, hw]
  have c1 : ¬ ((T.f1.size : Int) = 0) := by omega
  have c2 : ¬ (((m + T.f1.size : Nat) : Int) > (s.size : Int)) := by omega
  have c3 : (0 : Int) ≤ (m : Int) := by omega
  have c4 : (m : Int) ≤ ((m + T.f1.size : Nat) : Int) := by omega
  have c5 : ((m + T.f1.size : Nat) : Int) ≤ (s.size : Int) := by omega
  simp only [if_neg c1, if_neg c2, if_pos c3, if_pos c4, if_pos c5, hx2]
/-- The end behind all tokens. -/
def lastOf (s : ByteArray) (er : Nat) (q : Pl) : Int := if er = 0 then (s.size : Int) else q.at_
theorem covers_l0 (s : ByteArray) (hs : s.size < 4611686018427387904) (all : List Tk) (hall : all.length ≤ s.size) (er : Nat) (q : Pl) (d : Nat) : ∀ (j a h : Nat), j ≤ all.length → all.length - j = d → a ≤ s.size → h ≤ a → Covd s a h (all.drop j) er q →
    Ev (fun k => colophonlaw10_ScanCovers.l0 k s (all.map tkS) (er : Int) (lastOf s er q) (a : Int) (j : Int) (adv pl1 (s.data.toList.take h)).at_ (adv pl1 (s.data.toList.take h)).line (adv pl1 (s.data.toList.take h)).col) true := by
  induction d with
  | zero =>
    intro j a h hj hd ha hh hc
    have hj2 : j = all.length := by omega
    subst hj2
    rw [List.drop_length] at hc
    by_cases he : er = 0
    · obtain ⟨h1, h2⟩ := hc.1 he
      have hb := between_f s a s.size ha (Nat.le_refl _) hs
      refine Ev.step (f := fun k => (colophonlaw10_between.f k s (a : Int) (s.size : Int)).bind fun t => if t ≥ 0 then some true else (if (er : Int) = 102 then (some (decide ((a : Int) < lastOf s er q))) else (none))) (fun k => ?_) (Ev.bind hb ?_)
      · simp only [colophonlaw10_ScanCovers.l0, List.length_map]
        rw [if_neg (by omega)]
        unfold lastOf; rw [if_pos he]
      · simp only [ge_iff_le, if_pos h2]; exact Ev.now true
    · obtain ⟨E, h1, h2, h3, h4⟩ := hc.2 he
      have hl : lastOf s er q = (E : Int) := by unfold lastOf; rw [if_neg he, h3, adv_at s E h1 hs]
      have hb := between_f s a E h2 h1 hs
      rw [hl]
      refine Ev.step (f := fun k => (colophonlaw10_between.f k s (a : Int) (E : Int)).bind fun t => if t ≥ 0 then some true else (if (er : Int) = 102 then (some (decide ((a : Int) < (E : Int)))) else (none))) (fun k => ?_) (Ev.bind hb ?_)
      · simp only [colophonlaw10_ScanCovers.l0, List.length_map]
        rw [if_neg (by omega)]
      · by_cases h5 : 0 ≤ betw (s.extract a E).data.toList
        · simp only [ge_iff_le, if_pos h5]; exact Ev.now true
        · rcases h4 with h4 | ⟨h6, h7⟩
          · exact absurd h4 h5
          · have e1 : (er : Int) = 102 := by omega
            have e2 : decide ((a : Int) < (E : Int)) = true := decide_eq_true (by omega)
            simp only [ge_iff_le, if_neg h5, if_pos e1, e2]; exact Ev.now true
  | succ d ih =>
    intro j a h hj hd ha hh hc
    have hlt : j < all.length := by omega
    rw [← List.getElem_cons_drop hlt] at hc
    obtain ⟨m, m1, m2, m3, m4, m5, m6, m7, m8, m9⟩ := hc
    have hrd := rd_tk all j hlt
    generalize all[j]'hlt = t at *
    have hnext := ih (j + 1) (m + t.text.size) m (by omega) (by omega) m3 (by omega) m9
    have hat : t.place.at_ = (m : Int) := by rw [m5]; exact adv_at s m (by omega) hs
    have hb := between_f s a m m1 (by omega) hs
    refine Ev.step (fun k => covers_step s (all.map tkS) (er : Int) (lastOf s er q) j m a (tkS t) _ _ _ hs (by simpa using hlt) hrd hat m4 m3 m7 k) (Ev.bind hb ?_)
    rw [m6]
    have c1 : ¬ ((t.feeds : Int) < 0) := by omega
    have c2 : ((t.feeds : Int) = (tkS t).f3) := rfl
    simp only [if_neg c1, if_pos c2]
    have hw2 := w64s j s.size (by omega) hs
    have d0 : (s.extract h m).size < 4611686018427387904 := by simp; omega
    have d1 : (0 : Int) ≤ (h : Int) := by omega
    have d2 : (h : Int) ≤ (m : Int) := by omega
    have d3 : (m : Int) ≤ (s.size : Int) := by omega
    have d4 : h ≤ s.size := by omega
    have d5 : m ≤ s.size := by omega
    have hath : (adv pl1 (s.data.toList.take h)).at_ = (h : Int) := adv_at s h d4 hs
    have p2 : (adv pl1 (s.data.toList.take m)).at_ = (m : Int) := adv_at s m d5 hs
    have hav := adv_f (adv pl1 (s.data.toList.take h)) (s.extract h m) d0
    rw [hath, m8, p2] at hav
    have q0 : (tkS t).f2.f1 = (adv pl1 (s.data.toList.take m)).line := by show t.place.line = _; rw [m5]
    have q1 : (tkS t).f2.f2 = (adv pl1 (s.data.toList.take m)).col := by show t.place.col = _; rw [m5]
    rw [hath, q0, q1]
    rw [p2] at hnext
    clear hath p2 m8 m5 hat q0 q1 hrd hb
    refine Ev.step (fun k => ?_) hnext
    simp only [colophonlaw10_ScanCovers.j3, Bool.false_eq_true, if_false]
    rw [if_pos d1, if_pos d2, if_pos d3, Int.toNat_natCast, Int.toNat_natCast, hav]
    simp only [Option.bind_some, hw2]
    simp
    rfl
/-- The pure statement. -/
theorem covers (s : ByteArray) : Ev (fun k => colophonlaw10_ScanCovers.f k s) true := by
  refine Ev.congr (f := fun k => (colophonlaw10_awake.f k).bind fun t342 => (if t342 = true then (colophonlaw10_ScanCovers.j0 k s t342 (decide ((s.size : Int) > 67108864))) else (colophonlaw10_ScanCovers.j0 k s t342 true))) (fun k => rfl) (Ev.bind awake_f ?_)
  simp only [if_true]
  by_cases hbig : (s.size : Int) > 67108864
  · refine Ev.step (f := fun k => some true) (fun k => ?_) (Ev.now true)
    simp only [colophonlaw10_ScanCovers.j0]
    rw [decide_eq_true hbig, if_pos rfl]
  · have hs : s.size < 4611686018427387904 := by omega
    have hall : scan_All.f s = some ((allR s).1.map tkS, ((allR s).2.1 : Int), (allR s).2.2.at_, (allR s).2.2.line, (allR s).2.2.col) := by
      unfold scan_All.f; rw [if_pos (by omega)]
    have hcov := allR_cov s
    generalize allR s = R at *
    obtain ⟨tks, er, q⟩ := R
    dsimp only at hall hcov
    have hlen : tks.length ≤ s.size := by
      by_cases h0 : tks = []
      · subst h0; simp
      · have := covd_len s tks 0 0 er q hcov h0; omega
    have hl := covers_l0 s hs tks hlen er q tks.length 0 0 0 (Nat.zero_le _) rfl (Nat.zero_le _) (Nat.le_refl _) hcov
    have hp0 : adv pl1 (s.data.toList.take 0) = ⟨0, 1, 1⟩ := by rw [List.take_zero]; exact adv_nil pl1 (by simp [Pl.ok, okI])
    rw [hp0] at hl
    have hj1 : Ev (fun k => colophonlaw10_ScanCovers.j1 k s (tks.map tkS) (er : Int) (lastOf s er q)) true := by
      refine Ev.step (fun k => ?_) hl
      simp only [colophonlaw10_ScanCovers.j1, start_f, Option.bind_some]
      rfl
    refine Ev.step (f := fun k => colophonlaw10_ScanCovers.j1 k s (tks.map tkS) (er : Int) (lastOf s er q)) (fun k => ?_) hj1
    simp only [colophonlaw10_ScanCovers.j0]
    rw [decide_eq_false hbig, if_neg (by decide), hall]
    simp only [Option.bind_some]
    by_cases he : er = 0
    · rw [if_pos (by omega)]
      unfold lastOf; rw [if_pos he]
    · obtain ⟨E, hE, rfl⟩ := covd_end s tks 0 0 er q hcov he
      have hat := adv_at s E hE hs
      rw [if_neg (by omega), hat, of_f s E hE hs, hat]
      simp only [Option.bind_some, if_true]
      unfold lastOf; rw [if_neg he, hat]
      simp
end Go.Proofs.YtgfloplakjmncaaDoor.PScan
