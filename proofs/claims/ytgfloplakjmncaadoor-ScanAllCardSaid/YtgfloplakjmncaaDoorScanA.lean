/- What scan.All comes to; its contract. By an AI agent; no person has read it. -/
import Derived.Test.YtgfloplakjmncaaDoorScanW
import Derived.Test.YtgfloplakjmncaaDoorTxt
import Derived.Lib.SlTrimSet
import Derived.Test.YtgfloplakjmncaaDoorPlace
import Derived.Test.YtgfloplakjmncaaDoorShelf
import Derived.Shelf.Strings.SlTrimAscii
import Derived.Deep.AppendLies
import Derived.Deep.DeepCutAuto
import Derived.Lib.QuietBelow
import Derived.OwnWalk
import Derived.Deep.Onto
import Derived.Below
set_option linter.unusedSimpArgs false
set_option linter.unusedVariables false
namespace Go.Proofs.YtgfloplakjmncaaDoor
open Go
theorem namedF_le : ∀ (f : Nat) (l : List UInt8) (k r : Nat), namedF f l k = some r → k ≤ r ∧ r ≤ k + l.length
  | 0, l, k, r, h => by simp [namedF] at h
  | f + 1, l, k, r, h => by
    rw [namedF] at h
    have hb := (nextL_bounds l).2.1
    split at h
    · split at h
      · cases h
      · have := namedF_le f _ _ r h
        simp at this; omega
    · injection h with h; omega
theorem numberedF_le : ∀ (f : Nat) (l : List UInt8) (k r : Nat), numberedF f l k = some r → k ≤ r ∧ r ≤ k + l.length
  | 0, l, k, r, h => by simp [numberedF] at h
  | f + 1, l, k, r, h => by
    rw [numberedF] at h
    have hb := (nextL_bounds l).2.1
    split at h
    · split at h
      · cases h
      · have := numberedF_le f _ _ r h
        simp at this; omega
    · injection h with h; omega
theorem quotedF_le : ∀ (f : Nat) (l : List UInt8) (k : Nat), (quotedF f l k).2.1 ≤ k + l.length ∧ ((quotedF f l k).2.2 = 0 → k ≤ (quotedF f l k).2.1)
  | 0, l, k => by simp [quotedF]
  | f + 1, l, k => by
    rw [quotedF]
    have hb := (nextL_bounds l).2.1
    split
    · simp
    · split
      · simp
      · split
        · simp
        · split
          · simp
          · split
            · simp; omega
            · have := quotedF_le f (l.drop (nextL l).2.1) (k + (nextL l).2.1)
              simp only [List.length_drop] at this
              exact ⟨by omega, fun h => by have := this.2 h; omega⟩
theorem commentF_le (line : Bool) : ∀ (f : Nat) (l : List UInt8) (k : Nat), (commentF line f l k).2.1 ≤ k + l.length ∧ ((commentF line f l k).2.2 = 0 → k ≤ (commentF line f l k).2.1)
  | 0, l, k => by simp [commentF]
  | f + 1, l, k => by
    rw [commentF]
    have hb := (nextL_bounds l).2.1
    split
    · split <;> simp
    · split
      · simp
      · split
        · simp
        · split
          · simp; omega
          · have := commentF_le line f (l.drop (nextL l).2.1) (k + (nextL l).2.1)
            simp only [List.length_drop] at this
            exact ⟨by omega, fun h => by have := this.2 h; omega⟩
theorem singleF_le (l : List UInt8) (k : Nat) : (singleF l k).2.1 ≤ k + l.length ∧ ((singleF l k).2.2 = 0 → k ≤ (singleF l k).2.1) := by
  unfold singleF
  have hb := (nextL_bounds l).2.1
  have hb2 := (nextL_bounds (l.drop (nextL l).2.1)).2.1
  simp only [List.length_drop] at hb2
  repeat' split
  all_goals simp
  all_goals omega
theorem signB_le (t : ByteArray) : (signB t).size ≤ t.size := by
  unfold signB
  by_cases h0 : t.size = 0
  · rw [if_pos h0]; exact Nat.zero_le _
  · rw [if_neg h0]
    cases hf : twoZs.find? (fun z => Lib.hasPrefix t.data.toList z.data.toList) with
    | some z =>
      have hp := List.find?_some hf
      have hm := (List.isPrefixOf_iff_prefix.1 hp).length_le
      simp at hm ⊢; omega
    | none =>
      dsimp only
      split
      · simp; omega
      · exact Nat.zero_le _
/-- Where a token ends. -/
theorem oneR_le (s : ByteArray) (a : Nat) (ha : a < s.size) : a ≤ (oneR s a).2.1 ∧ (oneR s a).2.1 ≤ s.size ∧ ((oneR s a).2.2 = 0 → a < (oneR s a).2.1) := by
  have hb := nextL_bounds (s.data.toList.drop a)
  have hn := hb.2.2.2.1 (by intro h; have := congrArg List.length h; simp at this; omega)
  have hl := hb.2.1
  clear hb
  simp only [List.length_drop, Array.length_toList, ByteArray.size_data] at hl
  unfold oneR
  generalize nextL (s.data.toList.drop a) = x at *
  obtain ⟨v, n, g⟩ := x
  dsimp only at *
  have hd : (s.data.toList.drop (a + n)).length = s.size - (a + n) := by simp
  split
  · unfold namedR
    cases h : namedF (s.size - (a + n) + 1) (s.data.toList.drop (a + n)) (a + n - a) with
    | none => simp [namedO]; omega
    | some r => have := namedF_le _ _ _ _ h; rw [hd] at this; simp only [namedO]; omega
  · split
    · unfold numberedR
      cases h : numberedF (s.size - (a + n) + 1) (s.data.toList.drop (a + n)) (a + n - a) with
      | none => simp [numberedO]; omega
      | some r => have := numberedF_le _ _ _ _ h; rw [hd] at this; simp only [numberedO]; omega
    · split
      · have := quotedF_le (s.size - (a + n) + 1) (s.data.toList.drop (a + n)) (a + n - a)
        rw [hd] at this
        simp only [quotedR, offR]
        exact ⟨by omega, by omega, fun h => by have := this.2 h; omega⟩
      · split
        · have := singleF_le (s.data.toList.drop (a + n)) (a + n - a)
          rw [hd] at this
          simp only [singleR, offR]
          exact ⟨by omega, by omega, fun h => by have := this.2 h; omega⟩
        · split
          · have := commentF_le (s.data.toList.getD a 0 == 47) (s.size - (a + n) + 1) (s.data.toList.drop (a + n)) (a + n - a)
            rw [hd] at this
            simp only [commentR, offR]
            exact ⟨by omega, by omega, fun h => by have := this.2 h; omega⟩
          · have := signB_le (s.extract a s.size)
            simp at this
            split
            · simp; omega
            · exact ⟨by simp, by simp; omega, fun _ => by simp; omega⟩
/-- A token. -/
structure Tk where
  kind : Nat
  text : ByteArray
  place : Pl
  feeds : Nat
/-- Its cells. -/
def tkC (t : Tk) : List Value := [.int .u8 t.kind, .string t.text, .int .i64 t.place.at_, .int .i64 t.place.line, .int .i64 t.place.col, .int .i64 t.feeds]
def tksC (l : List Tk) : List Value := l.flatMap tkC
theorem tksC_len (l : List Tk) : (tksC l).length = l.length * 6 := by
  induction l with
  | nil => rfl
  | cons t l ih => simp only [tksC, List.flatMap_cons, List.length_append, List.length_cons] at ih ⊢; rw [ih]; simp [tkC]; omega
theorem tksC_snoc (l : List Tk) (t : Tk) : tksC (l ++ [t]) = tksC l ++ tkC t := by simp [tksC]
/-- How many blanks and line ends stand at a place. -/
def gap (s : ByteArray) (a : Nat) : Nat := (s.data.toList.drop a).length - (Lib.trimLeftS (s.data.toList.drop a) [32, 9, 13, 10]).length
theorem trimLeft_le (l cs : List UInt8) : (Lib.trimLeftS l cs).length ≤ l.length := (List.dropWhile_sublist _).length_le
theorem gap_le (s : ByteArray) (a : Nat) (h : a ≤ s.size) : a + gap s a ≤ s.size := by
  have : (s.data.toList.drop a).length = s.size - a := by simp
  unfold gap; omega
/-- A token's text: a line's comment without what is blank at its end. -/
def textOf (s : ByteArray) (k a e : Nat) : ByteArray := if k = 7 then ⟨(Lib.trimRightS (s.extract a e).data.toList [32, 9, 13]).toArray⟩ else s.extract a e
/-- What scan.All comes to from a place on. -/
def allF : Nat → ByteArray → Nat → Pl → List Tk × Nat × Pl
  | 0, _, _, _ => ([], 0, ⟨0, 0, 0⟩)
  | f + 1, s, a, p =>
    if a + gap s a = s.size then ([], 0, ⟨0, 0, 0⟩)
    else if (oneR s (a + gap s a)).2.2 = 0 then
      ((⟨(oneR s (a + gap s a)).1, textOf s (oneR s (a + gap s a)).1 (a + gap s a) (oneR s (a + gap s a)).2.1, adv p (s.extract a (a + gap s a)).data.toList, feeds (s.extract a (a + gap s a)).data.toList⟩ : Tk)
        :: (allF f s (oneR s (a + gap s a)).2.1 (adv (adv p (s.extract a (a + gap s a)).data.toList) (s.extract (a + gap s a) (oneR s (a + gap s a)).2.1).data.toList)).1,
        (allF f s (oneR s (a + gap s a)).2.1 (adv (adv p (s.extract a (a + gap s a)).data.toList) (s.extract (a + gap s a) (oneR s (a + gap s a)).2.1).data.toList)).2)
    else ([], (oneR s (a + gap s a)).2.2, adv (adv p (s.extract a (a + gap s a)).data.toList) (s.extract (a + gap s a) (oneR s (a + gap s a)).2.1).data.toList)
def allR (s : ByteArray) : List Tk × Nat × Pl := allF (s.size + 1) s 0 ⟨0, 1, 1⟩
end Go.Proofs.YtgfloplakjmncaaDoor
namespace Go.Proofs.YtgfloplakjmncaaDoor
open Go Go.RowKit Go.Sort
theorem tok_info : (Tryd.prog.info? 35).map (fun i => (i.zero, i.size, i.bytes)) = some (some (.agg #[.int .u8 0, .string ⟨#[]⟩, .int .i64 0, .int .i64 0, .int .i64 0, .int .i64 0]), 6, 56) := by kernel_rfl
theorem trimLeft_calls (s : ByteArray) (w : World) :
    Calls Tryd.prog 16 #[.string s, .string ⟨#[32, 9, 13, 10]⟩] w fun e w' => e = .returned (.string ⟨(Lib.trimLeftS s.data.toList [32, 9, 13, 10]).toArray⟩) ∧ Kp w w' :=
  Any.strings_TrimLeft_laid Tryd.lays161 (by kernel_rfl) s ⟨#[32, 9, 13, 10]⟩ w (by decide) (ascii_of_all (by decide))
theorem trimRight_calls (s : ByteArray) (w : World) (hs : s.size ≤ 9223372036854775807) :
    Calls Tryd.prog 19 #[.string s, .string ⟨#[32, 9, 13]⟩] w fun e w' => e = .returned (.string ⟨(Lib.trimRightS s.data.toList [32, 9, 13]).toArray⟩) ∧ Kp w w' :=
  Any.strings_TrimRight_laid Tryd.lays162 (by kernel_rfl) s ⟨#[32, 9, 13]⟩ w hs (by decide) (ascii_of_all (by decide))
theorem Has.kp2 {w w' x : World} {b : Nat} {cs : Array Value} {ty : TypeId} (h : Has x b cs ty) (k : Kp w w') (hx : w.heap = x.heap) : Has w' b cs ty := by
  refine Has.kp (w := w) ?_ k
  unfold Has at *; rw [hx]; exact h
/-- What the loop's memory holds. -/
def Al (w : World) (b4 b6 : Nat) (p : Pl) (out : Value) (tks : List Tk) (wx : World) : Prop :=
  Kp w wx ∧ w.heap.size ≤ b4 ∧ b4 < b6 ∧ Has wx b4 #[.int .i64 0, .int .i64 0, .int .i64 0] 26 ∧ Has wx b6 #[.int .i64 p.at_, .int .i64 p.line, .int .i64 p.col] 26 ∧ wx.ownsRow (b6 + 1) 35 6 out tks.length (tksC tks)
theorem owns_kp {w w' : World} {base : Nat} {e : TypeId} {size : Nat} {v : Value} {n : Nat} {xs : List Value} (h : w.ownsRow base e size v n xs) (k : Kp w w') : w'.ownsRow base e size v n xs := by
  obtain ⟨h1, h2⟩ := h
  refine ⟨h1, h2.imp id ?_⟩
  rintro ⟨g, cap, cur, a, b, c, d, e, f, i⟩
  exact ⟨g, cap, cur, a, b, heap_kp k c, d, e, f, i⟩
theorem Al.kp {w : World} {b4 b6 : Nat} {p : Pl} {out : Value} {tks : List Tk} {wx wy : World} (h : Al w b4 b6 p out tks wx) (k : Kp wx wy) : Al w b4 b6 p out tks wy := by
  obtain ⟨h1, h2, h3, h4, h5, h6⟩ := h
  exact ⟨h1.trans k, h2, h3, h4.kp k, h5.kp k, owns_kp h6 k⟩
/-- The place is written over. -/
theorem Al.place {w : World} {b4 b6 : Nat} {p : Pl} {out : Value} {tks : List Tk} {wx wy : World} (h : Al w b4 b6 p out tks wx) (k : Kp wx wy) (q : Pl) :
    Al w b4 b6 q out tks (((wy.setCell ⟨b6, 0, none⟩ (.int .i64 q.at_)).setCell ⟨b6, 1, none⟩ (.int .i64 q.line)).setCell ⟨b6, 2, none⟩ (.int .i64 q.col)) := by
  obtain ⟨h1, h2, h3, h4, h5, h6⟩ := h.kp k
  have hb : w.heap.size ≤ b6 := by omega
  refine ⟨((h1.setCell (by simpa using hb) _).setCell (by simpa using hb) _).setCell (by simpa using hb) _, h2, h3, ((h4.set_other _ _ (by simp; omega)).set_other _ _ (by simp; omega)).set_other _ _ (by simp; omega), ?_, ?_⟩
  · have := ((h5.set 0 (.int .i64 q.at_)).set 1 (.int .i64 q.line)).set 2 (.int .i64 q.col)
    simpa using this
  · exact ownsRow_setCell_below (ownsRow_setCell_below (ownsRow_setCell_below h6 (by simp) _) (by simp) _) (by simp) _
/-- A token more. -/
theorem Al.more {w : World} {b4 b6 : Nat} {p : Pl} {out new : Value} {tks : List Tk} {t : Tk} {wx wy wz : World} (h : Al w b4 b6 p out tks wx) (k : Kp wx wy) (hg : wy.grownBy wz out.ownBlock)
    (ho : wz.ownsRow (b6 + 1) 35 6 new (tks.length + 1) (tksC tks ++ tkC t)) : Al w b4 b6 p new (tks ++ [t]) wz := by
  obtain ⟨h1, h2, h3, h4, h5, h6⟩ := h.kp k
  have hr : ∀ k, out.ownBlock = some k → b6 + 1 ≤ k := fun k hk => (h6.lt k hk).1
  have h4lt := h4.lt
  have h5lt := h5.lt
  refine ⟨h1.grown hg (by have := h1.size; omega) (fun k hk => by have := hr k hk; omega), h2, h3, ?_, ?_, ?_⟩
  · unfold Has at *; rw [hg.block b4 h4lt (fun e => by have := hr b4 e.symm; omega)]; exact h4
  · unfold Has at *; rw [hg.block b6 h5lt (fun e => by have := hr b6 e.symm; omega)]; exact h5
  · rw [tksC_snoc]; simpa using ho
theorem tkC_one (t : Tk) : ∀ u ∈ tkC t, u.oneCell' = true := by
  intro u hu
  simp [tkC] at hu
  rcases hu with rfl | rfl | rfl | rfl | rfl | rfl <;> rfl
theorem Al.done {w : World} {b4 b6 : Nat} {p : Pl} {out : Value} {tks : List Tk} {wx : World} (h : Al w b4 b6 p out tks wx) : wx.ownsRow w.heap.size 35 6 out tks.length (tksC tks) ∧ Kp w wx :=
  ⟨World.ownsRow.mono h.2.2.2.2.2 (by have := h.2.1; have := h.2.2.1; omega), h.1⟩
/-- The place of the result is written. -/
theorem Al.ret {w : World} {b4 b6 : Nat} {p : Pl} {out : Value} {tks : List Tk} {wx wy : World} (h : Al w b4 b6 p out tks wx) (k : Kp wx wy) (q : Pl) :
    Has (((wy.setCell ⟨b4, 0, none⟩ (.int .i64 q.at_)).setCell ⟨b4, 1, none⟩ (.int .i64 q.line)).setCell ⟨b4, 2, none⟩ (.int .i64 q.col)) b4 #[.int .i64 q.at_, .int .i64 q.line, .int .i64 q.col] 26 ∧
    (((wy.setCell ⟨b4, 0, none⟩ (.int .i64 q.at_)).setCell ⟨b4, 1, none⟩ (.int .i64 q.line)).setCell ⟨b4, 2, none⟩ (.int .i64 q.col)).ownsRow w.heap.size 35 6 out tks.length (tksC tks) ∧
    Kp w (((wy.setCell ⟨b4, 0, none⟩ (.int .i64 q.at_)).setCell ⟨b4, 1, none⟩ (.int .i64 q.line)).setCell ⟨b4, 2, none⟩ (.int .i64 q.col)) := by
  obtain ⟨h1, h2, h3, h4, h5, h6⟩ := h.kp k
  refine ⟨?_, World.ownsRow.mono (ownsRow_setCell_below (ownsRow_setCell_below (ownsRow_setCell_below h6 (by simp; omega) _) (by simp; omega) _) (by simp; omega) _) (by omega), ((h1.setCell (by simpa using h2) _).setCell (by simpa using h2) _).setCell (by simpa using h2) _⟩
  have := ((h4.set 0 (.int .i64 q.at_)).set 1 (.int .i64 q.line)).set 2 (.int .i64 q.col)
  simpa using this
end Go.Proofs.YtgfloplakjmncaaDoor
namespace Go.Proofs.YtgfloplakjmncaaDoor
open Go Go.RowKit Go.Sort
set_option maxRecDepth 100000 in
set_option maxHeartbeats 4000000 in
theorem all_calls (s : ByteArray) (w : World) (hs : s.size < 2147483648) (hT : Cl w) :
    Calls Tryd.prog 8 #[.string s] w fun e w' => ∃ out, e = .returned (.tuple #[out, .int .i64 (allR s).2.1, plV (allR s).2.2]) ∧ w'.ownsRow w.heap.size 35 6 out (allR s).1.length (tksC (allR s).1) ∧ Kp w w' := by
  obtain ⟨R, hR⟩ : ∃ R, R = allR s := ⟨_, rfl⟩
  rw [← hR]
  have HR := Lib.hid hR
  clear hR
  have HT := Lib.hid hT
  clear hT
  go_enter Tryd.func8, Tryd.ntmps8
  go_wp2_with (go_at_call 13; refine (start_calls _).mono ?_; rintro e w1 ⟨rfl, hk1⟩)
  have hAl : Al w w.heap.size w1.heap.size ⟨0, 1, 1⟩ (.slice none 0 0) [] (w1.alloc (.cells #[.int .i64 0, .int .i64 1, .int .i64 1] 26)) := by
    have hsz := hk1.size
    simp at hsz
    refine ⟨((Kp.refl w).alloc _).trans (hk1.trans ((Kp.refl w1).alloc _)), Nat.le_refl _, by omega, (Has.new w _ _ |>.kp hk1).alloc _, Has.new _ _ _, World.ownsRow_nil _ _ _ _⟩
  go_loopw [5, 7] (fun out v wr => ∃ (a : Nat) (p : Pl) (tks : List Tk), v = .int .i64 a ∧ a ≤ s.size ∧ tks.length ≤ a ∧ Al w w.heap.size w1.heap.size p out tks wr ∧ Hid (∃ f, s.size - a < f ∧ R = (tks ++ (allF f s a p).1, (allF f s a p).2)))
    (fun _ v _ => s.size - (intOf v).toNat)
  case atStart => exact ⟨0, ⟨0, 1, 1⟩, [], rfl, by omega, by simp, hAl, s.size + 1, by omega, HR.out⟩
  case round =>
    obtain ⟨a, p, tks, rfl, ha, htk, hal, hf⟩ := hrel
    obtain ⟨f, hf1, hf2⟩ := hf.out
    clear hf
    obtain ⟨g, rfl⟩ : ∃ g, f = g + 1 := ⟨f - 1, by omega⟩
    rw [allF] at hf2
    have hg := gap_le s a ha
    obtain ⟨n, hn⟩ : ∃ n, n = gap s a := ⟨_, rfl⟩
    rw [← hn] at hf2 hg
    have hF := Lib.hid hf2
    clear hf2
    have hex : (s.extract a s.size).data.toList = s.data.toList.drop a := by simp [List.take_of_length_le]
    have ct := fun wx => trimLeft_calls (s.extract a s.size) wx
    rw [hex] at ct
    obtain ⟨T, hTe⟩ : ∃ T, T = (⟨(Lib.trimLeftS (s.data.toList.drop a) [32, 9, 13, 10]).toArray⟩ : ByteArray) := ⟨_, rfl⟩
    rw [← hTe] at ct
    have hTs : T.size + n = s.size - a := by
      have h1 : T.size = (Lib.trimLeftS (s.data.toList.drop a) [32, 9, 13, 10]).length := by rw [hTe]; exact List.size_toArray
      have h2 := trimLeft_le (s.data.toList.drop a) [32, 9, 13, 10]
      have h3 : (s.data.toList.drop a).length = s.size - a := by simp
      rw [hn]; unfold gap; omega
    clear hTe hex hn
    have hwr : IntKind.i64.wrap (((s.size - a : Nat) : Int) - T.size) = n := by rw [IntKind.wrap_i64]; omega
    obtain ⟨hkp, hb4, hb46, hc4, hc6, hown⟩ := hal
    have e1 : (a : Int) ≤ (s.size : Int) := by omega
    have e2 : (a : Int) + n ≤ (s.size : Int) := by omega
    have e3 : (a : Int) ≤ (a : Int) + n := by omega
    have HO := Lib.hid hown
    clear hown
    go_wp2_with fail
    go_cut [8] from 15 to 88 (fun v8 wx => v8 = .int .i64 (n : Nat) ∧ Kp wr wx)
    case first =>
      go_region_with (first | (go_at_call 16; refine (ct _).mono ?_; rintro e w3 ⟨rfl, hk3⟩))
      all_goals (go_wp2_with fail)
      all_goals go_meet
      all_goals exact ⟨rfl, ⟨hk3.os, hk3.tape, hk3.output, hk3.size, hk3.block⟩⟩
    case rest =>
      obtain ⟨rfl, hk3⟩ := hcut
      clear hwr
      have hc6b := hc6.kp hk3
      have p0 := hc6b.cell 0
      have p1 := hc6b.cell 1
      have p2 := hc6b.cell 2
      have q0 := hc6b.frozen 0
      have q1 := hc6b.frozen 1
      have q2 := hc6b.frozen 2
      have cc := fun wx => Tryd.strings_Count_one (s.extract a (a + n)) 10 wx
      rw [count_feeds] at cc
      obtain ⟨fd, hfd⟩ : ∃ fd, fd = feeds (s.extract a (a + n)).data.toList := ⟨_, rfl⟩
      rw [← hfd] at cc
      have ca := fun wx => advance_calls p (s.extract a (a + n)) wx (by simp; omega)
      obtain ⟨p2', hp2⟩ : ∃ p2', p2' = adv p (s.extract a (a + n)).data.toList := ⟨_, rfl⟩
      rw [← hp2] at ca
      obtain ⟨m, hm⟩ : ∃ m, m = a + n := ⟨_, rfl⟩
      rw [← hm] at ca cc
      have hw2 : IntKind.i64.wrap ((a : Int) + n) = (m : Int) := by rw [IntKind.wrap_i64]; omega
      have e4 : (m : Int) ≤ (s.size : Int) := by omega
      have e5 : (a : Int) ≤ (m : Int) := by omega
      have HM := Lib.hid hm
      have HP2 := Lib.hid hp2
      have HFD := Lib.hid hfd
      clear hm hp2 hfd
      go_wp2_with (go_at_call 17; refine (cc _).mono ?_; rintro e w4 ⟨rfl, rfl⟩)
      go_cut [7] from 15 to 88 (fun v7 wx => v7 = .int .i64 m ∧ Al w w.heap.size w1.heap.size p2' u5 tks wx)
      case first =>
        have ks := hkp.size
        go_region_with (first | (go_at_call 15; refine (ca _).mono ?_; rintro e w5 ⟨rfl, hk5⟩; have hh := Has.kp2 hc6b hk5 rfl; have r0 := hh.frozen 0; have r1 := hh.frozen 1; have r2 := hh.frozen 2; have t0 := hh.cell 0; have t1 := hh.cell 1; have t2 := hh.cell 2; try simp at t0 t1 t2))
        all_goals (go_wp2_with fail)
        all_goals go_meet
        all_goals exact ⟨rfl, Al.place ⟨hkp.trans hk3, hb4, hb46, hc4.kp hk3, hc6b, owns_kp HO.out hk3⟩ ⟨hk5.os, hk5.tape, hk5.output, hk5.size, hk5.block⟩ p2'⟩
      case rest =>
        obtain ⟨rfl, hal⟩ := hcut
        clear p0 p1 p2 q0 q1 q2 hc6b hc4 hc6 cc ca ct hw2 hk3 hTs
        obtain ⟨wd, hwd⟩ : ∃ wd, wd = wc := ⟨_, rfl⟩
        have HAL := Lib.hid hal
        by_cases hend : m = s.size
        · have d1 := beq_t hend
          have hF2 := hF.out
          rw [← HM.out, if_pos hend] at hF2
          have HF3 := Lib.hid hF2
          have r4 := hal.2.2.2.1
          have p0 := r4.cell 0
          have p1 := r4.cell 1
          have p2 := r4.cell 2
          have q0 := r4.frozen 0
          have q1 := r4.frozen 1
          have q2 := r4.frozen 2
          clear hF2 hF hend
          go_wp2_with fail
          obtain ⟨z1, z2, z3⟩ := hal.ret (Kp.refl _) ⟨0, 0, 0⟩
          have c0 := z1.cell 0
          have c1 := z1.cell 1
          have c2 := z1.cell 2
          simp at c0 c1 c2
          refine bodyPost_ret (v := .tuple #[u5, .int .i64 0, plV ⟨0, 0, 0⟩]) (by simp [results, Tryd.results8, go_sem, c0, c1, c2]) rfl ⟨u5, by rw [HF3.out]; rfl, by rw [HF3.out]; simpa using z2, z3⟩
        · have d1 := beq_f hend
          have hF2 := hF.out
          rw [← HM.out, if_neg hend] at hF2
          have hTd : Cl wc := HT.out.kp hal.1
          have hor := oneR_le s m (by omega)
          have co := one_calls s m wc (by omega) (by omega) hTd
          have hp2 := HP2.out
          have hfd := HFD.out
          rw [← HM.out] at hp2 hfd
          rw [← hp2, ← hfd] at hF2
          clear hp2 hfd
          obtain ⟨r, hr⟩ : ∃ r, r = oneR s m := ⟨_, rfl⟩
          rw [← hr] at hF2 hor co
          obtain ⟨k, e, er⟩ := r
          dsimp only [oneV] at hF2 hor co
          clear hr hTd hF
          obtain ⟨o1, o2, o3⟩ := hor
          have ca := fun wx => advance_calls p2' (s.extract m e) wx (by simp; omega)
          obtain ⟨p3, hp3⟩ : ∃ p3, p3 = adv p2' (s.extract m e).data.toList := ⟨_, rfl⟩
          rw [← hp3] at hF2 ca
          have i1 : (m : Int) ≤ (e : Int) := by omega
          have i2 : (e : Int) ≤ (s.size : Int) := by omega
          by_cases he : er = 0
          · rw [if_pos he] at hF2
            have d2 := bne_f (b := 0) he
            have o4 := o3 he
            clear he o3
            obtain ⟨i0, hi, hz0, hz1, hz2⟩ := info_parts tok_info
            by_cases k7 : k = 7
            · have d3 := beq_t (b := 7) k7
              have htx : textOf s k m e = ⟨(Lib.trimRightS (s.extract m e).data.toList [32, 9, 13]).toArray⟩ := by unfold textOf; rw [if_pos k7]
              rw [htx] at hF2
              have ct2 := fun wx => trimRight_calls (s.extract m e) wx (by simp; omega)
              obtain ⟨tx, htx2⟩ : ∃ tx, tx = (⟨(Lib.trimRightS (s.extract m e).data.toList [32, 9, 13]).toArray⟩ : ByteArray) := ⟨_, rfl⟩
              rw [← htx2] at hF2 ct2
              clear htx2
              have HF3 := Lib.hid hF2
              clear hF2 k7 htx hp3
              go_wp2_with (first | (go_at_call 18; refine co.mono ?_; rintro en w6 ⟨rfl, hk6⟩; have hal6 := hal.kp hk6; have p0 := hal6.2.2.2.2.1.cell 0; have p1 := hal6.2.2.2.2.1.cell 1; have p2 := hal6.2.2.2.2.1.cell 2) | (go_at_call 19; refine (ct2 _).mono ?_; rintro en w7 ⟨rfl, hk7⟩; have hal7 := hal6.kp hk7; have p0 := hal7.2.2.2.2.1.cell 0; have p1 := hal7.2.2.2.2.1.cell 1; have p2 := hal7.2.2.2.2.1.cell 2) | (at_builtin; refine wpList_append_lies _ rfl (.tmp 74) (.tmp 80) 23 (by rfl) (w1.heap.size + 1) 35 i0 _ 6 56 Tryd.underlying23 hi hz0 hz1 hz2 rfl (by decide) u5 tks.length (tksC tks) (by rfl) (hal7.2.2.2.2.2.alloc _) ⟨_, 0, none⟩ 1 1 (tkC ⟨k, tx, p2', fd⟩) (by rfl) (by rfl) (World.news_of_block (World.alloc_heap_new _ _)) (tkC_one _) (by decide) (by unfold maxLen; omega) (by omega) (by have := hal7.2.2.2.2.1.lt; simp; omega) _ rfl ?_; intro gg cap w9 hown9 hgrow hat hlt; have hal9 := hal7.more ((Kp.refl _).alloc _) hgrow hown9; have p0 := hal9.2.2.2.2.1.cell 0; have p1 := hal9.2.2.2.2.1.cell 1; have p2 := hal9.2.2.2.2.1.cell 2))
              go_region_with (first | (go_at_call 15; refine (ca _).mono ?_; rintro e w5 ⟨rfl, hk5⟩; have hh := Has.kp2 hal9.2.2.2.2.1 hk5 rfl; have r0 := hh.frozen 0; have r1 := hh.frozen 1; have r2 := hh.frozen 2; have t0 := hh.cell 0; have t1 := hh.cell 1; have t2 := hh.cell 2; try simp at t0 t1 t2))
              all_goals go_wp2
              have hfin : Hid (∃ f, s.size - e < f ∧ R = ((tks ++ [⟨k, tx, p2', fd⟩]) ++ (allF f s e p3).1, (allF f s e p3).2)) := ⟨g, by omega, by rw [HF3.out]; simp⟩
              have hlen : (tks ++ [(⟨k, tx, p2', fd⟩ : Tk)]).length ≤ e := by simp; omega
              refine ⟨⟨_, _, _, _, _, _, _, _, _, _, _, _, _, _, _, _, _, _, _, _, _, _, _, _, _, _, _, _, _, _, _, _, _, _, _, _, _, _, _, _, _, _, _, _, _, _, _, _, _, _, _, _, _, _, _, _, _, _, _, _, _, _, _, _, _, _, _, _, _, _, _, _, _, _, _, _, _, _, _, _, _, _, _, _, ⟨e, p3, _, rfl, o2, hlen, hal9.place ⟨hk5.os, hk5.tape, hk5.output, hk5.size, hk5.block⟩ p3, hfin⟩, rfl⟩, ?_⟩
              show s.size - ((e : Int)).toNat < s.size - ((a : Int)).toNat
              omega
            · have d3 := beq_f (b := 7) k7
              have htx : textOf s k m e = s.extract m e := by unfold textOf; rw [if_neg k7]
              rw [htx] at hF2
              have HF3 := Lib.hid hF2
              clear hF2 k7 htx hp3
              go_wp2_with (first | (go_at_call 18; refine co.mono ?_; rintro en w6 ⟨rfl, hk6⟩; have hal6 := hal.kp hk6; have p0 := hal6.2.2.2.2.1.cell 0; have p1 := hal6.2.2.2.2.1.cell 1; have p2 := hal6.2.2.2.2.1.cell 2) | (at_builtin; refine wpList_append_lies _ rfl (.tmp 74) (.tmp 80) 23 (by rfl) (w1.heap.size + 1) 35 i0 _ 6 56 Tryd.underlying23 hi hz0 hz1 hz2 rfl (by decide) u5 tks.length (tksC tks) (by rfl) (hal6.2.2.2.2.2.alloc _) ⟨_, 0, none⟩ 1 1 (tkC ⟨k, s.extract m e, p2', fd⟩) (by rfl) (by rfl) (World.news_of_block (World.alloc_heap_new _ _)) (tkC_one _) (by decide) (by unfold maxLen; omega) (by omega) (by have := hal6.2.2.2.2.1.lt; simp; omega) _ rfl ?_; intro gg cap w9 hown9 hgrow hat hlt; have hal9 := hal6.more ((Kp.refl _).alloc _) hgrow hown9; have p0 := hal9.2.2.2.2.1.cell 0; have p1 := hal9.2.2.2.2.1.cell 1; have p2 := hal9.2.2.2.2.1.cell 2))
              go_region_with (first | (go_at_call 15; refine (ca _).mono ?_; rintro e w5 ⟨rfl, hk5⟩; have hh := Has.kp2 hal9.2.2.2.2.1 hk5 rfl; have r0 := hh.frozen 0; have r1 := hh.frozen 1; have r2 := hh.frozen 2; have t0 := hh.cell 0; have t1 := hh.cell 1; have t2 := hh.cell 2; try simp at t0 t1 t2))
              all_goals go_wp2
              have hfin : Hid (∃ f, s.size - e < f ∧ R = ((tks ++ [⟨k, s.extract m e, p2', fd⟩]) ++ (allF f s e p3).1, (allF f s e p3).2)) := ⟨g, by omega, by rw [HF3.out]; simp⟩
              have hlen : (tks ++ [(⟨k, s.extract m e, p2', fd⟩ : Tk)]).length ≤ e := by simp; omega
              refine ⟨⟨_, _, _, _, _, _, _, _, _, _, _, _, _, _, _, _, _, _, _, _, _, _, _, _, _, _, _, _, _, _, _, _, _, _, _, _, _, _, _, _, _, _, _, _, _, _, _, _, _, _, _, _, _, _, _, _, _, _, _, _, _, _, _, _, _, _, _, _, _, _, _, _, _, _, _, _, _, _, _, _, _, _, _, _, ⟨e, p3, _, rfl, o2, hlen, hal9.place ⟨hk5.os, hk5.tape, hk5.output, hk5.size, hk5.block⟩ p3, hfin⟩, rfl⟩, ?_⟩
              show s.size - ((e : Int)).toNat < s.size - ((a : Int)).toNat
              omega
          · rw [if_neg he] at hF2
            have d2 := bne_t (b := 0) he
            have HF3 := Lib.hid hF2
            clear hF2 he hp3 o3
            go_wp2_with (go_at_call 18; refine co.mono ?_; rintro en w6 ⟨rfl, hk6⟩; have hal6 := hal.kp hk6; have p0 := hal6.2.2.2.2.1.cell 0; have p1 := hal6.2.2.2.2.1.cell 1; have p2 := hal6.2.2.2.2.1.cell 2; have q0 := hal6.2.2.2.2.1.frozen 0; have q1 := hal6.2.2.2.2.1.frozen 1; have q2 := hal6.2.2.2.2.1.frozen 2; have y0 := hal6.2.2.2.1.frozen 0; have y1 := hal6.2.2.2.1.frozen 1; have y2 := hal6.2.2.2.1.frozen 2)
            go_region_with (first | (go_at_call 15; refine (ca _).mono ?_; rintro e w5 ⟨rfl, hk5⟩; have hh := Has.kp2 hal6.2.2.2.1 hk5 rfl; have r0 := hh.frozen 0; have r1 := hh.frozen 1; have r2 := hh.frozen 2; have t0 := hh.cell 0; have t1 := hh.cell 1; have t2 := hh.cell 2; try simp at t0 t1 t2))
            all_goals (go_wp2_with fail)
            obtain ⟨z1, z2, z3⟩ := hal6.ret ⟨hk5.os, hk5.tape, hk5.output, hk5.size, hk5.block⟩ p3
            have c0 := z1.cell 0
            have c1 := z1.cell 1
            have c2 := z1.cell 2
            simp at c0 c1 c2
            refine bodyPost_ret (v := .tuple #[u5, .int .i64 er, plV p3]) (by simp [results, Tryd.results8, go_sem, c0, c1, c2]) rfl ⟨u5, by rw [HF3.out], by rw [HF3.out]; simpa using z2, z3⟩
end Go.Proofs.YtgfloplakjmncaaDoor
