/- The printed references: characters, places, letters, signs, words: what they come to. By an AI agent; no person has read it. -/
import Derived.Test.YtgfloplakjmncaaDoorPRef1
import Derived.Test.YtgfloplakjmncaaDoorPScanx8
set_option linter.unusedSimpArgs false
set_option linter.unusedVariables false
namespace Go.Proofs.YtgfloplakjmncaaDoor.PScan
open Go Go.RowKit Go.Proofs.YtgfloplakjmncaaDoor Go.Proofs.YtgfloplakjmncaaDoorW.PrintWords Go.Proofs.YtgfloplakjmncaaDoorW.PrintLast
theorem places_l0 (s : ByteArray) (hs : s.size < 1099511627776) (d : Nat) : ∀ (p : Nat) (acc : List Int), p ≤ s.size → s.size - p ≤ d → acc.length ≤ p →
    ∃ r, Ev (fun k => colophonref01_Places.l0 k s acc (p : Int)) r ∧ r.length = acc.length + (chs (s.data.toList.drop p)).length := by
  induction d with
  | zero =>
    intro p acc hp hd ha
    refine ⟨acc, Ev.step (f := fun k => some acc) (fun k => ?_) (Ev.now _), ?_⟩
    · simp only [colophonref01_Places.l0]; rw [if_neg (by omega)]
    · rw [List.drop_eq_nil_of_le (by rw [size_list]; omega)]; simp
  | succ d ih =>
    intro p acc hp hd ha
    by_cases hend : p = s.size
    · refine ⟨acc, Ev.step (f := fun k => some acc) (fun k => ?_) (Ev.now _), ?_⟩
      · simp only [colophonref01_Places.l0]; rw [if_neg (by omega)]
      · rw [List.drop_eq_nil_of_le (by rw [size_list]; omega)]; simp
    · have hne : s.data.toList.drop p ≠ [] := by intro h; have := congrArg List.length h; simp at this; omega
      have hw := nextL_width hne
      have hd2 := dec_width _ hne
      have hll : (s.data.toList.drop p).length = s.size - p := by simp
      have hn := next_f s (by omega) p hp
      obtain ⟨r, h1, h2⟩ := ih (p + (nextL (s.data.toList.drop p)).2.1) (acc ++ [(p : Int)]) (by omega) (by omega) (by simp; omega)
      refine ⟨r, Ev.step (f := fun k => (colophonref01_Next.f k s (p : Int)).bind fun bt129 => (colophonref01_Places.l0 k s (acc ++ [(p : Int)]) (wrap64 ((p : Int) + bt129.2.1)))) (fun k => ?_) (Ev.bind hn ?_), ?_⟩
      · simp only [colophonref01_Places.l0]; rw [if_pos (by omega), if_pos (by omega)]
      · have e : wrap64 ((p : Int) + (nextV (s.data.toList.drop p)).2.1) = ((p + (nextL (s.data.toList.drop p)).2.1 : Nat) : Int) := wr_a p _ (by omega)
        rw [e]; exact h1
      · rw [h2, chs_cons _ hne, List.drop_drop, hw]; simp; omega
theorem count_f (s : ByteArray) (hs : s.size < 1099511627776) : Ev (fun k => colophonref01_Count.f k s) ((chs s.data.toList).length : Int) := by
  obtain ⟨r, h1, h2⟩ := places_l0 s hs s.size 0 [] (Nat.zero_le _) (by omega) (by simp)
  refine Ev.congr (f := fun k => (colophonref01_Places.l0 k s [] ((0 : Nat) : Int)).bind fun t132 => (some (t132.length : Int))) (fun k => rfl) (Ev.bind h1 ?_)
  rw [h2]; simpa using Ev.now _
theorem lineTail_cons (c : UInt8) (y : List UInt8) (h : feeds y ≠ 0) : lineTail (c :: y) = lineTail y := by
  have := lineTail_append [c] y
  rw [if_neg h] at this
  exact this
theorem advance_l0 (s : ByteArray) (hs : s.size < 1099511627776) (A : Int) (d : Nat) : ∀ (i f : Nat) (ln cl : Int), i ≤ s.size → s.size - i = d → f ≤ i → okI ln →
    Ev (fun k => colophonref03_Advance.l0 k s (f : Int) (i : Int) A ln cl) (A, wrap64 (ln + feeds (s.data.toList.drop i)), wrap64 ((if feeds (s.data.toList.drop i) = 0 then cl else 1) + ((chs (if feeds (s.data.toList.drop i) = 0 then s.data.toList.drop f else lineTail (s.data.toList.drop i))).length : Int))) := by
  induction d with
  | zero =>
    intro i f ln cl hi hd hf hl
    have hi2 : i = s.size := by omega
    have hnil : s.data.toList.drop i = [] := List.drop_eq_nil_of_le (by rw [size_list]; omega)
    rw [hnil]
    have hfe : feeds ([] : List UInt8) = 0 := rfl
    rw [hfe, if_pos rfl, if_pos rfl]
    have hex : (s.extract f s.size).data.toList = s.data.toList.drop f := extract_list s f
    have hc := count_f (s.extract f s.size) (by simp; omega)
    rw [hex] at hc
    have hln : wrap64 (ln + ((0 : Nat) : Int)) = ln := by rw [show ln + ((0 : Nat) : Int) = ln by omega]; exact wrap_ok hl
    rw [hln]
    refine Ev.step (f := fun k => (colophonref01_Count.f k (s.extract f s.size)).bind fun t137 => (some (A, ln, wrap64 (cl + t137)))) (fun k => ?_) (Ev.bind hc (Ev.now _))
    simp only [colophonref03_Advance.l0]
    rw [if_neg (by omega), if_pos (by omega), if_pos (by omega), Int.toNat_natCast]
  | succ d ih =>
    intro i f ln cl hi hd hf hl
    have hlt : i < s.size := by omega
    have hsp : s.data.toList.drop i = (s.data.toList[i]'(by rw [size_list]; exact hlt)) :: s.data.toList.drop (i + 1) := (List.getElem_cons_drop (by rw [size_list]; exact hlt)).symm
    have hb : bt s (i : Int) = ((s.data.toList[i]'(by rw [size_list]; exact hlt)).toNat : Int) := by
      rw [bt_bn0 s i hlt, hsp]; rfl
    generalize s.data.toList[i]'(by rw [size_list]; exact hlt) = c at *
    have hw := wr_s i (by omega)
    by_cases hc : c = 10
    · subst hc
      have h10 : bt s (i : Int) = 10 := by rw [hb]; rfl
      have := ih (i + 1) (i + 1) (wrap64 (ln + 1)) 1 (by omega) (by omega) (Nat.le_refl _) (wrap_ok_of _)
      have hfe : feeds (s.data.toList.drop i) = feeds (s.data.toList.drop (i + 1)) + 1 := by rw [hsp]; simp [feeds]
      have hne : ¬ feeds (s.data.toList.drop i) = 0 := by omega
      have key : (A, wrap64 (ln + feeds (s.data.toList.drop i)), wrap64 ((if feeds (s.data.toList.drop i) = 0 then cl else 1) + ((chs (if feeds (s.data.toList.drop i) = 0 then s.data.toList.drop f else lineTail (s.data.toList.drop i))).length : Int))) = (A, wrap64 (wrap64 (ln + 1) + feeds (s.data.toList.drop (i + 1))), wrap64 ((if feeds (s.data.toList.drop (i + 1)) = 0 then (1 : Int) else 1) + ((chs (if feeds (s.data.toList.drop (i + 1)) = 0 then s.data.toList.drop (i + 1) else lineTail (s.data.toList.drop (i + 1)))).length : Int))) := by
        rw [if_neg hne, if_neg hne, wrap_wrap, hfe]
        have e1 : ln + 1 + (feeds (s.data.toList.drop (i + 1)) : Int) = ln + ((feeds (s.data.toList.drop (i + 1)) + 1 : Nat) : Int) := by omega
        rw [e1, hsp]
        by_cases h0 : feeds (s.data.toList.drop (i + 1)) = 0
        · rw [if_pos h0, if_pos h0]
          have : lineTail (10 :: s.data.toList.drop (i + 1)) = s.data.toList.drop (i + 1) := by
            have h := lineTail_nl [] (s.data.toList.drop (i + 1))
            rw [List.nil_append] at h
            rw [h, lineTail_none _ h0]
          rw [this]
        · rw [if_neg h0, if_neg h0, lineTail_cons _ _ h0]
      rw [key]
      refine Ev.step (fun k => ?_) this
      simp only [colophonref03_Advance.l0, hw]
      rw [if_pos (by omega), if_pos (by omega), if_pos h10]
    · have h10 : ¬ bt s (i : Int) = 10 := by
        rw [hb]; intro h; apply hc; apply UInt8.toNat_inj.1
        show c.toNat = 10; omega
      have := ih (i + 1) f ln cl (by omega) (by omega) (by omega) hl
      have hfe : feeds (s.data.toList.drop i) = feeds (s.data.toList.drop (i + 1)) := by rw [hsp]; simp [feeds, List.count_cons, hc]
      have key : (if feeds (s.data.toList.drop i) = 0 then s.data.toList.drop f else lineTail (s.data.toList.drop i)) = (if feeds (s.data.toList.drop (i + 1)) = 0 then s.data.toList.drop f else lineTail (s.data.toList.drop (i + 1))) := by
        rw [hfe]
        by_cases h0 : feeds (s.data.toList.drop (i + 1)) = 0
        · rw [if_pos h0, if_pos h0]
        · rw [if_neg h0, if_neg h0, hsp, lineTail_cons _ _ h0]
      rw [key, hfe]
      refine Ev.step (fun k => ?_) this
      simp only [colophonref03_Advance.l0, hw]
      rw [if_pos (by omega), if_pos (by omega), if_neg h10]
theorem radv_f (p : Pl) (hp : okI p.line) (s : ByteArray) (hs : s.size < 1099511627776) : Ev (fun k => colophonref03_Advance.f k p.at_ p.line p.col s) ((adv p s.data.toList).at_, (adv p s.data.toList).line, (adv p s.data.toList).col) := by
  have h := advance_l0 s hs (wrap64 (p.at_ + (s.size : Int))) s.size 0 0 p.line p.col (Nat.zero_le _) rfl (Nat.le_refl _) hp
  rw [List.drop_zero] at h
  have e : (wrap64 (p.at_ + (s.size : Int)), wrap64 (p.line + feeds s.data.toList), wrap64 ((if feeds s.data.toList = 0 then p.col else 1) + ((chs (if feeds s.data.toList = 0 then s.data.toList else lineTail s.data.toList)).length : Int))) = ((adv p s.data.toList).at_, (adv p s.data.toList).line, (adv p s.data.toList).col) := by
    unfold adv
    dsimp only
    rw [size_list]
    by_cases h0 : feeds s.data.toList = 0
    · rw [if_pos h0, if_pos h0, lineTail_none _ h0]
    · rw [if_neg h0, if_neg h0]
  rw [← e]
  exact h
theorem in_l0 (p : Int) (T : List (Int × Int)) (hT : T.length < 1000) (d : Nat) : ∀ j : Nat, j ≤ T.length → T.length - j = d → Ev (fun k => colophonref04_in.l0 k p (tabCells T) ((2 * j : Nat) : Int)) (inTab (T.drop j) p) := by
  have hlen : (tabCells T).length = 2 * T.length := by
    clear hT; induction T with
    | nil => rfl
    | cons z l ih => simp [tabCells] at ih ⊢; omega
  have hget : ∀ (l : List (Int × Int)) (i : Nat) (h : i < l.length), rd (tabCells l) ((2 * i : Nat) : Int) = (l[i]'h).1 ∧ rd (tabCells l) ((2 * i + 1 : Nat) : Int) = (l[i]'h).2 := by
    intro l
    induction l with
    | nil => intro i h; simp at h
    | cons z l ih =>
      intro i h
      cases i with
      | zero => simp [tabCells, rd]
      | succ i =>
        have := ih i (by simpa using h)
        simp only [rd, Int.toNat_natCast] at this ⊢
        simpa [tabCells, Nat.mul_add, Nat.add_assoc] using this
  induction d with
  | zero =>
    intro j hj hd
    rw [List.drop_eq_nil_of_le (by omega)]
    refine Ev.step (f := fun k => some false) (fun k => ?_) (Ev.now _)
    simp only [colophonref04_in.l0]
    rw [wr_s (2 * j) (by omega), if_neg (by rw [hlen]; omega)]
  | succ d ih =>
    intro j hj hd
    have hjl : j < T.length := by omega
    obtain ⟨g1, g2⟩ := hget T j hjl
    have hih := ih (j + 1) (by omega) (by omega)
    have hw1 := wr_s (2 * j) (by omega)
    have hw2 : wrap64 (((2 * j : Nat) : Int) + 2) = ((2 * (j + 1) : Nat) : Int) := by unfold wrap64; omega
    rw [← List.getElem_cons_drop hjl]
    generalize T[j]'hjl = z at *
    obtain ⟨a, b⟩ := z
    have hin : inTab ((a, b) :: T.drop (j + 1)) p = ((decide (a ≤ p) && decide (p ≤ b)) || inTab (T.drop (j + 1)) p) := rfl
    rw [hin]
    by_cases h1 : a ≤ p
    · by_cases h2 : p ≤ b
      · rw [decide_eq_true h1, decide_eq_true h2]
        refine Ev.step (f := fun k => some true) (fun k => ?_) (Ev.now _)
        simp only [colophonref04_in.l0, hw1, g1, g2]
        rw [if_pos (by rw [hlen]; omega), if_pos (by omega), if_pos (by rw [hlen]; omega), if_pos (by omega), if_pos (by omega), if_pos h2]
      · rw [decide_eq_false h2, Bool.and_false, Bool.false_or]
        refine Ev.step (fun k => ?_) hih
        simp only [colophonref04_in.l0, hw1, hw2, g1, g2]
        rw [if_pos (by rw [hlen]; omega), if_pos (by omega), if_pos (by rw [hlen]; omega), if_pos (by omega), if_pos (by omega), if_neg h2]
    · rw [decide_eq_false h1, Bool.false_and, Bool.false_or]
      refine Ev.step (fun k => ?_) hih
      simp only [colophonref04_in.l0, hw1, hw2, g1, g2]
      rw [if_pos (by rw [hlen]; omega), if_pos (by omega), if_pos (by rw [hlen]; omega), if_neg (by omega)]
theorem in_f (p : Int) (T : List (Int × Int)) (hT : T.length < 1000) : Ev (fun k => colophonref04_in.f k p (tabCells T)) (inTab T p) := in_l0 p T hT T.length 0 (Nat.zero_le _) rfl
theorem letter_f (p : Int) : Ev (fun k => colophonref04_Letter.f k p) (letterB p) := Ev.bind (in_f p letterTab (by decide)) (Ev.now _)
theorem part_f (p : Int) : Ev (fun k => colophonref04_Part.f k p) (partB p) := by
  refine Ev.congr (f := fun k => (colophonref04_Letter.f k p).bind fun t => if t = true then some true else (colophonref04_in.f k p (tabCells otherTab)).bind fun u => some u) (fun k => rfl) (Ev.bind (letter_f p) ?_)
  unfold partB
  cases letterB p with
  | true => simp only [if_true, Bool.or_true]; exact Ev.now _
  | false => simp only [Bool.false_eq_true, if_false, Bool.or_false]; exact Ev.bind (in_f p otherTab (by decide)) (Ev.now _)
/-- All signs, the longer ones first. -/
def allSigns : List ByteArray := twoZs ++ oneSigns.map fun c => ⟨#[c]⟩
theorem tl (b : ByteArray) : b.toList = b.data.toList := Lib.toList_data b
set_option maxHeartbeats 1000000 in
theorem sign_step (s : ByteArray) (hs : s.size < 4611686018427387904) (p : Nat) (hp : p < s.size) (Z : List ByteArray) (hZ : Z.length < 1000) (j : Nat) (hj : j < Z.length) (z : ByteArray) (hz : z.size ≤ 2) (hr : rdOf ByteArray.empty Z (j : Int) = z) (k : Nat) :
    colophonref04_Sign.l0 (k + 1) s (p : Int) Z (j : Int) = if Lib.hasPrefix (s.data.toList.drop p) z.data.toList = true then some z else colophonref04_Sign.l0 k s (p : Int) Z ((j + 1 : Nat) : Int) := by
  have hw1 := wr_s j (by omega)
  have hw2 : wrap64 ((s.size : Int) - (p : Int)) = ((s.size - p : Nat) : Int) := by unfold wrap64; omega
  have hw3 := wr_a p z.size (by omega)
  have hlz := size_list z
  have hls := size_list s
  have d1 : (j : Int) < (Z.length : Int) := by omega
  have d2 : (0 : Int) ≤ (j : Int) := by omega
  have d3 : (0 : Int) ≤ (p : Int) := by omega
  have d4 : (p : Int) ≤ ((p + z.size : Nat) : Int) := by omega
  simp only [colophonref04_Sign.l0, hr, hw1, hw2, hw3, Int.toNat_natCast]
  rw [if_pos d1, if_pos d2]
  by_cases hfit : p + z.size ≤ s.size
  · have d5 : ((s.size - p : Nat) : Int) ≥ (z.size : Int) := by omega
    have d6 : ((p + z.size : Nat) : Int) ≤ (s.size : Int) := by omega
    rw [if_pos d5, if_pos d3, if_pos d4, if_pos d6, tl, tl, ext_list, Nat.add_sub_cancel_left]
    cases hpre : Lib.hasPrefix (s.data.toList.drop p) z.data.toList with
    | true =>
      rw [if_pos rfl, if_pos]
      obtain ⟨t, ht⟩ := List.isPrefixOf_iff_prefix.1 (show z.data.toList.isPrefixOf (s.data.toList.drop p) = true from hpre)
      rw [← ht, ← hlz, List.take_left']
      rfl
    | false =>
      rw [if_neg (show ¬ ((false : Bool) = true) from by decide), if_neg]
      intro he
      have : Lib.hasPrefix (s.data.toList.drop p) z.data.toList = true := by
        show z.data.toList.isPrefixOf (s.data.toList.drop p) = true
        rw [List.isPrefixOf_iff_prefix, ← he]; exact List.take_prefix _ _
      rw [this] at hpre; cases hpre
  · have d5 : ¬ ((s.size - p : Nat) : Int) ≥ (z.size : Int) := by omega
    rw [if_neg d5, if_neg]
    intro hpre
    have hle := (List.isPrefixOf_iff_prefix.1 (show z.data.toList.isPrefixOf (s.data.toList.drop p) = true from hpre)).length_le
    rw [hlz, List.length_drop, hls] at hle
    omega
theorem sign_l0 (s : ByteArray) (hs : s.size < 4611686018427387904) (p : Nat) (hp : p < s.size) (Z : List ByteArray) (hZ : Z.length < 1000) (hz : ∀ z ∈ Z, z.size ≤ 2) (d : Nat) : ∀ j : Nat, j ≤ Z.length → Z.length - j = d →
    Ev (fun k => colophonref04_Sign.l0 k s (p : Int) Z (j : Int)) (match (Z.drop j).find? (fun z => Lib.hasPrefix (s.data.toList.drop p) z.data.toList) with | some z => z | none => ⟨#[]⟩) := by
  induction d with
  | zero =>
    intro j hj hd
    rw [show Z.drop j = [] from List.drop_eq_nil_of_le (by omega)]
    refine Ev.step (f := fun k => some ⟨#[]⟩) (fun k => ?_) (Ev.now (⟨#[]⟩ : ByteArray))
    simp only [colophonref04_Sign.l0]
    rw [if_neg (by omega)]
  | succ d ih =>
    intro j hj hd
    have hjl : j < Z.length := by omega
    have hih := ih (j + 1) (by omega) (by omega)
    have hr : rdOf ByteArray.empty Z (j : Int) = Z[j]'hjl := by unfold rdOf; simp [List.getD_eq_getElem?_getD, hjl]
    have hst := sign_step s hs p hp Z hZ j hjl _ (hz (Z[j]'hjl) (List.getElem_mem hjl)) hr
    rw [← List.getElem_cons_drop hjl, List.find?_cons]
    generalize Z[j]'hjl = z at *
    cases hpre : Lib.hasPrefix (s.data.toList.drop p) z.data.toList with
    | true =>
      rw [hpre] at hst
      exact Ev.step (f := fun k => some z) (fun k => by rw [hst, if_pos rfl]) (Ev.now z)
    | false =>
      rw [hpre] at hst
      exact Ev.step (fun k => by rw [hst, if_neg (by decide)]) hih
theorem find_map {α β : Type} (f : α → β) (p : β → Bool) : ∀ l : List α, (l.map f).find? p = (l.find? (fun a => p (f a))).map f
  | [] => rfl
  | a :: l => by
    rw [List.map_cons, List.find?_cons, List.find?_cons]
    cases p (f a) with
    | true => rfl
    | false => exact find_map f p l
theorem index_of_mem : ∀ (l : List UInt8) (c : UInt8), c ∈ l → 0 ≤ Lib.indexByte l c
  | [], c, h => by simp at h
  | b :: l, c, h => by
    rw [Lib.indexByte]
    split
    · omega
    · rename_i hb
      have hc : c ∈ l := by
        rcases List.mem_cons.1 h with rfl | h
        · simp at hb
        · exact h
      have := index_of_mem l c hc
      split
      · rename_i h1; rw [beq_iff_eq] at h1; omega
      · omega
theorem sign_find (t : ByteArray) (ht : 0 < t.size) : signB t = (match allSigns.find? (fun z => Lib.hasPrefix t.data.toList z.data.toList) with | some z => z | none => ⟨#[]⟩) := by
  unfold signB allSigns
  rw [if_neg (by omega), List.find?_append]
  cases twoZs.find? (fun z => Lib.hasPrefix t.data.toList z.data.toList) with
  | some z => rfl
  | none =>
    simp only [Option.none_or]
    rw [find_map]
    have hl : t.data.toList.length = t.size := size_list t
    obtain ⟨c, r, hcr⟩ : ∃ c r, t.data.toList = c :: r := by
      rcases h : t.data.toList with _ | ⟨c, r⟩
      · rw [h] at hl; simp at hl; omega
      · exact ⟨c, r, rfl⟩
    have hp : ∀ a : UInt8, Lib.hasPrefix t.data.toList (⟨#[a]⟩ : ByteArray).data.toList = (a == c) := fun a => by
      rw [hcr]; show ([a] : List UInt8).isPrefixOf (c :: r) = _
      simp [List.isPrefixOf]
    simp only [hp]
    rw [hcr]
    simp only [List.getD_cons_zero]
    by_cases hm : c ∈ oneSigns
    · rw [if_pos (index_of_mem _ _ hm)]
      have hf : oneSigns.find? (fun a => a == c) = some c := by
        cases hff : oneSigns.find? (fun a => a == c) with
        | none => rw [List.find?_eq_none] at hff; exact absurd (hff c hm) (by simp)
        | some x => have := List.find?_some hff; rw [beq_iff_eq] at this; rw [this]
      rw [hf]
      apply bs_ext
      rw [ext_list, hcr]; rfl
    · rw [if_neg (fun h => hm (index_mem _ _ h))]
      have hf : oneSigns.find? (fun a => a == c) = none := by
        rw [List.find?_eq_none]; intro x hx h; rw [beq_iff_eq] at h; exact hm (h ▸ hx)
      rw [hf]; rfl
theorem sign_f (s : ByteArray) (hs : s.size < 4611686018427387904) (p : Nat) (hp : p < s.size) : Ev (fun k => colophonref04_Sign.f k s (p : Int)) (signB (s.extract p s.size)) := by
  have hex : (s.extract p s.size).data.toList = s.data.toList.drop p := extract_list s p
  rw [sign_find _ (by simp; omega), hex]
  have h := sign_l0 s hs p hp allSigns (by decide) (by decide) allSigns.length 0 (Nat.zero_le _) rfl
  rw [List.drop_zero] at h
  refine Ev.congr (f := fun k => colophonref04_Sign.j0 k s (p : Int) false) (fun k => by unfold colophonref04_Sign.f; rw [if_neg (by omega), decide_eq_false (by omega)]) ?_
  refine Ev.step (fun k => ?_) h
  simp only [colophonref04_Sign.j0, Bool.false_eq_true, if_false]
  rfl
theorem rdigit_f (b : Nat) : colophonref10_digit.f (b : Int) = some (decide (48 ≤ b ∧ b ≤ 57)) := by
  unfold colophonref10_digit.f
  by_cases h : (b : Int) ≥ 48
  · rw [if_pos h]; congr 1; rw [Bool.eq_iff_iff]; simp only [decide_eq_true_eq]; omega
  · rw [if_neg h]; congr 1; symm; rw [decide_eq_false_iff_not]; omega
theorem rblank_f (b : Nat) : colophonref10_blank.f (b : Int) = some (decide (b = 32 ∨ b = 9 ∨ b = 13)) := by
  unfold colophonref10_blank.f
  by_cases h1 : (b : Int) = 32
  · rw [if_pos h1]; congr 1; symm; rw [decide_eq_true_eq]; omega
  · rw [if_neg h1]
    by_cases h2 : (b : Int) = 9
    · rw [if_pos h2]; congr 1; symm; rw [decide_eq_true_eq]; omega
    · rw [if_neg h2]; congr 1; rw [Bool.eq_iff_iff, beq_iff_eq, decide_eq_true_eq]; omega
theorem rcontrol_f (v : Nat) (g : Bool) : colophonref10_control.f (v : Int) g = some (controlB v g) := by
  unfold colophonref10_control.f controlB
  cases g with
  | false => rw [if_neg (by decide)]; rfl
  | true =>
    rw [if_pos rfl, Bool.true_and]
    by_cases h : (v : Int) < 32
    · rw [if_pos h, decide_eq_true (by omega)]; rfl
    · rw [if_neg h, decide_eq_false (by omega), Bool.false_or]; congr 1; rw [Bool.eq_iff_iff, beq_iff_eq, decide_eq_true_eq]; omega
theorem isKey_l0 (x : ByteArray) (Z : List ByteArray) (hZ : Z.length < 1000) (d : Nat) : ∀ j : Nat, j ≤ Z.length → Z.length - j = d → Ev (fun k => colophonref04_IsKey.l0 k x Z (j : Int)) ((Z.drop j).any fun z => decide (z = x)) := by
  induction d with
  | zero =>
    intro j hj hd
    rw [List.drop_eq_nil_of_le (by omega)]
    refine Ev.step (f := fun k => some false) (fun k => ?_) (Ev.now false)
    simp only [colophonref04_IsKey.l0]; rw [if_neg (by omega)]
  | succ d ih =>
    intro j hj hd
    have hjl : j < Z.length := by omega
    have hih := ih (j + 1) (by omega) (by omega)
    have hr : rdOf ByteArray.empty Z (j : Int) = Z[j]'hjl := by unfold rdOf; simp [List.getD_eq_getElem?_getD, hjl]
    have hw1 := wr_s j (by omega)
    have d1 : (j : Int) < (Z.length : Int) := by omega
    have d2 : (0 : Int) ≤ (j : Int) := by omega
    rw [← List.getElem_cons_drop hjl]
    generalize Z[j]'hjl = z at *
    rw [List.any_cons]
    by_cases he : z = x
    · rw [decide_eq_true he, Bool.true_or]
      refine Ev.step (f := fun k => some true) (fun k => ?_) (Ev.now true)
      simp only [colophonref04_IsKey.l0, hr]
      rw [if_pos d1, if_pos d2, if_pos (by rw [he])]
    · rw [decide_eq_false he, Bool.false_or]
      refine Ev.step (fun k => ?_) hih
      simp only [colophonref04_IsKey.l0, hr, hw1]
      rw [if_pos d1, if_pos d2, if_neg]
      intro h; rw [tl, tl] at h; exact he (bs_ext h)
theorem keyB_any (x : ByteArray) : keyB x = keyZs.any fun z => decide (z = x) := by
  rw [Bool.eq_iff_iff, List.any_eq_true]
  unfold keyB
  rw [Lib.containsS_iff]
  constructor
  · intro h; exact ⟨x, h, by simp⟩
  · rintro ⟨z, hz, h⟩; rw [decide_eq_true_eq] at h; rw [← h]; exact hz
theorem risKey_f (x : ByteArray) : Ev (fun k => colophonref04_IsKey.f k x) (keyB x) := by
  rw [keyB_any]
  exact isKey_l0 x keyZs (by decide) keyZs.length 0 (Nat.zero_le _) rfl
end Go.Proofs.YtgfloplakjmncaaDoor.PScan
