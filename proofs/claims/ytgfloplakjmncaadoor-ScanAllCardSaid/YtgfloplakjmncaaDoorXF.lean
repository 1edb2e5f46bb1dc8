/- The contracts of scan.All, place.Of and place.Advance in the form in which the printed texts call them. By an AI agent; no person has read it. -/
import Derived.Test.YtgfloplakjmncaaDoorScanA
import Derived.Test.YtgfloplakjmncaaDoorPlace
import Derived.Test.YtgfloplakjmncaaDoorPScanx0
set_option linter.unusedSimpArgs false
set_option linter.unusedVariables false
namespace Go.Proofs.YtgfloplakjmncaaDoor.PScan
open Go Go.RowKit Go.Proofs.YtgfloplakjmncaaDoor Go.Proofs.YtgfloplakjmncaaDoorW.PrintWords Go.Proofs.YtgfloplakjmncaaDoorW.PrintLast
/-- The tables that the calls read. -/
def LW (w : World) : Prop := Cl w
theorem LW.below {w0 w : World} (h : LW w0) (hb : Below w0.heap.size w0 w) : LW w := Cl.kp h hb
/-- A token, as the printed texts have it. -/
def tkS (t : Tk) : S35 := ⟨t.kind, t.text, ⟨t.place.at_, t.place.line, t.place.col⟩, t.feeds⟩
theorem reps_tks (w : World) (base : Nat) (ok : Nat → Prop) (l : List Tk) : Reps (k35.M w base ok) k35.sz (l.map tkS) (tksC l) := by
  refine ⟨by rw [tksC_len, List.length_map]; rfl, fun j p hj => ?_⟩
  rw [List.getElem?_map, Option.map_eq_some_iff] at hj
  obtain ⟨t, ht, rfl⟩ := hj
  have hlt : j < l.length := (List.getElem?_eq_some_iff.1 ht).1
  have ht' : l[j] = t := by have := List.getElem?_eq_some_iff.1 ht; exact this.2
  have e : ((tksC l).drop (j * k35.sz)).take k35.sz = tkC t := by
    show ((tksC l).drop (j * 6)).take 6 = tkC t
    have h1 : l = l.take j ++ t :: l.drop (j + 1) := by rw [← ht', List.getElem_cons_drop, List.take_append_drop]
    have h2 : tksC l = tksC (l.take j) ++ (tkC t ++ tksC (l.drop (j + 1))) := by conv => lhs; rw [h1]
                                                                                 simp [tksC]
    have h3 : (tksC (l.take j)).length = j * 6 := by rw [tksC_len, List.length_take]; congr 1; omega
    rw [h2, List.drop_append_of_le_length (by omega), List.drop_of_length_le (by omega), List.nil_append, List.take_append_of_le_length (by simp [tkC]), List.take_of_length_le (by simp [tkC])]
  rw [e]
  exact k35_mkM w base ok (tkS t)
theorem R_of_owns {w : World} {base : Nat} {v : Value} {l : List Tk} (h : w.ownsRow base 35 6 v l.length (tksC l)) : Kd.R k35 35 w base (fun _ => True) v (l.map tkS) :=
  ⟨fun _ _ => trivial, tksC l, by rw [List.length_map]; exact h, reps_tks w base _ l⟩
def scan_All.f (a0 : ByteArray) : Option (List S35 × Int × Int × Int × Int) :=
  if a0.size < 2147483648 then some ((allR a0).1.map tkS, ((allR a0).2.1 : Int), (allR a0).2.2.at_, (allR a0).2.2.line, (allR a0).2.2.col) else none
theorem scan_All.calls (a0 : ByteArray) (r1 : List S35) (r2 : Int) (r3 : Int) (r4 : Int) (r5 : Int) (w : World) (hLW : LW w) (h : scan_All.f a0 = some (r1, r2, r3, r4, r5)) :
    Calls Tryd.prog 8 #[.string a0] w fun e w' => ∃ v0_ : Value, e = .returned (.tuple #[v0_, .int .i64 r2, .agg #[.int .i64 r3, .int .i64 r4, .int .i64 r5]]) ∧ Kd.R k35 35 w' w.heap.size (fun _ => True) v0_ r1 ∧ Below w.heap.size w w' := by
  unfold scan_All.f at h
  by_cases hs : a0.size < 2147483648
  · rw [if_pos hs] at h
    simp only [Option.some.injEq, Prod.mk.injEq] at h
    obtain ⟨rfl, rfl, rfl, rfl, rfl⟩ := h
    refine (all_calls a0 w hs hLW).mono ?_
    rintro e w' ⟨out, rfl, h2, h3⟩
    exact ⟨out, rfl, R_of_owns h2, h3⟩
  · rw [if_neg hs] at h; cases h
def place_Advance.f (a0_0 : Int) (a0_1 : Int) (a0_2 : Int) (a1 : ByteArray) : Option (Int × Int × Int) :=
  if a1.size < 4611686018427387904 then some ((adv ⟨a0_0, a0_1, a0_2⟩ a1.data.toList).at_, (adv ⟨a0_0, a0_1, a0_2⟩ a1.data.toList).line, (adv ⟨a0_0, a0_1, a0_2⟩ a1.data.toList).col) else none
theorem place_Advance.calls (a0_0 : Int) (a0_1 : Int) (a0_2 : Int) (a1 : ByteArray) (r1 : Int) (r2 : Int) (r3 : Int) (w : World) (h : place_Advance.f a0_0 a0_1 a0_2 a1 = some (r1, r2, r3)) :
    Calls Tryd.prog 15 #[.agg #[.int .i64 a0_0, .int .i64 a0_1, .int .i64 a0_2], .string a1] w fun e w' => e = .returned (.agg #[.int .i64 r1, .int .i64 r2, .int .i64 r3]) ∧ Below w.heap.size w w' := by
  unfold place_Advance.f at h
  by_cases hs : a1.size < 4611686018427387904
  · rw [if_pos hs] at h
    simp only [Option.some.injEq, Prod.mk.injEq] at h
    obtain ⟨rfl, rfl, rfl⟩ := h
    exact advance_calls ⟨a0_0, a0_1, a0_2⟩ a1 w hs
  · rw [if_neg hs] at h; cases h
def place_Of.f (a0 : ByteArray) (a1 : Int) : Option (Int × Int × Int × Int) :=
  if a0.size < 4611686018427387904 ∧ 0 ≤ a1 ∧ a1 ≤ (a0.size : Int) then some ((adv pl1 (a0.data.toList.take a1.toNat)).at_, (adv pl1 (a0.data.toList.take a1.toNat)).line, (adv pl1 (a0.data.toList.take a1.toNat)).col, 0) else none
theorem place_Of.calls (a0 : ByteArray) (a1 : Int) (r1 : Int) (r2 : Int) (r3 : Int) (r4 : Int) (w : World) (h : place_Of.f a0 a1 = some (r1, r2, r3, r4)) :
    Calls Tryd.prog 12 #[.string a0, .int .i64 a1] w fun e w' => e = .returned (.tuple #[.agg #[.int .i64 r1, .int .i64 r2, .int .i64 r3], .int .i64 r4]) ∧ Below w.heap.size w w' := by
  unfold place_Of.f at h
  by_cases hs : a0.size < 4611686018427387904 ∧ 0 ≤ a1 ∧ a1 ≤ (a0.size : Int)
  · rw [if_pos hs] at h
    simp only [Option.some.injEq, Prod.mk.injEq] at h
    obtain ⟨rfl, rfl, rfl, rfl⟩ := h
    obtain ⟨k, rfl⟩ := Int.eq_ofNat_of_zero_le hs.2.1
    exact of_calls a0 k w (by omega) hs.1
  · rw [if_neg hs] at h; cases h
end Go.Proofs.YtgfloplakjmncaaDoor.PScan
