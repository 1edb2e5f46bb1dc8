-- Printed by the prover's own program (wip/xprint.py) over the kit's print. Not trusted: Lean checks it.
import Derived.Test.YtgfloplakjmncaaDoorPScanx0
import Derived.Test.YtgfloplakjmncaaDoorPScanx5
import Derived.Test.YtgfloplakjmncaaDoorPScanx6
import Derived.Test.YtgfloplakjmncaaDoorPScanx7
import Derived.Test.YtgfloplakjmncaaDoorPScanx8
namespace Go.Proofs.YtgfloplakjmncaaDoor.PScan
open Go.RowKit Go.Proofs.YtgfloplakjmncaaDoorW.PrintWords Go.Proofs.YtgfloplakjmncaaDoorW.PrintLast Go.Proofs.YtgfloplakjmncaaDoorW.PrintMore
attribute [local go_sem] max2_int min2_int max_two min_two max_three min_three max_four min_four   -- for this text's walks alone
set_option linter.unusedVariables false
set_option linter.unusedSimpArgs false
/-! ### colophonref10_Find: function 20 -/
mutual
def colophonref10_Find.l0 : Nat → ByteArray → Int → Int → List (S35) → Int → Int → Int → Int → Int → Option ((List (S35)) × Int × Int)
 | 0, _, _, _, _, _, _, _, _, _ => none
 | k + 1, x0, x5, x6, x199000, x199001, x199002, x200000, x200001, x200002 => if x6 < (x0.size : Int) then (if 0 ≤ x6 then (if (bt x0 x6) = 10 then (colophonref10_Find.j1 k x0 (wrap64 (x5 + 1)) x6 x199000 x199001 x199002 x200000 x200001 x200002) else (colophonref10_Find.j1 k x0 x5 x6 x199000 x199001 x199002 x200000 x200001 x200002)) else (none)) else (some (x199000, x199001, x199002))
def colophonref10_Find.j1 : Nat → ByteArray → Int → Int → List (S35) → Int → Int → Int → Int → Int → Option ((List (S35)) × Int × Int)
 | 0, _, _, _, _, _, _, _, _, _ => none
 | k + 1, x0, x5, x6, x199000, x199001, x199002, x200000, x200001, x200002 => if 0 ≤ x6 then (if x6 < (x0.size : Int) then (if (bt x0 x6) = 10 then (colophonref10_Find.j2 k x0 x5 x6 true x199000 x199001 x199002 x200000 x200001 x200002) else ((colophonref10_blank.f (bt x0 x6)).bind fun t200 => (colophonref10_Find.j2 k x0 x5 x6 t200 x199000 x199001 x199002 x200000 x200001 x200002))) else (none)) else (none)
def colophonref10_Find.j2 : Nat → ByteArray → Int → Int → Bool → List (S35) → Int → Int → Int → Int → Int → Option ((List (S35)) × Int × Int)
 | 0, _, _, _, _, _, _, _, _, _, _ => none
 | k + 1, x0, x5, x6, x32, x199000, x199001, x199002, x200000, x200001, x200002 => if x32 = true then (colophonref10_Find.l0 k x0 x5 (wrap64 (x6 + 1)) x199000 x199001 x199002 x200000 x200001 x200002) else ((colophonref10_begins.f k x0 x6).bind fun t201 => (if t201 = 0 then (some (x199000, 100, x6)) else ((colophonref10_ends.f k x0 x6 t201).bind fun bt202 => (if bt202.2 = 0 then (if 0 ≤ x200000 then (if x200000 ≤ x6 then (if x6 ≤ (x0.size : Int) then ((colophonref03_Advance.f k x200000 x200001 x200002 (x0.extract (x200000 : Int).toNat (x6 : Int).toNat)).bind fun bt205 => (if 0 ≤ x6 then (if x6 ≤ bt202.1 then (if bt202.1 ≤ (x0.size : Int) then ((colophonref04_IsKey.f k (x0.extract (x6 : Int).toNat (bt202.1 : Int).toNat)).bind fun t209 => (if t201 = 1 then (colophonref10_Find.j3 k x0 t201 t209 x199000 x199001 x199002 bt205.1 bt205.2.1 bt205.2.2 bt202.1 bt202.2 t201 (x0.extract (x6 : Int).toNat (bt202.1 : Int).toNat) bt205.1 bt205.2.1 bt205.2.2 x5) else (colophonref10_Find.j3 k x0 t201 false x199000 x199001 x199002 bt205.1 bt205.2.1 bt205.2.2 bt202.1 bt202.2 t201 (x0.extract (x6 : Int).toNat (bt202.1 : Int).toNat) bt205.1 bt205.2.1 bt205.2.2 x5))) else (none)) else (none)) else (none))) else (none)) else (none)) else (none)) else (some (x199000, bt202.2, bt202.1))))))
def colophonref10_Find.j3 : Nat → ByteArray → Int → Bool → List (S35) → Int → Int → Int → Int → Int → Int → Int → Int → ByteArray → Int → Int → Int → Int → Option ((List (S35)) × Int × Int)
 | 0, _, _, _, _, _, _, _, _, _, _, _, _, _, _, _, _, _ => none
 | k + 1, x0, x7, x81, x199000, x199001, x199002, x200000, x200001, x200002, x205000, x205001, x209000, x209001, x209002, x209003, x209004, x209005 => if x81 = true then (colophonref10_Find.j4 k x0 x7 x199000 x199001 x199002 x200000 x200001 x200002 x205000 x205001 2 x209001 x209002 x209003 x209004 x209005) else (colophonref10_Find.j4 k x0 x7 x199000 x199001 x199002 x200000 x200001 x200002 x205000 x205001 x209000 x209001 x209002 x209003 x209004 x209005)
def colophonref10_Find.j4 : Nat → ByteArray → Int → List (S35) → Int → Int → Int → Int → Int → Int → Int → Int → ByteArray → Int → Int → Int → Int → Option ((List (S35)) × Int × Int)
 | 0, _, _, _, _, _, _, _, _, _, _, _, _, _, _, _, _ => none
 | k + 1, x0, x7, x199000, x199001, x199002, x200000, x200001, x200002, x205000, x205001, x209000, x209001, x209002, x209003, x209004, x209005 => colophonref10_Find.l1 k x0 x7 x199000 x199001 x199002 x200000 x200001 x200002 x205000 x205001 x209000 x209001 x209002 x209003 x209004 x209005
def colophonref10_Find.l1 : Nat → ByteArray → Int → List (S35) → Int → Int → Int → Int → Int → Int → Int → Int → ByteArray → Int → Int → Int → Int → Option ((List (S35)) × Int × Int)
 | 0, _, _, _, _, _, _, _, _, _, _, _, _, _, _, _, _ => none
 | k + 1, x0, x7, x199000, x199001, x199002, x200000, x200001, x200002, x205000, x205001, x209000, x209001, x209002, x209003, x209004, x209005 => if x7 = 7 then (if 0 ≤ (wrap64 ((x209001.size : Int) - 1)) then (if (wrap64 ((x209001.size : Int) - 1)) < (x209001.size : Int) then ((colophonref10_blank.f (bt x209001 (wrap64 ((x209001.size : Int) - 1)))).bind fun t210 => (if t210 = true then (if (wrap64 ((x209001.size : Int) - 1)) ≤ (x209001.size : Int) then (colophonref10_Find.l1 k x0 x7 x199000 x199001 x199002 x200000 x200001 x200002 x205000 x205001 x209000 (x209001.extract 0 ((wrap64 ((x209001.size : Int) - 1)) : Int).toNat) x209002 x209003 x209004 x209005) else (none)) else (if x199000.length < 2513169434916 then (colophonref10_Find.l0 k x0 0 x205000 (x199000 ++ [(⟨x209000, x209001, (⟨x209002, x209003, x209004⟩ : S26), x209005⟩ : S35)]) x199001 x199002 x200000 x200001 x200002) else (none)))) else (none)) else (none)) else (if x199000.length < 2513169434916 then (colophonref10_Find.l0 k x0 0 x205000 (x199000 ++ [(⟨x209000, x209001, (⟨x209002, x209003, x209004⟩ : S26), x209005⟩ : S35)]) x199001 x199002 x200000 x200001 x200002) else (none))
end
def colophonref10_Find.f (k : Nat) (a0 : ByteArray) : Option ((List (S35)) × Int × Int) := colophonref10_Find.l0 k a0 0 0 ([] : List (S35)) 0 0 0 1 1
theorem colophonref10_Find.mono_l : ∀ k, (∀ y0 y1 y2 y3 y4 y5 y6 y7 y8, LeO (colophonref10_Find.l0 k y0 y1 y2 y3 y4 y5 y6 y7 y8) (colophonref10_Find.l0 (k + 1) y0 y1 y2 y3 y4 y5 y6 y7 y8)) ∧ (∀ y0 y1 y2 y3 y4 y5 y6 y7 y8, LeO (colophonref10_Find.j1 k y0 y1 y2 y3 y4 y5 y6 y7 y8) (colophonref10_Find.j1 (k + 1) y0 y1 y2 y3 y4 y5 y6 y7 y8)) ∧ (∀ y0 y1 y2 y3 y4 y5 y6 y7 y8 y9, LeO (colophonref10_Find.j2 k y0 y1 y2 y3 y4 y5 y6 y7 y8 y9) (colophonref10_Find.j2 (k + 1) y0 y1 y2 y3 y4 y5 y6 y7 y8 y9)) ∧ (∀ y0 y1 y2 y3 y4 y5 y6 y7 y8 y9 y10 y11 y12 y13 y14 y15 y16, LeO (colophonref10_Find.j3 k y0 y1 y2 y3 y4 y5 y6 y7 y8 y9 y10 y11 y12 y13 y14 y15 y16) (colophonref10_Find.j3 (k + 1) y0 y1 y2 y3 y4 y5 y6 y7 y8 y9 y10 y11 y12 y13 y14 y15 y16)) ∧ (∀ y0 y1 y2 y3 y4 y5 y6 y7 y8 y9 y10 y11 y12 y13 y14 y15, LeO (colophonref10_Find.j4 k y0 y1 y2 y3 y4 y5 y6 y7 y8 y9 y10 y11 y12 y13 y14 y15) (colophonref10_Find.j4 (k + 1) y0 y1 y2 y3 y4 y5 y6 y7 y8 y9 y10 y11 y12 y13 y14 y15)) ∧ (∀ y0 y1 y2 y3 y4 y5 y6 y7 y8 y9 y10 y11 y12 y13 y14 y15, LeO (colophonref10_Find.l1 k y0 y1 y2 y3 y4 y5 y6 y7 y8 y9 y10 y11 y12 y13 y14 y15) (colophonref10_Find.l1 (k + 1) y0 y1 y2 y3 y4 y5 y6 y7 y8 y9 y10 y11 y12 y13 y14 y15))
 | 0 => ⟨fun _ _ _ _ _ _ _ _ _ r h => by simp [colophonref10_Find.l0] at h, fun _ _ _ _ _ _ _ _ _ r h => by simp [colophonref10_Find.j1] at h, fun _ _ _ _ _ _ _ _ _ _ r h => by simp [colophonref10_Find.j2] at h, fun _ _ _ _ _ _ _ _ _ _ _ _ _ _ _ _ _ r h => by simp [colophonref10_Find.j3] at h, fun _ _ _ _ _ _ _ _ _ _ _ _ _ _ _ _ r h => by simp [colophonref10_Find.j4] at h, fun _ _ _ _ _ _ _ _ _ _ _ _ _ _ _ _ r h => by simp [colophonref10_Find.l1] at h⟩
 | k + 1 => by
  obtain ⟨ih0, ih1, ih2, ih3, ih4, ih5⟩ := colophonref10_Find.mono_l k
  refine ⟨?_, ?_, ?_, ?_, ?_, ?_⟩
  ·intro y0 y1 y2 y3 y4 y5 y6 y7 y8
   unfold colophonref10_Find.l0
   repeat' first
   | (with_reducible exact ih0 _ _ _ _ _ _ _ _ _)
   | (with_reducible exact ih1 _ _ _ _ _ _ _ _ _)
   | (with_reducible exact ih2 _ _ _ _ _ _ _ _ _ _)
   | (with_reducible exact ih3 _ _ _ _ _ _ _ _ _ _ _ _ _ _ _ _ _)
   | (with_reducible exact ih4 _ _ _ _ _ _ _ _ _ _ _ _ _ _ _ _)
   | (with_reducible exact ih5 _ _ _ _ _ _ _ _ _ _ _ _ _ _ _ _)
   | (with_reducible exact colophonref03_Advance.mono _ _ _ _ _)
   | (with_reducible exact colophonref04_IsKey.mono _ _)
   | (with_reducible exact colophonref10_begins.mono _ _ _)
   | (with_reducible exact colophonref10_ends.mono _ _ _ _)
   | (with_reducible exact LeO.refl _)
   | (with_reducible exact LeO.none _)
   | (with_reducible refine LeO.ite ?_ ?_)
   | (with_reducible refine LeO.bind ?_ (fun _ => ?_))
   | exact ih0 _ _ _ _ _ _ _ _ _
   | exact ih1 _ _ _ _ _ _ _ _ _
   | exact ih2 _ _ _ _ _ _ _ _ _ _
   | exact ih3 _ _ _ _ _ _ _ _ _ _ _ _ _ _ _ _ _
   | exact ih4 _ _ _ _ _ _ _ _ _ _ _ _ _ _ _ _
   | exact ih5 _ _ _ _ _ _ _ _ _ _ _ _ _ _ _ _
   | exact colophonref03_Advance.mono _ _ _ _ _
   | exact colophonref04_IsKey.mono _ _
   | exact colophonref10_begins.mono _ _ _
   | exact colophonref10_ends.mono _ _ _ _
   | exact LeO.none _
   | refine LeO.ite ?_ ?_
   | refine LeO.bind ?_ (fun _ => ?_)
  ·intro y0 y1 y2 y3 y4 y5 y6 y7 y8
   unfold colophonref10_Find.j1
   repeat' first
   | (with_reducible exact ih0 _ _ _ _ _ _ _ _ _)
   | (with_reducible exact ih1 _ _ _ _ _ _ _ _ _)
   | (with_reducible exact ih2 _ _ _ _ _ _ _ _ _ _)
   | (with_reducible exact ih3 _ _ _ _ _ _ _ _ _ _ _ _ _ _ _ _ _)
   | (with_reducible exact ih4 _ _ _ _ _ _ _ _ _ _ _ _ _ _ _ _)
   | (with_reducible exact ih5 _ _ _ _ _ _ _ _ _ _ _ _ _ _ _ _)
   | (with_reducible exact colophonref03_Advance.mono _ _ _ _ _)
   | (with_reducible exact colophonref04_IsKey.mono _ _)
   | (with_reducible exact colophonref10_begins.mono _ _ _)
   | (with_reducible exact colophonref10_ends.mono _ _ _ _)
   | (with_reducible exact LeO.refl _)
   | (with_reducible exact LeO.none _)
   | (with_reducible refine LeO.ite ?_ ?_)
   | (with_reducible refine LeO.bind ?_ (fun _ => ?_))
   | exact ih0 _ _ _ _ _ _ _ _ _
   | exact ih1 _ _ _ _ _ _ _ _ _
   | exact ih2 _ _ _ _ _ _ _ _ _ _
   | exact ih3 _ _ _ _ _ _ _ _ _ _ _ _ _ _ _ _ _
   | exact ih4 _ _ _ _ _ _ _ _ _ _ _ _ _ _ _ _
   | exact ih5 _ _ _ _ _ _ _ _ _ _ _ _ _ _ _ _
   | exact colophonref03_Advance.mono _ _ _ _ _
   | exact colophonref04_IsKey.mono _ _
   | exact colophonref10_begins.mono _ _ _
   | exact colophonref10_ends.mono _ _ _ _
   | exact LeO.none _
   | refine LeO.ite ?_ ?_
   | refine LeO.bind ?_ (fun _ => ?_)
  ·intro y0 y1 y2 y3 y4 y5 y6 y7 y8 y9
   unfold colophonref10_Find.j2
   repeat' first
   | (with_reducible exact ih0 _ _ _ _ _ _ _ _ _)
   | (with_reducible exact ih1 _ _ _ _ _ _ _ _ _)
   | (with_reducible exact ih2 _ _ _ _ _ _ _ _ _ _)
   | (with_reducible exact ih3 _ _ _ _ _ _ _ _ _ _ _ _ _ _ _ _ _)
   | (with_reducible exact ih4 _ _ _ _ _ _ _ _ _ _ _ _ _ _ _ _)
   | (with_reducible exact ih5 _ _ _ _ _ _ _ _ _ _ _ _ _ _ _ _)
   | (with_reducible exact colophonref03_Advance.mono _ _ _ _ _)
   | (with_reducible exact colophonref04_IsKey.mono _ _)
   | (with_reducible exact colophonref10_begins.mono _ _ _)
   | (with_reducible exact colophonref10_ends.mono _ _ _ _)
   | (with_reducible exact LeO.refl _)
   | (with_reducible exact LeO.none _)
   | (with_reducible refine LeO.ite ?_ ?_)
   | (with_reducible refine LeO.bind ?_ (fun _ => ?_))
   | exact ih0 _ _ _ _ _ _ _ _ _
   | exact ih1 _ _ _ _ _ _ _ _ _
   | exact ih2 _ _ _ _ _ _ _ _ _ _
   | exact ih3 _ _ _ _ _ _ _ _ _ _ _ _ _ _ _ _ _
   | exact ih4 _ _ _ _ _ _ _ _ _ _ _ _ _ _ _ _
   | exact ih5 _ _ _ _ _ _ _ _ _ _ _ _ _ _ _ _
   | exact colophonref03_Advance.mono _ _ _ _ _
   | exact colophonref04_IsKey.mono _ _
   | exact colophonref10_begins.mono _ _ _
   | exact colophonref10_ends.mono _ _ _ _
   | exact LeO.none _
   | refine LeO.ite ?_ ?_
   | refine LeO.bind ?_ (fun _ => ?_)
  ·intro y0 y1 y2 y3 y4 y5 y6 y7 y8 y9 y10 y11 y12 y13 y14 y15 y16
   unfold colophonref10_Find.j3
   repeat' first
   | (with_reducible exact ih0 _ _ _ _ _ _ _ _ _)
   | (with_reducible exact ih1 _ _ _ _ _ _ _ _ _)
   | (with_reducible exact ih2 _ _ _ _ _ _ _ _ _ _)
   | (with_reducible exact ih3 _ _ _ _ _ _ _ _ _ _ _ _ _ _ _ _ _)
   | (with_reducible exact ih4 _ _ _ _ _ _ _ _ _ _ _ _ _ _ _ _)
   | (with_reducible exact ih5 _ _ _ _ _ _ _ _ _ _ _ _ _ _ _ _)
   | (with_reducible exact colophonref03_Advance.mono _ _ _ _ _)
   | (with_reducible exact colophonref04_IsKey.mono _ _)
   | (with_reducible exact colophonref10_begins.mono _ _ _)
   | (with_reducible exact colophonref10_ends.mono _ _ _ _)
   | (with_reducible exact LeO.refl _)
   | (with_reducible exact LeO.none _)
   | (with_reducible refine LeO.ite ?_ ?_)
   | (with_reducible refine LeO.bind ?_ (fun _ => ?_))
   | exact ih0 _ _ _ _ _ _ _ _ _
   | exact ih1 _ _ _ _ _ _ _ _ _
   | exact ih2 _ _ _ _ _ _ _ _ _ _
   | exact ih3 _ _ _ _ _ _ _ _ _ _ _ _ _ _ _ _ _
   | exact ih4 _ _ _ _ _ _ _ _ _ _ _ _ _ _ _ _
   | exact ih5 _ _ _ _ _ _ _ _ _ _ _ _ _ _ _ _
   | exact colophonref03_Advance.mono _ _ _ _ _
   | exact colophonref04_IsKey.mono _ _
   | exact colophonref10_begins.mono _ _ _
   | exact colophonref10_ends.mono _ _ _ _
   | exact LeO.none _
   | refine LeO.ite ?_ ?_
   | refine LeO.bind ?_ (fun _ => ?_)
  ·intro y0 y1 y2 y3 y4 y5 y6 y7 y8 y9 y10 y11 y12 y13 y14 y15
   unfold colophonref10_Find.j4
   repeat' first
   | (with_reducible exact ih0 _ _ _ _ _ _ _ _ _)
   | (with_reducible exact ih1 _ _ _ _ _ _ _ _ _)
   | (with_reducible exact ih2 _ _ _ _ _ _ _ _ _ _)
   | (with_reducible exact ih3 _ _ _ _ _ _ _ _ _ _ _ _ _ _ _ _ _)
   | (with_reducible exact ih4 _ _ _ _ _ _ _ _ _ _ _ _ _ _ _ _)
   | (with_reducible exact ih5 _ _ _ _ _ _ _ _ _ _ _ _ _ _ _ _)
   | (with_reducible exact colophonref03_Advance.mono _ _ _ _ _)
   | (with_reducible exact colophonref04_IsKey.mono _ _)
   | (with_reducible exact colophonref10_begins.mono _ _ _)
   | (with_reducible exact colophonref10_ends.mono _ _ _ _)
   | (with_reducible exact LeO.refl _)
   | (with_reducible exact LeO.none _)
   | (with_reducible refine LeO.ite ?_ ?_)
   | (with_reducible refine LeO.bind ?_ (fun _ => ?_))
   | exact ih0 _ _ _ _ _ _ _ _ _
   | exact ih1 _ _ _ _ _ _ _ _ _
   | exact ih2 _ _ _ _ _ _ _ _ _ _
   | exact ih3 _ _ _ _ _ _ _ _ _ _ _ _ _ _ _ _ _
   | exact ih4 _ _ _ _ _ _ _ _ _ _ _ _ _ _ _ _
   | exact ih5 _ _ _ _ _ _ _ _ _ _ _ _ _ _ _ _
   | exact colophonref03_Advance.mono _ _ _ _ _
   | exact colophonref04_IsKey.mono _ _
   | exact colophonref10_begins.mono _ _ _
   | exact colophonref10_ends.mono _ _ _ _
   | exact LeO.none _
   | refine LeO.ite ?_ ?_
   | refine LeO.bind ?_ (fun _ => ?_)
  ·intro y0 y1 y2 y3 y4 y5 y6 y7 y8 y9 y10 y11 y12 y13 y14 y15
   unfold colophonref10_Find.l1
   repeat' first
   | (with_reducible exact ih0 _ _ _ _ _ _ _ _ _)
   | (with_reducible exact ih1 _ _ _ _ _ _ _ _ _)
   | (with_reducible exact ih2 _ _ _ _ _ _ _ _ _ _)
   | (with_reducible exact ih3 _ _ _ _ _ _ _ _ _ _ _ _ _ _ _ _ _)
   | (with_reducible exact ih4 _ _ _ _ _ _ _ _ _ _ _ _ _ _ _ _)
   | (with_reducible exact ih5 _ _ _ _ _ _ _ _ _ _ _ _ _ _ _ _)
   | (with_reducible exact colophonref03_Advance.mono _ _ _ _ _)
   | (with_reducible exact colophonref04_IsKey.mono _ _)
   | (with_reducible exact colophonref10_begins.mono _ _ _)
   | (with_reducible exact colophonref10_ends.mono _ _ _ _)
   | (with_reducible exact LeO.refl _)
   | (with_reducible exact LeO.none _)
   | (with_reducible refine LeO.ite ?_ ?_)
   | (with_reducible refine LeO.bind ?_ (fun _ => ?_))
   | exact ih0 _ _ _ _ _ _ _ _ _
   | exact ih1 _ _ _ _ _ _ _ _ _
   | exact ih2 _ _ _ _ _ _ _ _ _ _
   | exact ih3 _ _ _ _ _ _ _ _ _ _ _ _ _ _ _ _ _
   | exact ih4 _ _ _ _ _ _ _ _ _ _ _ _ _ _ _ _
   | exact ih5 _ _ _ _ _ _ _ _ _ _ _ _ _ _ _ _
   | exact colophonref03_Advance.mono _ _ _ _ _
   | exact colophonref04_IsKey.mono _ _
   | exact colophonref10_begins.mono _ _ _
   | exact colophonref10_ends.mono _ _ _ _
   | exact LeO.none _
   | refine LeO.ite ?_ ?_
   | refine LeO.bind ?_ (fun _ => ?_)
theorem colophonref10_Find.mono : ∀ a0 k, LeO (colophonref10_Find.f k a0) (colophonref10_Find.f (k + 1) a0) := by
 intro a0 k
 obtain ⟨ih0, ih1, ih2, ih3, ih4, ih5⟩ := colophonref10_Find.mono_l k
 unfold colophonref10_Find.f
 repeat' first
   | (with_reducible exact ih0 _ _ _ _ _ _ _ _ _)
   | (with_reducible exact ih1 _ _ _ _ _ _ _ _ _)
   | (with_reducible exact ih2 _ _ _ _ _ _ _ _ _ _)
   | (with_reducible exact ih3 _ _ _ _ _ _ _ _ _ _ _ _ _ _ _ _ _)
   | (with_reducible exact ih4 _ _ _ _ _ _ _ _ _ _ _ _ _ _ _ _)
   | (with_reducible exact ih5 _ _ _ _ _ _ _ _ _ _ _ _ _ _ _ _)
   | (with_reducible exact colophonref03_Advance.mono _ _ _ _ _)
   | (with_reducible exact colophonref04_IsKey.mono _ _)
   | (with_reducible exact colophonref10_begins.mono _ _ _)
   | (with_reducible exact colophonref10_ends.mono _ _ _ _)
   | (with_reducible exact LeO.refl _)
   | (with_reducible exact LeO.none _)
   | (with_reducible refine LeO.ite ?_ ?_)
   | (with_reducible refine LeO.bind ?_ (fun _ => ?_))
   | exact ih0 _ _ _ _ _ _ _ _ _
   | exact ih1 _ _ _ _ _ _ _ _ _
   | exact ih2 _ _ _ _ _ _ _ _ _ _
   | exact ih3 _ _ _ _ _ _ _ _ _ _ _ _ _ _ _ _ _
   | exact ih4 _ _ _ _ _ _ _ _ _ _ _ _ _ _ _ _
   | exact ih5 _ _ _ _ _ _ _ _ _ _ _ _ _ _ _ _
   | exact colophonref03_Advance.mono _ _ _ _ _
   | exact colophonref04_IsKey.mono _ _
   | exact colophonref10_begins.mono _ _ _
   | exact colophonref10_ends.mono _ _ _ _
   | exact LeO.none _
   | refine LeO.ite ?_ ?_
   | refine LeO.bind ?_ (fun _ => ?_)
def colophonref10_Find.T20 : Bool × List (List Nat × List Nat) := (true, [([], []), ([], []), ([], []), ([2], [2]), ([], []), ([1, 3, 4], [1, 3, 4]), ([0, 5], [0, 5]), ([6, 6, 0, 1, 2, 3, 4, 5, 6], [6])])
def colophonref10_Find.B20 : List Nat := [0, 0, 0, 4, 0, 30, 63, 127]
theorem colophonref10_Find.tab20 : rtab .any (opsOf Tryd.f20 20) = colophonref10_Find.T20 := by kernel_rfl
theorem colophonref10_Find.bits20 : waitsOk colophonref10_Find.T20.2 colophonref10_Find.B20 = true := by kernel_rfl
def colophonref10_Find.T21 : Bool × List (List Nat × List Nat) := (true, [([], []), ([], []), ([], []), ([], []), ([3], [3]), ([1, 2, 4], [1, 2, 4]), ([], []), ([], []), ([0, 5, 6, 7], [0, 5, 6, 7]), ([], []), ([9, 8, 0, 1, 2, 3, 4, 5, 6, 7, 8, 9], [8, 9])])
def colophonref10_Find.B21 : List Nat := [0, 0, 0, 0, 8, 30, 0, 0, 255, 0, 1023]
theorem colophonref10_Find.tab21 : rtab .any (opsOf Tryd.f20 21) = colophonref10_Find.T21 := by kernel_rfl
theorem colophonref10_Find.bits21 : waitsOk colophonref10_Find.T21.2 colophonref10_Find.B21 = true := by kernel_rfl
set_option maxHeartbeats 8000000 in
set_option maxRecDepth 100000 in
theorem colophonref10_Find.calls (k : Nat) (a0 : ByteArray) (r1 : List (S35)) (r2 : Int) (r3 : Int) (w : World) (h : colophonref10_Find.f k a0 = some (r1, r2, r3)) :
  Calls Tryd.prog 20 #[.string a0] w fun e w' => ∃ v0_ : Value, e = .returned (.agg #[v0_, .int .i64 r2, .int .i64 r3]) ∧ Kd.R k35 35 w' w.heap.size (fun _ => True) v0_ r1 ∧ Below w.heap.size w w' := by
 have hu47 := Tryd.underlying47
 have hu26 := Tryd.underlying26
 have hu66 := Tryd.underlying66
 have hu35 := Tryd.underlying35
 have HB := Aside0.mk (Below.refl w.heap.size w)
 have H : (colophonref10_Find.l0 k a0 0 0 ([] : List (S35)) 0 0 0 1 1) = some (r1, r2, r3) := h
 clear h
 have H' := Aside0.mk H
 clear H
 go_enter Tryd.func20, Tryd.ntmps20
 go_wp2_with (first|((with_reducible refine gate_dst (N:=2) rfl ?_);(try (refine gate_guard (by rfl) ?_;dsimp only));refine box_event ?hg (N:=2) ?hd (cs:=#[.slice none 0 0,.int .i64 0,.int .i64 0]) (t:=47) ?hr ?_;(case hd => rfl);(case hg => rfl);(case hr => first|(go_simp;done)|(go_simp;rfl));intro gb197 hg w2 hbox hb;have n0_:=Aside0.mk (below_step (by repeat (first|(with_reducible first|exact HB.out|apply below_alloc|apply pw_below_drewN|apply below_drew1)|exact HB.out)) hb);have n1_:=Aside0.mk (hbox);have n2_:=Aside0.mk ((by rw [hg];exact (below_size (by repeat (first|(with_reducible first|exact HB.out|apply below_alloc|apply pw_below_drewN|apply below_drew1)|exact HB.out))) : w.heap.size ≤ gb197));have n3_:=Aside0.mk ((by rw [hg];exact (below_size (by repeat (first|(with_reducible first|exact HB.out|apply below_alloc|apply pw_below_drewN|apply below_drew1)|exact HB.out))) : w.heap.size ≤ gb197));clear HB;have HB:=n0_;have BK197:=n1_;have GW197:=n2_;have GE197:=n3_;clear n0_ n1_ n2_ n3_;clear hb hbox hg)|((with_reducible refine gate_dst (N:=3) rfl ?_);(try (refine gate_guard (by rfl) ?_;dsimp only));refine box_event ?hg (N:=3) ?hd (cs:=#[.slice none 0 0,.int .i64 0,.int .i64 0]) (t:=47) ?hr ?_;(case hd => rfl);(case hg => rfl);(case hr => first|(go_simp;done)|(go_simp;rfl));intro gb198 hg w3 hbox hb;have n0_:=Aside0.mk (blk_below (g:=gb197) (o:=.cells #[.slice none 0 0,.int .i64 0,.int .i64 0] 47 (0,0)) (by (with_reducible repeat (first|refine blk_drewN ?_ _|refine blk_drew ?_|refine blk_alloc ?_ _));exact BK197.out) hb);have n1_:=Aside0.mk (below_step (by repeat (first|(with_reducible first|exact HB.out|apply below_alloc|apply pw_below_drewN|apply below_drew1|refine below_set ?_ GE197.out)|exact HB.out)) hb);have n2_:=Aside0.mk (hbox);have n3_:=Aside0.mk ((by rw [hg];exact (below_size (by repeat (first|(with_reducible first|exact HB.out|apply below_alloc|apply pw_below_drewN|apply below_drew1|refine below_set ?_ GE197.out)|exact HB.out))) : w.heap.size ≤ gb198));have n4_:=Aside0.mk ((by rw [hg];exact (below_size (by repeat (first|(with_reducible first|exact HB.out|apply below_alloc|apply pw_below_drewN|apply below_drew1|refine below_set ?_ GE197.out)|exact HB.out))) : w.heap.size ≤ gb198));have n5_:=Aside0.mk ((by rw [hg];exact Nat.ne_of_lt (blk_lt (g:=gb197) (o:=.cells #[.slice none 0 0,.int .i64 0,.int .i64 0] 47 (0,0)) (by (with_reducible repeat (first|refine blk_drewN ?_ _|refine blk_drew ?_|refine blk_alloc ?_ _));exact BK197.out)) : gb197 ≠ gb198));have n6_:=Aside0.mk ((by rw [hg];exact Nat.ne_of_gt (blk_lt (g:=gb197) (o:=.cells #[.slice none 0 0,.int .i64 0,.int .i64 0] 47 (0,0)) (by (with_reducible repeat (first|refine blk_drewN ?_ _|refine blk_drew ?_|refine blk_alloc ?_ _));exact BK197.out)) : gb198 ≠ gb197));clear BK197;clear HB;have BK197:=n0_;have HB:=n1_;have BK198:=n2_;have GW198:=n3_;have GE198:=n4_;have NB197_198:=n5_;have NB198_197:=n6_;clear n0_ n1_ n2_ n3_ n4_ n5_ n6_;clear hb hbox hg;have hnb4:=NB198_197.out;have hnc4:=NB197_198.out;have hcz5_0 : w3.cell? ⟨gb198,0,none⟩ = some (.slice none 0 0):=(blk_cell BK198.out 0).trans rfl;have hcz5_1 : w3.cell? ⟨gb198,1,none⟩ = some (.int .i64 0):=(blk_cell BK198.out 1).trans rfl;have hcz5_2 : w3.cell? ⟨gb198,2,none⟩ = some (.int .i64 0):=(blk_cell BK198.out 2).trans rfl;have hfz5_0:=blk_frozen BK198.out 0;have hfz5_1:=blk_frozen BK198.out 1;have hfz5_2:=blk_frozen BK198.out 2)|((with_reducible refine gate_dst (N:=4) rfl ?_);(try (refine gate_guard (by rfl) ?_;dsimp only));refine box_event ?hg (N:=4) ?hd (cs:=#[.int .i64 0,.int .i64 0,.int .i64 0]) (t:=26) ?hr ?_;(case hd => rfl);(case hg => rfl);(case hr => first|(go_simp;done)|(go_simp;rfl));intro gb199 hg w6 hbox hb;have n0_:=Aside0.mk (blk_below (g:=gb197) (o:=.cells #[.slice none 0 0,.int .i64 0,.int .i64 0] 47 (0,0)) (by (with_reducible repeat (first|refine blk_drewN ?_ _|refine blk_drew ?_|refine blk_alloc ?_ _));refine blk_far ?_ NB197_198.out _;(with_reducible repeat (first|refine blk_drewN ?_ _|refine blk_drew ?_|refine blk_alloc ?_ _));refine blk_far ?_ NB197_198.out _;(with_reducible repeat (first|refine blk_drewN ?_ _|refine blk_drew ?_|refine blk_alloc ?_ _));refine blk_far ?_ NB197_198.out _;(with_reducible repeat (first|refine blk_drewN ?_ _|refine blk_drew ?_|refine blk_alloc ?_ _));exact BK197.out) hb);have n1_:=Aside0.mk (blk_below (g:=gb198) (o:=.cells #[.slice none 0 0,.int .i64 0,.int .i64 0] 47 (0,0)) (by (with_reducible repeat (first|refine blk_drewN ?_ _|refine blk_drew ?_|refine blk_alloc ?_ _));refine blk_put (cs:=#[.slice none 0 0,.int .i64 0,.int .i64 0]) ?_ 2 _ rfl;(with_reducible repeat (first|refine blk_drewN ?_ _|refine blk_drew ?_|refine blk_alloc ?_ _));refine blk_put (cs:=#[.slice none 0 0,.int .i64 0,.int .i64 0]) ?_ 1 _ rfl;(with_reducible repeat (first|refine blk_drewN ?_ _|refine blk_drew ?_|refine blk_alloc ?_ _));refine blk_put (cs:=#[.slice none 0 0,.int .i64 0,.int .i64 0]) ?_ 0 _ rfl;(with_reducible repeat (first|refine blk_drewN ?_ _|refine blk_drew ?_|refine blk_alloc ?_ _));exact BK198.out) hb);have n2_:=Aside0.mk (below_step (by repeat (first|(with_reducible first|exact HB.out|apply below_alloc|apply pw_below_drewN|apply below_drew1|refine below_set ?_ GE197.out|refine below_set ?_ GE198.out)|exact HB.out)) hb);have n3_:=Aside0.mk (hbox);have n4_:=Aside0.mk ((by rw [hg];exact (below_size (by repeat (first|(with_reducible first|exact HB.out|apply below_alloc|apply pw_below_drewN|apply below_drew1|refine below_set ?_ GE197.out|refine below_set ?_ GE198.out)|exact HB.out))) : w.heap.size ≤ gb199));have n5_:=Aside0.mk ((by rw [hg];exact (below_size (by repeat (first|(with_reducible first|exact HB.out|apply below_alloc|apply pw_below_drewN|apply below_drew1|refine below_set ?_ GE197.out|refine below_set ?_ GE198.out)|exact HB.out))) : w.heap.size ≤ gb199));have n6_:=Aside0.mk ((by rw [hg];exact Nat.ne_of_lt (blk_lt (g:=gb197) (o:=.cells #[.slice none 0 0,.int .i64 0,.int .i64 0] 47 (0,0)) (by (with_reducible repeat (first|refine blk_drewN ?_ _|refine blk_drew ?_|refine blk_alloc ?_ _));refine blk_far ?_ NB197_198.out _;(with_reducible repeat (first|refine blk_drewN ?_ _|refine blk_drew ?_|refine blk_alloc ?_ _));refine blk_far ?_ NB197_198.out _;(with_reducible repeat (first|refine blk_drewN ?_ _|refine blk_drew ?_|refine blk_alloc ?_ _));refine blk_far ?_ NB197_198.out _;(with_reducible repeat (first|refine blk_drewN ?_ _|refine blk_drew ?_|refine blk_alloc ?_ _));exact BK197.out)) : gb197 ≠ gb199));have n7_:=Aside0.mk ((by rw [hg];exact Nat.ne_of_gt (blk_lt (g:=gb197) (o:=.cells #[.slice none 0 0,.int .i64 0,.int .i64 0] 47 (0,0)) (by (with_reducible repeat (first|refine blk_drewN ?_ _|refine blk_drew ?_|refine blk_alloc ?_ _));refine blk_far ?_ NB197_198.out _;(with_reducible repeat (first|refine blk_drewN ?_ _|refine blk_drew ?_|refine blk_alloc ?_ _));refine blk_far ?_ NB197_198.out _;(with_reducible repeat (first|refine blk_drewN ?_ _|refine blk_drew ?_|refine blk_alloc ?_ _));refine blk_far ?_ NB197_198.out _;(with_reducible repeat (first|refine blk_drewN ?_ _|refine blk_drew ?_|refine blk_alloc ?_ _));exact BK197.out)) : gb199 ≠ gb197));have n8_:=Aside0.mk ((by rw [hg];exact Nat.ne_of_lt (blk_lt (g:=gb198) (o:=.cells #[.slice none 0 0,.int .i64 0,.int .i64 0] 47 (0,0)) (by (with_reducible repeat (first|refine blk_drewN ?_ _|refine blk_drew ?_|refine blk_alloc ?_ _));refine blk_put (cs:=#[.slice none 0 0,.int .i64 0,.int .i64 0]) ?_ 2 _ rfl;(with_reducible repeat (first|refine blk_drewN ?_ _|refine blk_drew ?_|refine blk_alloc ?_ _));refine blk_put (cs:=#[.slice none 0 0,.int .i64 0,.int .i64 0]) ?_ 1 _ rfl;(with_reducible repeat (first|refine blk_drewN ?_ _|refine blk_drew ?_|refine blk_alloc ?_ _));refine blk_put (cs:=#[.slice none 0 0,.int .i64 0,.int .i64 0]) ?_ 0 _ rfl;(with_reducible repeat (first|refine blk_drewN ?_ _|refine blk_drew ?_|refine blk_alloc ?_ _));exact BK198.out)) : gb198 ≠ gb199));have n9_:=Aside0.mk ((by rw [hg];exact Nat.ne_of_gt (blk_lt (g:=gb198) (o:=.cells #[.slice none 0 0,.int .i64 0,.int .i64 0] 47 (0,0)) (by (with_reducible repeat (first|refine blk_drewN ?_ _|refine blk_drew ?_|refine blk_alloc ?_ _));refine blk_put (cs:=#[.slice none 0 0,.int .i64 0,.int .i64 0]) ?_ 2 _ rfl;(with_reducible repeat (first|refine blk_drewN ?_ _|refine blk_drew ?_|refine blk_alloc ?_ _));refine blk_put (cs:=#[.slice none 0 0,.int .i64 0,.int .i64 0]) ?_ 1 _ rfl;(with_reducible repeat (first|refine blk_drewN ?_ _|refine blk_drew ?_|refine blk_alloc ?_ _));refine blk_put (cs:=#[.slice none 0 0,.int .i64 0,.int .i64 0]) ?_ 0 _ rfl;(with_reducible repeat (first|refine blk_drewN ?_ _|refine blk_drew ?_|refine blk_alloc ?_ _));exact BK198.out)) : gb199 ≠ gb198));clear BK197;clear BK198;clear HB;have BK197:=n0_;have BK198:=n1_;have HB:=n2_;have BK199:=n3_;have GW199:=n4_;have GE199:=n5_;have NB197_199:=n6_;have NB199_197:=n7_;have NB198_199:=n8_;have NB199_198:=n9_;clear n0_ n1_ n2_ n3_ n4_ n5_ n6_ n7_ n8_ n9_;clear hb hbox hg;have hnb7:=NB199_197.out;have hnc7:=NB197_199.out;have hnb8:=NB199_198.out;have hnc8:=NB198_199.out;have hcz9_0 : w6.cell? ⟨gb199,0,none⟩ = some (.int .i64 0):=(blk_cell BK199.out 0).trans rfl;have hcz9_1 : w6.cell? ⟨gb199,1,none⟩ = some (.int .i64 0):=(blk_cell BK199.out 1).trans rfl;have hcz9_2 : w6.cell? ⟨gb199,2,none⟩ = some (.int .i64 0):=(blk_cell BK199.out 2).trans rfl;have hfz9_0:=blk_frozen BK199.out 0;have hfz9_1:=blk_frozen BK199.out 1;have hfz9_2:=blk_frozen BK199.out 2))
 go_loopg [5, 6] k (fun kq v5 v6 w' => ∃ (x5_1 : Int) (x6_1 : Int) (x198001_1 : Int) (x198002_1 : Int) (x199000_1 : List (S35)) (x199001_1 : Int) (x199002_1 : Int) (x200000_1 : Int) (x200001_1 : Int) (x200002_1 : Int) (u199000 : Value), v5 = .int .i64 x5_1 ∧ v6 = .int .i64 x6_1 ∧ Aside0 (colophonref10_Find.l0 kq a0 x5_1 x6_1 x199000_1 x199001_1 x199002_1 x200000_1 x200001_1 x200002_1 = some (r1, r2, r3)) ∧ Aside0 (kq ≤ k) ∧ Aside0 (Kd.R k35 35 w' w.heap.size (fun _ => True) u199000 x199000_1) ∧ Aside0 (w'.heap[gb197]? = some (.cells #[(.slice none 0 0), .int .i64 x198001_1, .int .i64 x198002_1] 47 (0, 0))) ∧ Aside0 (w'.heap[gb198]? = some (.cells #[u199000, .int .i64 x199001_1, .int .i64 x199002_1] 47 (0, 0))) ∧ Aside0 (w'.heap[gb199]? = some (.cells #[.int .i64 x200000_1, .int .i64 x200001_1, .int .i64 x200002_1] 26 (0, 0))) ∧ Aside0 (Below w.heap.size w w'))
 case atStart => exact ⟨(0),(0),(0),(0),(([] : List (S35))),(0),(0),(0),(1),(1),(.slice none 0 0),(by first|rfl|(simp;done)|(simp [*];done)),(by first|rfl|(simp;done)|(simp [*];done)),H',⟨Nat.le_refl _⟩,⟨by first|exact Kd.R_nil _ _ _ _ _|exact Kd.N_nil _ _ _ _ _|exact Kd.V_nil _ _ _ _ _|exact Kd.Q_nil _ _ _ _ _|exact Kd.S_nil _ _ _ _ _⟩,⟨by (with_reducible repeat (first|refine blk_drewN ?_ _|refine blk_drew ?_|refine blk_alloc ?_ _));refine blk_far ?_ NB197_199.out _;(with_reducible repeat (first|refine blk_drewN ?_ _|refine blk_drew ?_|refine blk_alloc ?_ _));refine blk_far ?_ NB197_199.out _;(with_reducible repeat (first|refine blk_drewN ?_ _|refine blk_drew ?_|refine blk_alloc ?_ _));refine blk_far ?_ NB197_199.out _;(with_reducible repeat (first|refine blk_drewN ?_ _|refine blk_drew ?_|refine blk_alloc ?_ _));exact BK197.out⟩,⟨by (with_reducible repeat (first|refine blk_drewN ?_ _|refine blk_drew ?_|refine blk_alloc ?_ _));refine blk_far ?_ NB198_199.out _;(with_reducible repeat (first|refine blk_drewN ?_ _|refine blk_drew ?_|refine blk_alloc ?_ _));refine blk_far ?_ NB198_199.out _;(with_reducible repeat (first|refine blk_drewN ?_ _|refine blk_drew ?_|refine blk_alloc ?_ _));refine blk_far ?_ NB198_199.out _;(with_reducible repeat (first|refine blk_drewN ?_ _|refine blk_drew ?_|refine blk_alloc ?_ _));exact BK198.out⟩,⟨by (with_reducible repeat (first|refine blk_drewN ?_ _|refine blk_drew ?_|refine blk_alloc ?_ _));refine blk_put (cs:=#[.int .i64 0,.int .i64 1,.int .i64 0]) ?_ 2 _ rfl;(with_reducible repeat (first|refine blk_drewN ?_ _|refine blk_drew ?_|refine blk_alloc ?_ _));refine blk_put (cs:=#[.int .i64 0,.int .i64 0,.int .i64 0]) ?_ 1 _ rfl;(with_reducible repeat (first|refine blk_drewN ?_ _|refine blk_drew ?_|refine blk_alloc ?_ _));refine blk_put (cs:=#[.int .i64 0,.int .i64 0,.int .i64 0]) ?_ 0 _ rfl;(with_reducible repeat (first|refine blk_drewN ?_ _|refine blk_drew ?_|refine blk_alloc ?_ _));exact BK199.out⟩,⟨by repeat (first|(with_reducible first|exact HB.out|apply below_alloc|apply pw_below_drewN|apply below_drew1|refine below_set ?_ GE197.out|refine below_set ?_ GE198.out|refine below_set ?_ GE199.out)|exact HB.out)⟩⟩
 case round =>
  clear H'
  try clear c2
  try clear p2
  try clear c4
  try clear c7
  try clear c8
  try clear hcz5_0
  try clear hcz5_1
  try clear hcz5_2
  try clear hcz9_0
  try clear hcz9_1
  try clear hcz9_2
  try clear hfz5_0
  try clear hfz5_1
  try clear hfz5_2
  try clear hfz9_0
  try clear hfz9_1
  try clear hfz9_2
  obtain ⟨x5_1, x6_1, x198001_1, x198002_1, x199000_1, x199001_1, x199002_1, x200000_1, x200001_1, x200002_1, u199000, rfl, rfl, HA, HK1, HO_199000, BK197, BK198, BK199, HB⟩ := hrel
  cases gk with
  | zero => exact absurd HA.out (by simp [colophonref10_Find.l0])
  | succ k1 =>
   have H := HA.out
   clear HA
   simp only [colophonref10_Find.l0] at H
   by_cases c10 : x6_1 < (a0.size : Int)
   ·rw [if_pos c10] at H
    have c10b0 : decide (x6_1 < (a0.size : Int)) = true := decide_eq_true c10
    clear c10
    by_cases c11 : 0 ≤ x6_1
    ·rw [if_pos c11] at H
     have c11b0 : decide (0 ≤ x6_1) = true := decide_eq_true c11
     clear c11
     have HC13 := Aside0.mk H
     clear H
     have p12 : 0 ≤ (x6_1 : Int) := of_decide_eq_true (by first|(with_reducible assumption)|assumption)
     have q12 : x6_1 < (a0.size : Int) := of_decide_eq_true (by first|(with_reducible assumption)|assumption)
     have hx12 := bt_at a0 x6_1
     replace p12 := eq_true p12
     replace q12 := eq_true q12
     go_upto_if 20 with (fail)
     go_cut [5] (fun v5 wc => ∃ (kq : Nat) (x5_12 : Int), v5 = .int .i64 x5_12 ∧ Aside0 (colophonref10_Find.j1 kq a0 x5_12 x6_1 x199000_1 x199001_1 x199002_1 x200000_1 x200001_1 x200002_1 = some (r1, r2, r3)) ∧ Aside0 (kq ≤ k1) ∧ Aside0 (Kd.R k35 35 wc w.heap.size (fun _ => True) u199000 x199000_1) ∧ Aside0 (wc.heap[gb197]? = some (.cells #[(.slice none 0 0), .int .i64 x198001_1, .int .i64 x198002_1] 47 (0, 0))) ∧ Aside0 (wc.heap[gb198]? = some (.cells #[u199000, .int .i64 x199001_1, .int .i64 x199002_1] 47 (0, 0))) ∧ Aside0 (wc.heap[gb199]? = some (.cells #[.int .i64 x200000_1, .int .i64 x200001_1, .int .i64 x200002_1] 26 (0, 0))) ∧ Aside0 (Below w.heap.size w wc))
     case first =>
      have H := HC13.out
      clear HC13
      by_cases c14 : (bt a0 x6_1) = 10
      ·rw [if_pos c14] at H
       have c14b0 : ((bt a0 x6_1) == 10) = true := beq_iff_eq.mpr c14
       have c14b1 : ((bt a0 x6_1) != 10) = false := bne_eq_false_iff_eq.mpr c14
       clear c14
       (first|rw [c14b0]|(simp only [i64_w, i32_w]; rw [c14b0])|skip)
       have H' := Aside0.mk H
       clear H
       go_wp2
       go_meet
       case rel => exact ⟨_, (wrap64 (x5_1 + 1)), (by first|rfl|(simp; done)|(simp [*]; done)), H', ⟨by have := HK1.out; first|omega|exact Nat.le_refl _⟩, ⟨by (with_reducible repeat (first|apply Kd.R_alloc|apply Kd.R_drewN|apply Kd.R_drew)); exact HO_199000.out⟩, ⟨by (with_reducible repeat (first|refine blk_drewN ?_ _|refine blk_drew ?_|refine blk_alloc ?_ _)); exact BK197.out⟩, ⟨by (with_reducible repeat (first|refine blk_drewN ?_ _|refine blk_drew ?_|refine blk_alloc ?_ _)); exact BK198.out⟩, ⟨by (with_reducible repeat (first|refine blk_drewN ?_ _|refine blk_drew ?_|refine blk_alloc ?_ _)); exact BK199.out⟩, ⟨by repeat (first|(with_reducible first|exact HB.out|apply below_alloc|apply pw_below_drewN|apply below_drew1|refine below_set ?_ GE197.out|refine below_set ?_ GE198.out|refine below_set ?_ GE199.out)|exact HB.out)⟩⟩
      ·rw [if_neg c14] at H
       have c14b0 : ((bt a0 x6_1) == 10) = false := beq_eq_false_iff_ne.mpr c14
       have c14b1 : ((bt a0 x6_1) != 10) = true := bne_iff_ne.mpr c14
       (first|rw [c14b0]|(simp only [i64_w, i32_w]; rw [c14b0])|skip)
       have H' := Aside0.mk H
       clear H
       go_wp2
       go_meet
       case rel => exact ⟨_, (x5_1), (by first|rfl|(simp; done)|(simp [*]; done)), H', ⟨by have := HK1.out; first|omega|exact Nat.le_refl _⟩, ⟨by (with_reducible repeat (first|apply Kd.R_alloc|apply Kd.R_drewN|apply Kd.R_drew)); exact HO_199000.out⟩, ⟨by (with_reducible repeat (first|refine blk_drewN ?_ _|refine blk_drew ?_|refine blk_alloc ?_ _)); exact BK197.out⟩, ⟨by (with_reducible repeat (first|refine blk_drewN ?_ _|refine blk_drew ?_|refine blk_alloc ?_ _)); exact BK198.out⟩, ⟨by (with_reducible repeat (first|refine blk_drewN ?_ _|refine blk_drew ?_|refine blk_alloc ?_ _)); exact BK199.out⟩, ⟨by repeat (first|(with_reducible first|exact HB.out|apply below_alloc|apply pw_below_drewN|apply below_drew1|refine below_set ?_ GE197.out|refine below_set ?_ GE198.out|refine below_set ?_ GE199.out)|exact HB.out)⟩⟩
     case rest =>
      clear HC13
      try clear c1
      try clear p1
      try clear q1
      try clear hx1
      try clear c2
      try clear p2
      try clear c4
      try clear p6
      try clear c7
      try clear c8
      try clear c10
      try clear c10b0
      try clear c11
      try clear c11b0
      try clear p12
      try clear q12
      try clear hx12
      try clear c14
      try clear c14b0
      try clear c14b1
      try clear hcz5_0
      try clear hcz5_1
      try clear hcz5_2
      try clear hcz9_0
      try clear hcz9_1
      try clear hcz9_2
      try clear hfz5_0
      try clear hfz5_1
      try clear hfz5_2
      try clear hfz9_0
      try clear hfz9_1
      try clear hfz9_2
      try clear p12
      try clear p2
      try clear q12
      obtain ⟨kq, x5_12, rfl, HA, HJ12, HO_199000, BK197, BK198, BK199, HB⟩ := hcut
      cases kq with
      | zero => exact absurd HA.out (by simp [colophonref10_Find.j1])
      | succ kj12 =>
       have H := HA.out
       clear HA
       simp only [colophonref10_Find.j1] at H
       have HC15 := Aside0.mk H
       clear H
       go_upto_region 8 with (fail)
       go_cut [32] (fun v32 wc => ∃ (kq : Nat) (x32_14 : Bool), v32 = .bool x32_14 ∧ Aside0 (colophonref10_Find.j2 kq a0 x5_12 x6_1 x32_14 x199000_1 x199001_1 x199002_1 x200000_1 x200001_1 x200002_1 = some (r1, r2, r3)) ∧ Aside0 (kq ≤ kj12) ∧ Aside0 (Kd.R k35 35 wc w.heap.size (fun _ => True) u199000 x199000_1) ∧ Aside0 (wc.heap[gb197]? = some (.cells #[(.slice none 0 0), .int .i64 x198001_1, .int .i64 x198002_1] 47 (0, 0))) ∧ Aside0 (wc.heap[gb198]? = some (.cells #[u199000, .int .i64 x199001_1, .int .i64 x199002_1] 47 (0, 0))) ∧ Aside0 (wc.heap[gb199]? = some (.cells #[.int .i64 x200000_1, .int .i64 x200001_1, .int .i64 x200002_1] 26 (0, 0))) ∧ Aside0 (Below w.heap.size w wc))
       case first =>
        have H := HC15.out
        clear HC15
        by_cases c16 : 0 ≤ x6_1
        ·rw [if_pos c16] at H
         have c16b0 : decide (0 ≤ x6_1) = true := decide_eq_true c16
         clear c16
         (first|rw [c16b0]|(simp only [i64_w, i32_w]; rw [c16b0])|skip)
         by_cases c17 : x6_1 < (a0.size : Int)
         ·rw [if_pos c17] at H
          have c17b0 : decide (x6_1 < (a0.size : Int)) = true := decide_eq_true c17
          clear c17
          by_cases c19 : (bt a0 x6_1) = 10
          ·rw [if_pos c19] at H
           have c19b0 : ((bt a0 x6_1) == 10) = true := beq_iff_eq.mpr c19
           have c19b1 : ((bt a0 x6_1) != 10) = false := bne_eq_false_iff_eq.mpr c19
           clear c19
           have H' := Aside0.mk H
           clear H
           have p18 : 0 ≤ (x6_1 : Int) := of_decide_eq_true (by first|(with_reducible assumption)|assumption)
           have q18 : x6_1 < (a0.size : Int) := of_decide_eq_true (by first|(with_reducible assumption)|assumption)
           have hx18 := bt_at a0 x6_1
           replace p18 := eq_true p18
           replace q18 := eq_true q18
           go_wp2
           go_meet
           case rel => exact ⟨_, (true), (by first|rfl|(simp; done)|(simp [*]; done)), H', ⟨by have := HK1.out; have := HJ12.out; first|omega|exact Nat.le_refl _⟩, ⟨by (with_reducible repeat (first|apply Kd.R_alloc|apply Kd.R_drewN|apply Kd.R_drew)); exact HO_199000.out⟩, ⟨by (with_reducible repeat (first|refine blk_drewN ?_ _|refine blk_drew ?_|refine blk_alloc ?_ _)); exact BK197.out⟩, ⟨by (with_reducible repeat (first|refine blk_drewN ?_ _|refine blk_drew ?_|refine blk_alloc ?_ _)); exact BK198.out⟩, ⟨by (with_reducible repeat (first|refine blk_drewN ?_ _|refine blk_drew ?_|refine blk_alloc ?_ _)); exact BK199.out⟩, ⟨by repeat (first|(with_reducible first|exact HB.out|apply below_alloc|apply pw_below_drewN|apply below_drew1|refine below_set ?_ GE197.out|refine below_set ?_ GE198.out|refine below_set ?_ GE199.out)|exact HB.out)⟩⟩
          ·rw [if_neg c19] at H
           have c19b0 : ((bt a0 x6_1) == 10) = false := beq_eq_false_iff_ne.mpr c19
           have c19b1 : ((bt a0 x6_1) != 10) = true := bne_iff_ne.mpr c19
           replace H := Option.bind_eq_some_iff.mp H
           obtain ⟨t200, A210, H⟩ := H
           replace H : (colophonref10_Find.j2 kj12 a0 x5_12 x6_1 t200 x199000_1 x199001_1 x199002_1 x200000_1 x200001_1 x200002_1) = some (r1, r2, r3) := H
           have A21 := Aside0.mk A210
           clear A210
           have H' := Aside0.mk H
           clear H
           have p18 : 0 ≤ (x6_1 : Int) := of_decide_eq_true (by first|(with_reducible assumption)|assumption)
           have q18 : x6_1 < (a0.size : Int) := of_decide_eq_true (by first|(with_reducible assumption)|assumption)
           have hx18 := bt_at a0 x6_1
           replace p18 := eq_true p18
           replace q18 := eq_true q18
           have p20 : 0 ≤ (x6_1 : Int) := of_decide_eq_true (by first|(with_reducible assumption)|assumption)
           have q20 : x6_1 < (a0.size : Int) := of_decide_eq_true (by first|(with_reducible assumption)|assumption)
           have hx20 := bt_at a0 x6_1
           replace p20 := eq_true p20
           replace q20 := eq_true q20
           go_wp2_with (first|(go_at_call 44;(with_reducible refine (colophonref10_blank.calls (bt a0 x6_1) t200 _ A21.out).mono ?_);rintro e w22 ⟨rfl,hb⟩;have n0_:=Aside0.mk (Kd.R_below (by (with_reducible repeat (first|apply Kd.R_alloc|apply Kd.R_drewN|apply Kd.R_drew));exact HO_199000.out) hb);have n1_:=Aside0.mk (blk_below (g:=gb197) (o:=.cells #[.slice none 0 0,.int .i64 x198001_1,.int .i64 x198002_1] 47 (0,0)) (by (with_reducible repeat (first|refine blk_drewN ?_ _|refine blk_drew ?_|refine blk_alloc ?_ _));exact BK197.out) hb);have n2_:=Aside0.mk (blk_below (g:=gb198) (o:=.cells #[u199000,.int .i64 x199001_1,.int .i64 x199002_1] 47 (0,0)) (by (with_reducible repeat (first|refine blk_drewN ?_ _|refine blk_drew ?_|refine blk_alloc ?_ _));exact BK198.out) hb);have n3_:=Aside0.mk (blk_below (g:=gb199) (o:=.cells #[.int .i64 x200000_1,.int .i64 x200001_1,.int .i64 x200002_1] 26 (0,0)) (by (with_reducible repeat (first|refine blk_drewN ?_ _|refine blk_drew ?_|refine blk_alloc ?_ _));exact BK199.out) hb);have n4_:=Aside0.mk (below_step (by repeat (first|(with_reducible first|exact HB.out|apply below_alloc|apply pw_below_drewN|apply below_drew1|refine below_set ?_ GE197.out|refine below_set ?_ GE198.out|refine below_set ?_ GE199.out)|exact HB.out)) hb);clear HO_199000;clear BK197;clear BK198;clear BK199;clear HB;have HO_199000:=n0_;have BK197:=n1_;have BK198:=n2_;have BK199:=n3_;have HB:=n4_;clear n0_ n1_ n2_ n3_ n4_;(try clear hb);(try clear hb2);(try clear hk);(try clear hi)))
           go_meet
           case rel => exact ⟨_, (t200), (by first|rfl|(simp; done)|(simp [*]; done)), H', ⟨by have := HK1.out; have := HJ12.out; first|omega|exact Nat.le_refl _⟩, ⟨by (with_reducible repeat (first|apply Kd.R_alloc|apply Kd.R_drewN|apply Kd.R_drew)); exact HO_199000.out⟩, ⟨by (with_reducible repeat (first|refine blk_drewN ?_ _|refine blk_drew ?_|refine blk_alloc ?_ _)); exact BK197.out⟩, ⟨by (with_reducible repeat (first|refine blk_drewN ?_ _|refine blk_drew ?_|refine blk_alloc ?_ _)); exact BK198.out⟩, ⟨by (with_reducible repeat (first|refine blk_drewN ?_ _|refine blk_drew ?_|refine blk_alloc ?_ _)); exact BK199.out⟩, ⟨by repeat (first|(with_reducible first|exact HB.out|apply below_alloc|apply pw_below_drewN|apply below_drew1|refine below_set ?_ GE197.out|refine below_set ?_ GE198.out|refine below_set ?_ GE199.out)|exact HB.out)⟩⟩
         ·rw [if_neg c17] at H
          exact absurd H (by simp)
        ·rw [if_neg c16] at H
         exact absurd H (by simp)
       case rest =>
        clear HC15
        try clear c1
        try clear p1
        try clear q1
        try clear hx1
        try clear c2
        try clear p2
        try clear q2
        try clear hx2
        try clear c4
        try clear p6
        try clear c7
        try clear c8
        try clear c10
        try clear c10b0
        try clear c11
        try clear c11b0
        try clear p12
        try clear q12
        try clear hx12
        try clear c14
        try clear c14b0
        try clear c14b1
        try clear c16
        try clear c16b0
        try clear c17
        try clear c17b0
        try clear p18
        try clear q18
        try clear hx18
        try clear c19
        try clear c19b0
        try clear c19b1
        try clear c20
        try clear p20
        try clear q20
        try clear hx20
        try clear hcz5_0
        try clear hcz5_1
        try clear hcz5_2
        try clear hcz9_0
        try clear hcz9_1
        try clear hcz9_2
        try clear hfz5_0
        try clear hfz5_1
        try clear hfz5_2
        try clear hfz9_0
        try clear hfz9_1
        try clear hfz9_2
        try clear p1
        try clear p12
        try clear p18
        try clear p2
        try clear p20
        try clear p6
        try clear q1
        try clear q12
        try clear q18
        try clear q20
        obtain ⟨kq, x32_14, rfl, HA, HJ14, HO_199000, BK197, BK198, BK199, HB⟩ := hcut
        cases kq with
        | zero => exact absurd HA.out (by simp [colophonref10_Find.j2])
        | succ kj14 =>
         have H := HA.out
         clear HA
         simp only [colophonref10_Find.j2] at H
         by_cases c23 : x32_14 = true
         ·subst c23
          have H1 : (colophonref10_Find.l0 kj14 a0 x5_12 (wrap64 (x6_1 + 1)) x199000_1 x199001_1 x199002_1 x200000_1 x200001_1 x200002_1) = some (r1, r2, r3) := by rw [if_pos rfl] at H; exact H
          clear H
          have H := H1
          clear H1
          have H' := Aside0.mk H
          clear H
          go_wp2
          go_roundg kj14
          case measure => have := HK1.out; have := HJ12.out; have := HJ14.out; omega
          case rel => exact ⟨(x5_12), (wrap64 (x6_1 + 1)), (x198001_1), (x198002_1), (x199000_1), (x199001_1), (x199002_1), (x200000_1), (x200001_1), (x200002_1), (u199000), (by first|rfl|(simp; done)|(simp [*]; done)), (by first|rfl|(simp; done)|(simp [*]; done)), H', ⟨by have := HK1.out; have := HJ12.out; have := HJ14.out; omega⟩, ⟨by (with_reducible repeat (first|apply Kd.R_alloc|apply Kd.R_drewN|apply Kd.R_drew)); exact HO_199000.out⟩, ⟨by (with_reducible repeat (first|refine blk_drewN ?_ _|refine blk_drew ?_|refine blk_alloc ?_ _)); exact BK197.out⟩, ⟨by (with_reducible repeat (first|refine blk_drewN ?_ _|refine blk_drew ?_|refine blk_alloc ?_ _)); exact BK198.out⟩, ⟨by (with_reducible repeat (first|refine blk_drewN ?_ _|refine blk_drew ?_|refine blk_alloc ?_ _)); exact BK199.out⟩, ⟨by repeat (first|(with_reducible first|exact HB.out|apply below_alloc|apply pw_below_drewN|apply below_drew1|refine below_set ?_ GE197.out|refine below_set ?_ GE198.out|refine below_set ?_ GE199.out)|exact HB.out)⟩⟩
         ·replace c23 := Bool.eq_false_iff.mpr c23
          subst c23
          have H1 : ((colophonref10_begins.f kj14 a0 x6_1).bind fun t201 => (if t201 = 0 then (some (x199000_1, 100, x6_1)) else ((colophonref10_ends.f kj14 a0 x6_1 t201).bind fun bt202 => (if bt202.2 = 0 then (if 0 ≤ x200000_1 then (if x200000_1 ≤ x6_1 then (if x6_1 ≤ (a0.size : Int) then ((colophonref03_Advance.f kj14 x200000_1 x200001_1 x200002_1 (a0.extract (x200000_1 : Int).toNat (x6_1 : Int).toNat)).bind fun bt205 => (if 0 ≤ x6_1 then (if x6_1 ≤ bt202.1 then (if bt202.1 ≤ (a0.size : Int) then ((colophonref04_IsKey.f kj14 (a0.extract (x6_1 : Int).toNat (bt202.1 : Int).toNat)).bind fun t209 => (if t201 = 1 then (colophonref10_Find.j3 kj14 a0 t201 t209 x199000_1 x199001_1 x199002_1 bt205.1 bt205.2.1 bt205.2.2 bt202.1 bt202.2 t201 (a0.extract (x6_1 : Int).toNat (bt202.1 : Int).toNat) bt205.1 bt205.2.1 bt205.2.2 x5_12) else (colophonref10_Find.j3 kj14 a0 t201 false x199000_1 x199001_1 x199002_1 bt205.1 bt205.2.1 bt205.2.2 bt202.1 bt202.2 t201 (a0.extract (x6_1 : Int).toNat (bt202.1 : Int).toNat) bt205.1 bt205.2.1 bt205.2.2 x5_12))) else (none)) else (none)) else (none))) else (none)) else (none)) else (none)) else (some (x199000_1, bt202.2, bt202.1)))))) = some (r1, r2, r3) := by rw [if_neg (show ¬ (false = true) by decide)] at H; exact H
          clear H
          have H := H1
          clear H1
          replace H := Option.bind_eq_some_iff.mp H
          obtain ⟨t201, A240, H⟩ := H
          replace H : (if t201 = 0 then (some (x199000_1, 100, x6_1)) else ((colophonref10_ends.f kj14 a0 x6_1 t201).bind fun bt202 => (if bt202.2 = 0 then (if 0 ≤ x200000_1 then (if x200000_1 ≤ x6_1 then (if x6_1 ≤ (a0.size : Int) then ((colophonref03_Advance.f kj14 x200000_1 x200001_1 x200002_1 (a0.extract (x200000_1 : Int).toNat (x6_1 : Int).toNat)).bind fun bt205 => (if 0 ≤ x6_1 then (if x6_1 ≤ bt202.1 then (if bt202.1 ≤ (a0.size : Int) then ((colophonref04_IsKey.f kj14 (a0.extract (x6_1 : Int).toNat (bt202.1 : Int).toNat)).bind fun t209 => (if t201 = 1 then (colophonref10_Find.j3 kj14 a0 t201 t209 x199000_1 x199001_1 x199002_1 bt205.1 bt205.2.1 bt205.2.2 bt202.1 bt202.2 t201 (a0.extract (x6_1 : Int).toNat (bt202.1 : Int).toNat) bt205.1 bt205.2.1 bt205.2.2 x5_12) else (colophonref10_Find.j3 kj14 a0 t201 false x199000_1 x199001_1 x199002_1 bt205.1 bt205.2.1 bt205.2.2 bt202.1 bt202.2 t201 (a0.extract (x6_1 : Int).toNat (bt202.1 : Int).toNat) bt205.1 bt205.2.1 bt205.2.2 x5_12))) else (none)) else (none)) else (none))) else (none)) else (none)) else (none)) else (some (x199000_1, bt202.2, bt202.1))))) = some (r1, r2, r3) := H
          have A24 := Aside0.mk A240
          clear A240
          by_cases c25 : t201 = 0
          ·rw [if_pos c25] at H
           have c25b0 : (t201 == 0) = true := beq_iff_eq.mpr c25
           have c25b1 : (t201 != 0) = false := bne_eq_false_iff_eq.mpr c25
           clear c25
           simp only [Option.some.injEq, Prod.mk.injEq] at H
           obtain ⟨rfl, rfl, rfl⟩ := H
           go_wp2_with (first|((with_reducible refine gate_callee (f:=45) rfl ?_);refine goesL_ (some 37) rfl rfl Tryd.func45 (by kernel_rfl) rfl #[.string a0,.int .i64 x6_1] rfl (by (try simp only [List.map_toArray,List.map_cons,List.map_nil]);first|done|rfl|(simp only [List.length_drop,List.length_take];rfl)) ?_;(with_reducible refine (colophonref10_begins.calls kj14 a0 x6_1 t201 _ A24.out).mono ?_);rintro e w26 ⟨rfl,hb⟩;refine ⟨_,rfl,?_⟩;have n0_:=Aside0.mk (Kd.R_below (by (with_reducible repeat (first|apply Kd.R_alloc|apply Kd.R_drewN|apply Kd.R_drew));exact HO_199000.out) hb);have n1_:=Aside0.mk (blk_below (g:=gb197) (o:=.cells #[.slice none 0 0,.int .i64 x198001_1,.int .i64 x198002_1] 47 (0,0)) (by (with_reducible repeat (first|refine blk_drewN ?_ _|refine blk_drew ?_|refine blk_alloc ?_ _));exact BK197.out) hb);have n2_:=Aside0.mk (blk_below (g:=gb198) (o:=.cells #[u199000,.int .i64 x199001_1,.int .i64 x199002_1] 47 (0,0)) (by (with_reducible repeat (first|refine blk_drewN ?_ _|refine blk_drew ?_|refine blk_alloc ?_ _));exact BK198.out) hb);have n3_:=Aside0.mk (blk_below (g:=gb199) (o:=.cells #[.int .i64 x200000_1,.int .i64 x200001_1,.int .i64 x200002_1] 26 (0,0)) (by (with_reducible repeat (first|refine blk_drewN ?_ _|refine blk_drew ?_|refine blk_alloc ?_ _));exact BK199.out) hb);have n4_:=Aside0.mk (below_step (by repeat (first|(with_reducible first|exact HB.out|apply below_alloc|apply pw_below_drewN|apply below_drew1|refine below_set ?_ GE197.out|refine below_set ?_ GE198.out|refine below_set ?_ GE199.out)|exact HB.out)) hb);clear HO_199000;clear BK197;clear BK198;clear BK199;clear HB;have HO_199000:=n0_;have BK197:=n1_;have BK198:=n2_;have BK199:=n3_;have HB:=n4_;clear n0_ n1_ n2_ n3_ n4_;(try clear hb);(try clear hb2);(try clear hk);(try clear hi);have hnb27:=NB198_197.out;have hnc27:=NB197_198.out;have hnb28:=NB198_199.out;have hnc28:=NB199_198.out;have hcz29_0 : w26.cell? ⟨gb198,0,none⟩ = some (u199000):=(blk_cell BK198.out 0).trans rfl;have hcz29_1 : w26.cell? ⟨gb198,1,none⟩ = some (.int .i64 x199001_1):=(blk_cell BK198.out 1).trans rfl;have hcz29_2 : w26.cell? ⟨gb198,2,none⟩ = some (.int .i64 x199002_1):=(blk_cell BK198.out 2).trans rfl;have hfz29_0:=blk_frozen BK198.out 0;have hfz29_1:=blk_frozen BK198.out 1;have hfz29_2:=blk_frozen BK198.out 2;obtain ⟨Ao30,co30,eo30⟩:=Kd.R_slice HO_199000.out;subst eo30;have hnb31:=NB197_199.out;have hnc31:=NB199_197.out;have hcz32_0 : w26.cell? ⟨gb197,0,none⟩ = some (.slice none 0 0):=(blk_cell BK197.out 0).trans rfl;have hcz32_1 : w26.cell? ⟨gb197,1,none⟩ = some (.int .i64 x198001_1):=(blk_cell BK197.out 1).trans rfl;have hcz32_2 : w26.cell? ⟨gb197,2,none⟩ = some (.int .i64 x198002_1):=(blk_cell BK197.out 2).trans rfl;have hfz32_0:=blk_frozen BK197.out 0;have hfz32_1:=blk_frozen BK197.out 1;have hfz32_2:=blk_frozen BK197.out 2))
           refine bodyPost_ret (results_cell_row rfl _ _ gb197 47 #[.slice Ao30 x199000_1.length co30, .int .i64 100, .int .i64 x6_1] (0, 0) _ rfl (by (with_reducible repeat (first|refine blk_drewN ?_ _|refine blk_drew ?_|refine blk_alloc ?_ _)); refine blk_put (cs := #[.slice Ao30 x199000_1.length co30, .int .i64 100, .int .i64 x198002_1]) ?_ 2 _ rfl; (with_reducible repeat (first|refine blk_drewN ?_ _|refine blk_drew ?_|refine blk_alloc ?_ _)); refine blk_put (cs := #[.slice Ao30 x199000_1.length co30, .int .i64 x198001_1, .int .i64 x198002_1]) ?_ 1 _ rfl; (with_reducible repeat (first|refine blk_drewN ?_ _|refine blk_drew ?_|refine blk_alloc ?_ _)); refine blk_put (cs := #[.slice none 0 0, .int .i64 x198001_1, .int .i64 x198002_1]) ?_ 0 _ rfl; (with_reducible repeat (first|refine blk_drewN ?_ _|refine blk_drew ?_|refine blk_alloc ?_ _)); refine blk_far ?_ NB197_198.out _; (with_reducible repeat (first|refine blk_drewN ?_ _|refine blk_drew ?_|refine blk_alloc ?_ _)); refine blk_far ?_ NB197_198.out _; (with_reducible repeat (first|refine blk_drewN ?_ _|refine blk_drew ?_|refine blk_alloc ?_ _)); exact BK197.out) Tryd.underlying47 rfl (by kernel_rfl)) rfl ?_
           exact ⟨_, by first|rfl|(simp [errW_none, errW_some] <;> rfl)|(simp [*, errW_none, errW_some] <;> rfl), by (with_reducible repeat (first|apply Kd.R_alloc|apply Kd.R_drewN|apply Kd.R_drew)); exact Kd.R_mono (Kd.R_far (p := ⟨gb197, 2, none⟩) (Kd.R_far (p := ⟨gb197, 1, none⟩) (Kd.R_far (p := ⟨gb197, 0, none⟩) (Kd.R_far (p := ⟨gb198, 2, none⟩) (Kd.R_far (p := ⟨gb198, 1, none⟩) (Kd.R_types (Kd.R_types HO_199000.out BK198.out (by decide)) BK197.out (by decide)) (fun _ hk => hk.1.2) (.int .i64 100)) (fun _ hk => hk.1.2) (.int .i64 x6_1)) (fun _ hk => hk.2) (.slice Ao30 x199000_1.length co30)) (fun _ hk => hk.2) (.int .i64 100)) (fun _ hk => hk.2) (.int .i64 x6_1)) (fun _ hk => trivial), by repeat (first|(with_reducible first|exact HB.out|apply below_alloc|apply pw_below_drewN|apply below_drew1|refine below_set ?_ GE197.out|refine below_set ?_ GE198.out|refine below_set ?_ GE199.out)|exact HB.out)⟩
          ·rw [if_neg c25] at H
           have c25b0 : (t201 == 0) = false := beq_eq_false_iff_ne.mpr c25
           have c25b1 : (t201 != 0) = true := bne_iff_ne.mpr c25
           replace H := Option.bind_eq_some_iff.mp H
           obtain ⟨⟨t202, t203⟩, A330, H⟩ := H
           replace H : (if t203 = 0 then (if 0 ≤ x200000_1 then (if x200000_1 ≤ x6_1 then (if x6_1 ≤ (a0.size : Int) then ((colophonref03_Advance.f kj14 x200000_1 x200001_1 x200002_1 (a0.extract (x200000_1 : Int).toNat (x6_1 : Int).toNat)).bind fun bt205 => (if 0 ≤ x6_1 then (if x6_1 ≤ t202 then (if t202 ≤ (a0.size : Int) then ((colophonref04_IsKey.f kj14 (a0.extract (x6_1 : Int).toNat (t202 : Int).toNat)).bind fun t209 => (if t201 = 1 then (colophonref10_Find.j3 kj14 a0 t201 t209 x199000_1 x199001_1 x199002_1 bt205.1 bt205.2.1 bt205.2.2 t202 t203 t201 (a0.extract (x6_1 : Int).toNat (t202 : Int).toNat) bt205.1 bt205.2.1 bt205.2.2 x5_12) else (colophonref10_Find.j3 kj14 a0 t201 false x199000_1 x199001_1 x199002_1 bt205.1 bt205.2.1 bt205.2.2 t202 t203 t201 (a0.extract (x6_1 : Int).toNat (t202 : Int).toNat) bt205.1 bt205.2.1 bt205.2.2 x5_12))) else (none)) else (none)) else (none))) else (none)) else (none)) else (none)) else (some (x199000_1, t203, t202))) = some (r1, r2, r3) := H
           have A33 := Aside0.mk A330
           clear A330
           by_cases c34 : t203 = 0
           ·rw [if_pos c34] at H
            have c34b0 : (t203 == 0) = true := beq_iff_eq.mpr c34
            have c34b1 : (t203 != 0) = false := bne_eq_false_iff_eq.mpr c34
            clear c34
            by_cases c35 : 0 ≤ x200000_1
            ·rw [if_pos c35] at H
             have c35b0 := eq_true c35
             have c35b1 : decide (0 ≤ x200000_1) = true := decide_eq_true c35
             clear c35
             by_cases c36 : x200000_1 ≤ x6_1
             ·rw [if_pos c36] at H
              have c36b0 := eq_true c36
              have c36b1 : decide (x200000_1 ≤ x6_1) = true := decide_eq_true c36
              clear c36
              by_cases c37 : x6_1 ≤ (a0.size : Int)
              ·rw [if_pos c37] at H
               have c37b0 := eq_true c37
               have c37b1 : decide (x6_1 ≤ (a0.size : Int)) = true := decide_eq_true c37
               clear c37
               replace H := Option.bind_eq_some_iff.mp H
               obtain ⟨⟨t205, t206, t207⟩, A380, H⟩ := H
               replace H : (if 0 ≤ x6_1 then (if x6_1 ≤ t202 then (if t202 ≤ (a0.size : Int) then ((colophonref04_IsKey.f kj14 (a0.extract (x6_1 : Int).toNat (t202 : Int).toNat)).bind fun t209 => (if t201 = 1 then (colophonref10_Find.j3 kj14 a0 t201 t209 x199000_1 x199001_1 x199002_1 t205 t206 t207 t202 t203 t201 (a0.extract (x6_1 : Int).toNat (t202 : Int).toNat) t205 t206 t207 x5_12) else (colophonref10_Find.j3 kj14 a0 t201 false x199000_1 x199001_1 x199002_1 t205 t206 t207 t202 t203 t201 (a0.extract (x6_1 : Int).toNat (t202 : Int).toNat) t205 t206 t207 x5_12))) else (none)) else (none)) else (none)) = some (r1, r2, r3) := H
               have A38 := Aside0.mk A380
               clear A380
               by_cases c39 : 0 ≤ x6_1
               ·rw [if_pos c39] at H
                have c39b0 := eq_true c39
                have c39b1 : decide (0 ≤ x6_1) = true := decide_eq_true c39
                clear c39
                by_cases c40 : x6_1 ≤ t202
                ·rw [if_pos c40] at H
                 have c40b0 := eq_true c40
                 have c40b1 : decide (x6_1 ≤ t202) = true := decide_eq_true c40
                 clear c40
                 by_cases c41 : t202 ≤ (a0.size : Int)
                 ·rw [if_pos c41] at H
                  have c41b0 := eq_true c41
                  have c41b1 : decide (t202 ≤ (a0.size : Int)) = true := decide_eq_true c41
                  clear c41
                  replace H := Option.bind_eq_some_iff.mp H
                  obtain ⟨t209, A420, H⟩ := H
                  replace H : (if t201 = 1 then (colophonref10_Find.j3 kj14 a0 t201 t209 x199000_1 x199001_1 x199002_1 t205 t206 t207 t202 t203 t201 (a0.extract (x6_1 : Int).toNat (t202 : Int).toNat) t205 t206 t207 x5_12) else (colophonref10_Find.j3 kj14 a0 t201 false x199000_1 x199001_1 x199002_1 t205 t206 t207 t202 t203 t201 (a0.extract (x6_1 : Int).toNat (t202 : Int).toNat) t205 t206 t207 x5_12)) = some (r1, r2, r3) := H
                  have A42 := Aside0.mk A420
                  clear A420
                  have HC43 := Aside0.mk H
                  clear H
                  try go_wp2_with (first|((with_reducible refine gate_callee (f:=45) rfl ?_);refine goesL_ (some 37) rfl rfl Tryd.func45 (by kernel_rfl) rfl #[.string a0,.int .i64 x6_1] rfl (by (try simp only [List.map_toArray,List.map_cons,List.map_nil]);first|done|rfl|(simp only [List.length_drop,List.length_take];rfl)) ?_;(with_reducible refine (colophonref10_begins.calls kj14 a0 x6_1 t201 _ A24.out).mono ?_);rintro e w44 ⟨rfl,hb⟩;refine ⟨_,rfl,?_⟩;have n0_:=Aside0.mk (Kd.R_below (by (with_reducible repeat (first|apply Kd.R_alloc|apply Kd.R_drewN|apply Kd.R_drew));exact HO_199000.out) hb);have n1_:=Aside0.mk (blk_below (g:=gb197) (o:=.cells #[.slice none 0 0,.int .i64 x198001_1,.int .i64 x198002_1] 47 (0,0)) (by (with_reducible repeat (first|refine blk_drewN ?_ _|refine blk_drew ?_|refine blk_alloc ?_ _));exact BK197.out) hb);have n2_:=Aside0.mk (blk_below (g:=gb198) (o:=.cells #[u199000,.int .i64 x199001_1,.int .i64 x199002_1] 47 (0,0)) (by (with_reducible repeat (first|refine blk_drewN ?_ _|refine blk_drew ?_|refine blk_alloc ?_ _));exact BK198.out) hb);have n3_:=Aside0.mk (blk_below (g:=gb199) (o:=.cells #[.int .i64 x200000_1,.int .i64 x200001_1,.int .i64 x200002_1] 26 (0,0)) (by (with_reducible repeat (first|refine blk_drewN ?_ _|refine blk_drew ?_|refine blk_alloc ?_ _));exact BK199.out) hb);have n4_:=Aside0.mk (below_step (by repeat (first|(with_reducible first|exact HB.out|apply below_alloc|apply pw_below_drewN|apply below_drew1|refine below_set ?_ GE197.out|refine below_set ?_ GE198.out|refine below_set ?_ GE199.out)|exact HB.out)) hb);clear HO_199000;clear BK197;clear BK198;clear BK199;clear HB;have HO_199000:=n0_;have BK197:=n1_;have BK198:=n2_;have BK199:=n3_;have HB:=n4_;clear n0_ n1_ n2_ n3_ n4_;(try clear hb);(try clear hb2);(try clear hk);(try clear hi))|((with_reducible refine gate_callee (f:=46) rfl ?_);refine goesL_ (some 47) rfl rfl Tryd.func46 (by kernel_rfl) rfl #[.string a0,.int .i64 x6_1,.int .u8 t201] rfl (by (try simp only [List.map_toArray,List.map_cons,List.map_nil]);first|done|rfl|(simp only [List.length_drop,List.length_take];rfl)) ?_;(with_reducible refine (colophonref10_ends.calls kj14 a0 x6_1 t201 t202 t203 _ A33.out).mono ?_);rintro e w45 ⟨rfl,hb⟩;refine ⟨_,rfl,?_⟩;have n0_:=Aside0.mk (Kd.R_below (by (with_reducible repeat (first|apply Kd.R_alloc|apply Kd.R_drewN|apply Kd.R_drew));exact HO_199000.out) hb);have n1_:=Aside0.mk (blk_below (g:=gb197) (o:=.cells #[.slice none 0 0,.int .i64 x198001_1,.int .i64 x198002_1] 47 (0,0)) (by (with_reducible repeat (first|refine blk_drewN ?_ _|refine blk_drew ?_|refine blk_alloc ?_ _));exact BK197.out) hb);have n2_:=Aside0.mk (blk_below (g:=gb198) (o:=.cells #[u199000,.int .i64 x199001_1,.int .i64 x199002_1] 47 (0,0)) (by (with_reducible repeat (first|refine blk_drewN ?_ _|refine blk_drew ?_|refine blk_alloc ?_ _));exact BK198.out) hb);have n3_:=Aside0.mk (blk_below (g:=gb199) (o:=.cells #[.int .i64 x200000_1,.int .i64 x200001_1,.int .i64 x200002_1] 26 (0,0)) (by (with_reducible repeat (first|refine blk_drewN ?_ _|refine blk_drew ?_|refine blk_alloc ?_ _));exact BK199.out) hb);have n4_:=Aside0.mk (below_step (by repeat (first|(with_reducible first|exact HB.out|apply below_alloc|apply pw_below_drewN|apply below_drew1|refine below_set ?_ GE197.out|refine below_set ?_ GE198.out|refine below_set ?_ GE199.out)|exact HB.out)) hb);clear HO_199000;clear BK197;clear BK198;clear BK199;clear HB;have HO_199000:=n0_;have BK197:=n1_;have BK198:=n2_;have BK199:=n3_;have HB:=n4_;clear n0_ n1_ n2_ n3_ n4_;(try clear hb);(try clear hb2);(try clear hk);(try clear hi))|((with_reducible refine gate_dst (N:=8) rfl ?_);(try (refine gate_guard (by rfl) ?_;dsimp only));refine box_event ?hg (N:=8) ?hd (cs:=#[.int .i64 0,.int .i64 0]) (t:=66) ?hr ?_;(case hd => rfl);(case hg => rfl);(case hr => first|(go_simp;done)|(go_simp;rfl));intro gb204 hg w46 hbox hb;have n0_:=Aside0.mk (Kd.R_below (by (with_reducible repeat (first|apply Kd.R_alloc|apply Kd.R_drewN|apply Kd.R_drew));exact HO_199000.out) hb);have n1_:=Aside0.mk (blk_below (g:=gb197) (o:=.cells #[.slice none 0 0,.int .i64 x198001_1,.int .i64 x198002_1] 47 (0,0)) (by (with_reducible repeat (first|refine blk_drewN ?_ _|refine blk_drew ?_|refine blk_alloc ?_ _));exact BK197.out) hb);have n2_:=Aside0.mk (blk_below (g:=gb198) (o:=.cells #[u199000,.int .i64 x199001_1,.int .i64 x199002_1] 47 (0,0)) (by (with_reducible repeat (first|refine blk_drewN ?_ _|refine blk_drew ?_|refine blk_alloc ?_ _));exact BK198.out) hb);have n3_:=Aside0.mk (blk_below (g:=gb199) (o:=.cells #[.int .i64 x200000_1,.int .i64 x200001_1,.int .i64 x200002_1] 26 (0,0)) (by (with_reducible repeat (first|refine blk_drewN ?_ _|refine blk_drew ?_|refine blk_alloc ?_ _));exact BK199.out) hb);have n4_:=Aside0.mk (below_step (by repeat (first|(with_reducible first|exact HB.out|apply below_alloc|apply pw_below_drewN|apply below_drew1|refine below_set ?_ GE197.out|refine below_set ?_ GE198.out|refine below_set ?_ GE199.out)|exact HB.out)) hb);have n5_:=Aside0.mk (hbox);have n6_:=Aside0.mk ((by rw [hg];exact (below_size (by repeat (first|(with_reducible first|exact HB.out|apply below_alloc|apply pw_below_drewN|apply below_drew1|refine below_set ?_ GE197.out|refine below_set ?_ GE198.out|refine below_set ?_ GE199.out)|exact HB.out))) : w.heap.size ≤ gb204));have n7_:=Aside0.mk ((by rw [hg];exact (below_size (by repeat (first|(with_reducible first|exact HB.out|apply below_alloc|apply pw_below_drewN|apply below_drew1|refine below_set ?_ GE197.out|refine below_set ?_ GE198.out|refine below_set ?_ GE199.out)|exact HB.out))) : w.heap.size ≤ gb204));have n8_:=Aside0.mk ((by rw [hg];exact Nat.ne_of_lt (blk_lt (g:=gb197) (o:=.cells #[.slice none 0 0,.int .i64 x198001_1,.int .i64 x198002_1] 47 (0,0)) (by (with_reducible repeat (first|refine blk_drewN ?_ _|refine blk_drew ?_|refine blk_alloc ?_ _));exact BK197.out)) : gb197 ≠ gb204));have n9_:=Aside0.mk ((by rw [hg];exact Nat.ne_of_gt (blk_lt (g:=gb197) (o:=.cells #[.slice none 0 0,.int .i64 x198001_1,.int .i64 x198002_1] 47 (0,0)) (by (with_reducible repeat (first|refine blk_drewN ?_ _|refine blk_drew ?_|refine blk_alloc ?_ _));exact BK197.out)) : gb204 ≠ gb197));have n10_:=Aside0.mk ((by rw [hg];exact Nat.ne_of_lt (blk_lt (g:=gb198) (o:=.cells #[u199000,.int .i64 x199001_1,.int .i64 x199002_1] 47 (0,0)) (by (with_reducible repeat (first|refine blk_drewN ?_ _|refine blk_drew ?_|refine blk_alloc ?_ _));exact BK198.out)) : gb198 ≠ gb204));have n11_:=Aside0.mk ((by rw [hg];exact Nat.ne_of_gt (blk_lt (g:=gb198) (o:=.cells #[u199000,.int .i64 x199001_1,.int .i64 x199002_1] 47 (0,0)) (by (with_reducible repeat (first|refine blk_drewN ?_ _|refine blk_drew ?_|refine blk_alloc ?_ _));exact BK198.out)) : gb204 ≠ gb198));have n12_:=Aside0.mk ((by rw [hg];exact Nat.ne_of_lt (blk_lt (g:=gb199) (o:=.cells #[.int .i64 x200000_1,.int .i64 x200001_1,.int .i64 x200002_1] 26 (0,0)) (by (with_reducible repeat (first|refine blk_drewN ?_ _|refine blk_drew ?_|refine blk_alloc ?_ _));exact BK199.out)) : gb199 ≠ gb204));have n13_:=Aside0.mk ((by rw [hg];exact Nat.ne_of_gt (blk_lt (g:=gb199) (o:=.cells #[.int .i64 x200000_1,.int .i64 x200001_1,.int .i64 x200002_1] 26 (0,0)) (by (with_reducible repeat (first|refine blk_drewN ?_ _|refine blk_drew ?_|refine blk_alloc ?_ _));exact BK199.out)) : gb204 ≠ gb199));clear HO_199000;clear BK197;clear BK198;clear BK199;clear HB;have HO_199000:=n0_;have BK197:=n1_;have BK198:=n2_;have BK199:=n3_;have HB:=n4_;have BK204:=n5_;have GW204:=n6_;have GE204:=n7_;have NB197_204:=n8_;have NB204_197:=n9_;have NB198_204:=n10_;have NB204_198:=n11_;have NB199_204:=n12_;have NB204_199:=n13_;clear n0_ n1_ n2_ n3_ n4_ n5_ n6_ n7_ n8_ n9_ n10_ n11_ n12_ n13_;clear hb hbox hg;have hnb47:=NB204_197.out;have hnc47:=NB197_204.out;have hnb48:=NB204_198.out;have hnc48:=NB198_204.out;have hnb49:=NB204_199.out;have hnc49:=NB199_204.out;have hcz50_0 : w46.cell? ⟨gb204,0,none⟩ = some (.int .i64 0):=(blk_cell BK204.out 0).trans rfl;have hcz50_1 : w46.cell? ⟨gb204,1,none⟩ = some (.int .i64 0):=(blk_cell BK204.out 1).trans rfl;have hfz50_0:=blk_frozen BK204.out 0;have hfz50_1:=blk_frozen BK204.out 1))
                  have n0_ : Aside0 (Kd.R k35 35 ((w46.setCell ⟨gb204, 0, none⟩ (.int .i64 t202)).setCell ⟨gb204, 1, none⟩ (.int .i64 t203)) w.heap.size (fun _ => True) u199000 x199000_1) := ⟨by (with_reducible repeat (first|apply Kd.R_alloc|apply Kd.R_drewN|apply Kd.R_drew)); exact Kd.R_mono (Kd.R_far (p := ⟨gb204, 1, none⟩) (Kd.R_far (p := ⟨gb204, 0, none⟩) (Kd.R_types HO_199000.out BK204.out (by decide)) (fun _ hk => hk.2) (.int .i64 t202)) (fun _ hk => hk.2) (.int .i64 t203)) (fun _ hk => trivial)⟩
                  have n1_ : Aside0 (((w46.setCell ⟨gb204, 0, none⟩ (.int .i64 t202)).setCell ⟨gb204, 1, none⟩ (.int .i64 t203)).heap[gb197]? = some (.cells #[.slice none 0 0, .int .i64 x198001_1, .int .i64 x198002_1] 47 (0, 0))) := ⟨by (with_reducible repeat (first|refine blk_drewN ?_ _|refine blk_drew ?_|refine blk_alloc ?_ _)); refine blk_far ?_ NB197_204.out _; (with_reducible repeat (first|refine blk_drewN ?_ _|refine blk_drew ?_|refine blk_alloc ?_ _)); refine blk_far ?_ NB197_204.out _; (with_reducible repeat (first|refine blk_drewN ?_ _|refine blk_drew ?_|refine blk_alloc ?_ _)); exact BK197.out⟩
                  have n2_ : Aside0 (((w46.setCell ⟨gb204, 0, none⟩ (.int .i64 t202)).setCell ⟨gb204, 1, none⟩ (.int .i64 t203)).heap[gb198]? = some (.cells #[u199000, .int .i64 x199001_1, .int .i64 x199002_1] 47 (0, 0))) := ⟨by (with_reducible repeat (first|refine blk_drewN ?_ _|refine blk_drew ?_|refine blk_alloc ?_ _)); refine blk_far ?_ NB198_204.out _; (with_reducible repeat (first|refine blk_drewN ?_ _|refine blk_drew ?_|refine blk_alloc ?_ _)); refine blk_far ?_ NB198_204.out _; (with_reducible repeat (first|refine blk_drewN ?_ _|refine blk_drew ?_|refine blk_alloc ?_ _)); exact BK198.out⟩
                  have n3_ : Aside0 (((w46.setCell ⟨gb204, 0, none⟩ (.int .i64 t202)).setCell ⟨gb204, 1, none⟩ (.int .i64 t203)).heap[gb199]? = some (.cells #[.int .i64 x200000_1, .int .i64 x200001_1, .int .i64 x200002_1] 26 (0, 0))) := ⟨by (with_reducible repeat (first|refine blk_drewN ?_ _|refine blk_drew ?_|refine blk_alloc ?_ _)); refine blk_far ?_ NB199_204.out _; (with_reducible repeat (first|refine blk_drewN ?_ _|refine blk_drew ?_|refine blk_alloc ?_ _)); refine blk_far ?_ NB199_204.out _; (with_reducible repeat (first|refine blk_drewN ?_ _|refine blk_drew ?_|refine blk_alloc ?_ _)); exact BK199.out⟩
                  have n4_ : Aside0 (((w46.setCell ⟨gb204, 0, none⟩ (.int .i64 t202)).setCell ⟨gb204, 1, none⟩ (.int .i64 t203)).heap[gb204]? = some (.cells #[.int .i64 t202, .int .i64 t203] 66 (0, 0))) := ⟨by (with_reducible repeat (first|refine blk_drewN ?_ _|refine blk_drew ?_|refine blk_alloc ?_ _)); refine blk_put (cs := #[.int .i64 t202, .int .i64 0]) ?_ 1 _ rfl; (with_reducible repeat (first|refine blk_drewN ?_ _|refine blk_drew ?_|refine blk_alloc ?_ _)); refine blk_put (cs := #[.int .i64 0, .int .i64 0]) ?_ 0 _ rfl; (with_reducible repeat (first|refine blk_drewN ?_ _|refine blk_drew ?_|refine blk_alloc ?_ _)); exact BK204.out⟩
                  have n5_ : Aside0 (Below w.heap.size w ((w46.setCell ⟨gb204, 0, none⟩ (.int .i64 t202)).setCell ⟨gb204, 1, none⟩ (.int .i64 t203))) := ⟨by repeat (first|(with_reducible first|exact HB.out|apply below_alloc|apply pw_below_drewN|apply below_drew1|refine below_set ?_ GE197.out|refine below_set ?_ GE198.out|refine below_set ?_ GE199.out|refine below_set ?_ GE204.out)|exact HB.out)⟩
                  (try clear HO_199000)
                  (try clear BK197)
                  (try clear BK198)
                  (try clear BK199)
                  (try clear BK204)
                  (try clear HB)
                  generalize ((w46.setCell ⟨gb204, 0, none⟩ (.int .i64 t202)).setCell ⟨gb204, 1, none⟩ (.int .i64 t203)) = w51 at n0_ n1_ n2_ n3_ n4_ n5_ ⊢
                  have HO_199000 := n0_
                  have BK197 := n1_
                  have BK198 := n2_
                  have BK199 := n3_
                  have BK204 := n4_
                  have HB := n5_
                  clear n0_ n1_ n2_ n3_ n4_ n5_
                  have n0_ := Aside0.mk (Kd.R_drew HO_199000.out)
                  have n1_ := Aside0.mk (blk_drew BK197.out)
                  have n2_ := Aside0.mk (blk_drew BK198.out)
                  have n3_ := Aside0.mk (blk_drew BK199.out)
                  have n4_ := Aside0.mk (blk_drew BK204.out)
                  have n5_ := Aside0.mk (below_drew1 HB.out)
                  clear HO_199000
                  clear BK197
                  clear BK198
                  clear BK199
                  clear BK204
                  clear HB
                  have HO_199000 := n0_
                  have BK197 := n1_
                  have BK198 := n2_
                  have BK199 := n3_
                  have BK204 := n4_
                  have HB := n5_
                  clear n0_ n1_ n2_ n3_ n4_ n5_
                  refine start_ (n := 8) (S := fun w' => w'.cell? ⟨gb199, 0, none⟩ = some (.int .i64 x200000_1) ∧ w'.cell? ⟨gb199, 1, none⟩ = some (.int .i64 x200001_1) ∧ w'.cell? ⟨gb199, 2, none⟩ = some (.int .i64 x200002_1)) (ds := [7]) #[false, false, false, false, false, false, false, false] (by kernel_rfl) rfl rfl ⟨(blk_cell BK199.out 0).trans rfl, (blk_cell BK199.out 1).trans rfl, (blk_cell BK199.out 2).trans rfl⟩ (fun hHeld => ?_); refine with_tabW colophonref10_Find.tab20 colophonref10_Find.bits20 (fun HT_ HW_ => ?_)
                  generalize w51.drew = w52 at HO_199000 BK197 BK198 BK199 BK204 HB hHeld ⊢
                  refine pure_ (i := 1) (N := some 59) (v := ?_) (a' := ?_) #[false, true, false, false, false, false, false, false] rfl rfl (any_of HT_.out (by kernel_rfl)) (fun _ _ _ h => h) (Or.inl ⟨by rfl, ?_⟩) ?_ ?_
                  rotate_left
                  ·intro w'
                   go_simp
                   with_reducible rfl
                  rotate_left
                  ·simp only [Act.put, List.setIfInBounds_toArray, List.set_cons_zero, List.set_cons_succ, i64_w, i32_w]
                   rfl
                  refine pure_ (i := 2) (N := some 60) (v := ?_) (a' := ?_) #[false, true, true, false, false, false, false, false] rfl rfl (any_of HT_.out (by kernel_rfl)) (fun _ _ _ h => h) (Or.inl ⟨by rfl, ?_⟩) ?_ ?_
                  rotate_left
                  ·intro w'
                   go_simp
                   with_reducible rfl
                  rotate_left
                  ·simp only [Act.put, List.setIfInBounds_toArray, List.set_cons_zero, List.set_cons_succ, i64_w, i32_w]
                   rfl
                  refine pure_ (i := 4) (N := some 62) (v := ?_) (a' := ?_) #[false, true, true, false, true, false, false, false] rfl rfl (any_of HT_.out (by kernel_rfl)) (fun _ _ _ h => h) (Or.inl ⟨by rfl, ?_⟩) ?_ ?_
                  rotate_left
                  ·intro w'
                   go_simp
                   with_reducible rfl
                  rotate_left
                  ·simp only [Act.put, List.setIfInBounds_toArray, List.set_cons_zero, List.set_cons_succ, i64_w, i32_w]
                   rfl
                  refine take_ (i := 0) (N := some 58) (v := ?_) (a' := ?_) #[true, true, true, false, true, false, false, false] rfl rfl (take_ofW HT_.out HW_.out (by kernel_rfl)) (fun _ _ _ h => h) (Or.inl ⟨by rfl, ?_⟩) hHeld ?_ ?_
                  rotate_left
                  ·rintro w' ⟨s0, s1, s2⟩
                   go_simp
                   with_reducible rfl
                  rotate_left
                  ·simp only [Act.put, List.setIfInBounds_toArray, List.set_cons_zero, List.set_cons_succ, i64_w, i32_w]
                   rfl
                  refine take_ (i := 3) (N := some 61) (v := ?_) (a' := ?_) #[true, true, true, true, true, false, false, false] rfl rfl (take_ofW HT_.out HW_.out (by kernel_rfl)) (fun _ _ _ h => h) (Or.inl ⟨by rfl, ?_⟩) hHeld ?_ ?_
                  rotate_left
                  ·rintro w' ⟨s0, s1, s2⟩
                   go_simp
                   with_reducible rfl
                  rotate_left
                  ·simp only [Act.put, List.setIfInBounds_toArray, List.set_cons_zero, List.set_cons_succ, i64_w, i32_w]
                   rfl
                  refine pure_ (i := 5) (N := some 63) (v := ?_) (a' := ?_) #[true, true, true, true, true, true, false, false] rfl rfl (any_of HT_.out (by kernel_rfl)) (fun _ _ _ h => h) (Or.inl ⟨by rfl, ?_⟩) ?_ ?_
                  rotate_left
                  ·intro w'
                   go_simp
                   with_reducible rfl
                  rotate_left
                  ·simp only [Act.put, List.setIfInBounds_toArray, List.set_cons_zero, List.set_cons_succ, i64_w, i32_w]
                   rfl
                  refine one_ (i := 6) (N := some 64) #[true, true, true, true, true, true, true, false] rfl rfl (one_of HT_.out (by kernel_rfl)) (by decide) (fun K hK => ?_)
                  refine goes_ Tryd.func21 (by kernel_rfl) rfl #[.agg #[.int .i64 x200000_1, .int .i64 x200001_1, .int .i64 x200002_1], .string (a0.extract (x200000_1 : Int).toNat (x6_1 : Int).toNat)] (by rfl) rfl rfl (by (try simp only [List.map_toArray, List.map_cons, List.map_nil]); first|done|rfl|(simp only [List.length_drop, List.length_take]; rfl)) ?_
                  with_reducible refine (colophonref03_Advance.calls kj14 x200000_1 x200001_1 x200002_1 (a0.extract (x200000_1 : Int).toNat (x6_1 : Int).toNat) t205 t206 t207 _ A38.out).mono ?_
                  rintro e w53 ⟨rfl, hb⟩
                  refine ⟨_, rfl, ?_⟩
                  have n0_ := Aside0.mk (Kd.R_below (by (with_reducible repeat (first|apply Kd.R_alloc|apply Kd.R_drewN|apply Kd.R_drew)); exact HO_199000.out) hb)
                  have n1_ := Aside0.mk (blk_below (g := gb197) (o := .cells #[.slice none 0 0, .int .i64 x198001_1, .int .i64 x198002_1] 47 (0, 0)) (by (with_reducible repeat (first|refine blk_drewN ?_ _|refine blk_drew ?_|refine blk_alloc ?_ _)); exact BK197.out) hb)
                  have n2_ := Aside0.mk (blk_below (g := gb198) (o := .cells #[u199000, .int .i64 x199001_1, .int .i64 x199002_1] 47 (0, 0)) (by (with_reducible repeat (first|refine blk_drewN ?_ _|refine blk_drew ?_|refine blk_alloc ?_ _)); exact BK198.out) hb)
                  have n3_ := Aside0.mk (blk_below (g := gb199) (o := .cells #[.int .i64 x200000_1, .int .i64 x200001_1, .int .i64 x200002_1] 26 (0, 0)) (by (with_reducible repeat (first|refine blk_drewN ?_ _|refine blk_drew ?_|refine blk_alloc ?_ _)); exact BK199.out) hb)
                  have n4_ := Aside0.mk (blk_below (g := gb204) (o := .cells #[.int .i64 t202, .int .i64 t203] 66 (0, 0)) (by (with_reducible repeat (first|refine blk_drewN ?_ _|refine blk_drew ?_|refine blk_alloc ?_ _)); exact BK204.out) hb)
                  have n5_ := Aside0.mk (below_step (by repeat (first|(with_reducible first|exact HB.out|apply below_alloc|apply pw_below_drewN|apply below_drew1|refine below_set ?_ GE197.out|refine below_set ?_ GE198.out|refine below_set ?_ GE199.out|refine below_set ?_ GE204.out)|exact HB.out)) hb)
                  clear HO_199000
                  clear BK197
                  clear BK198
                  clear BK199
                  clear BK204
                  clear HB
                  have HO_199000 := n0_
                  have BK197 := n1_
                  have BK198 := n2_
                  have BK199 := n3_
                  have BK204 := n4_
                  have HB := n5_
                  clear n0_ n1_ n2_ n3_ n4_ n5_
                  (try clear hb)
                  (try clear hb2)
                  (try clear hk)
                  (try clear hi)
                  refine hK.out _ _ ⟨(blk_cell BK199.out 0).trans rfl, (blk_cell BK199.out 1).trans rfl, (blk_cell BK199.out 2).trans rfl⟩ (fun hHeld => ?_)
                  clear hK K
                  refine norm_ (a' := ?_) ?_ ?_
                  rotate_left
                  ·show Act.put _ (some 64) _ = _
                   simp only [Act.put, List.setIfInBounds_toArray, List.set_cons_zero, List.set_cons_succ, i64_w, i32_w]
                   rfl
                  refine last_ (i := 7) (N := none) #[true, true, true, true, true, true, true, true] rfl rfl (one_of HT_.out (by kernel_rfl)) (by decide) (fun K hK => ?_)
                  have hs54 : w53.cell? ⟨gb199, 0, none⟩ = some (.int .i64 x200000_1) := (blk_cell BK199.out 0).trans rfl
                  have hfs54 := blk_frozen BK199.out 0
                  have hns54_0 := NB197_199.out
                  have hns54_1 := NB198_199.out
                  have hns54_3 := NB204_199.out
                  have hms54_0 := NB199_197.out
                  have hms54_1 := NB199_198.out
                  have hms54_3 := NB199_204.out
                  have hs55 : w53.cell? ⟨gb199, 1, none⟩ = some (.int .i64 x200001_1) := (blk_cell BK199.out 1).trans rfl
                  have hfs55 := blk_frozen BK199.out 1
                  have hns55_0 := NB197_199.out
                  have hns55_1 := NB198_199.out
                  have hns55_3 := NB204_199.out
                  have hms55_0 := NB199_197.out
                  have hms55_1 := NB199_198.out
                  have hms55_3 := NB199_204.out
                  have hs56 : w53.cell? ⟨gb199, 2, none⟩ = some (.int .i64 x200002_1) := (blk_cell BK199.out 2).trans rfl
                  have hfs56 := blk_frozen BK199.out 2
                  have hns56_0 := NB197_199.out
                  have hns56_1 := NB198_199.out
                  have hns56_3 := NB204_199.out
                  have hms56_0 := NB199_197.out
                  have hms56_1 := NB199_198.out
                  have hms56_3 := NB199_204.out
                  refine skip_ (w1 := ?_) (by rfl) rfl ?_ ?_
                  rotate_left
                  ·go_simp
                   rfl
                  refine hK.out _ _ ?_
                  clear hK K
                  refine done_ (done_of HT_.out (by kernel_rfl)) ?_
                  try go_wp2
                  have n0_ : Aside0 (Kd.R k35 35 (((w53.setCell ⟨gb199, 0, none⟩ (.int .i64 t205)).setCell ⟨gb199, 1, none⟩ (.int .i64 t206)).setCell ⟨gb199, 2, none⟩ (.int .i64 t207)) w.heap.size (fun _ => True) u199000 x199000_1) := ⟨by (with_reducible repeat (first|apply Kd.R_alloc|apply Kd.R_drewN|apply Kd.R_drew)); exact Kd.R_mono (Kd.R_far (p := ⟨gb199, 2, none⟩) (Kd.R_far (p := ⟨gb199, 1, none⟩) (Kd.R_far (p := ⟨gb199, 0, none⟩) (Kd.R_types HO_199000.out BK199.out (by decide)) (fun _ hk => hk.2) (.int .i64 t205)) (fun _ hk => hk.2) (.int .i64 t206)) (fun _ hk => hk.2) (.int .i64 t207)) (fun _ hk => trivial)⟩
                  have n1_ : Aside0 ((((w53.setCell ⟨gb199, 0, none⟩ (.int .i64 t205)).setCell ⟨gb199, 1, none⟩ (.int .i64 t206)).setCell ⟨gb199, 2, none⟩ (.int .i64 t207)).heap[gb197]? = some (.cells #[.slice none 0 0, .int .i64 x198001_1, .int .i64 x198002_1] 47 (0, 0))) := ⟨by (with_reducible repeat (first|refine blk_drewN ?_ _|refine blk_drew ?_|refine blk_alloc ?_ _)); refine blk_far ?_ NB197_199.out _; (with_reducible repeat (first|refine blk_drewN ?_ _|refine blk_drew ?_|refine blk_alloc ?_ _)); refine blk_far ?_ NB197_199.out _; (with_reducible repeat (first|refine blk_drewN ?_ _|refine blk_drew ?_|refine blk_alloc ?_ _)); refine blk_far ?_ NB197_199.out _; (with_reducible repeat (first|refine blk_drewN ?_ _|refine blk_drew ?_|refine blk_alloc ?_ _)); exact BK197.out⟩
                  have n2_ : Aside0 ((((w53.setCell ⟨gb199, 0, none⟩ (.int .i64 t205)).setCell ⟨gb199, 1, none⟩ (.int .i64 t206)).setCell ⟨gb199, 2, none⟩ (.int .i64 t207)).heap[gb198]? = some (.cells #[u199000, .int .i64 x199001_1, .int .i64 x199002_1] 47 (0, 0))) := ⟨by (with_reducible repeat (first|refine blk_drewN ?_ _|refine blk_drew ?_|refine blk_alloc ?_ _)); refine blk_far ?_ NB198_199.out _; (with_reducible repeat (first|refine blk_drewN ?_ _|refine blk_drew ?_|refine blk_alloc ?_ _)); refine blk_far ?_ NB198_199.out _; (with_reducible repeat (first|refine blk_drewN ?_ _|refine blk_drew ?_|refine blk_alloc ?_ _)); refine blk_far ?_ NB198_199.out _; (with_reducible repeat (first|refine blk_drewN ?_ _|refine blk_drew ?_|refine blk_alloc ?_ _)); exact BK198.out⟩
                  have n3_ : Aside0 ((((w53.setCell ⟨gb199, 0, none⟩ (.int .i64 t205)).setCell ⟨gb199, 1, none⟩ (.int .i64 t206)).setCell ⟨gb199, 2, none⟩ (.int .i64 t207)).heap[gb199]? = some (.cells #[.int .i64 t205, .int .i64 t206, .int .i64 t207] 26 (0, 0))) := ⟨by (with_reducible repeat (first|refine blk_drewN ?_ _|refine blk_drew ?_|refine blk_alloc ?_ _)); refine blk_put (cs := #[.int .i64 t205, .int .i64 t206, .int .i64 x200002_1]) ?_ 2 _ rfl; (with_reducible repeat (first|refine blk_drewN ?_ _|refine blk_drew ?_|refine blk_alloc ?_ _)); refine blk_put (cs := #[.int .i64 t205, .int .i64 x200001_1, .int .i64 x200002_1]) ?_ 1 _ rfl; (with_reducible repeat (first|refine blk_drewN ?_ _|refine blk_drew ?_|refine blk_alloc ?_ _)); refine blk_put (cs := #[.int .i64 x200000_1, .int .i64 x200001_1, .int .i64 x200002_1]) ?_ 0 _ rfl; (with_reducible repeat (first|refine blk_drewN ?_ _|refine blk_drew ?_|refine blk_alloc ?_ _)); exact BK199.out⟩
                  have n4_ : Aside0 ((((w53.setCell ⟨gb199, 0, none⟩ (.int .i64 t205)).setCell ⟨gb199, 1, none⟩ (.int .i64 t206)).setCell ⟨gb199, 2, none⟩ (.int .i64 t207)).heap[gb204]? = some (.cells #[.int .i64 t202, .int .i64 t203] 66 (0, 0))) := ⟨by (with_reducible repeat (first|refine blk_drewN ?_ _|refine blk_drew ?_|refine blk_alloc ?_ _)); refine blk_far ?_ NB204_199.out _; (with_reducible repeat (first|refine blk_drewN ?_ _|refine blk_drew ?_|refine blk_alloc ?_ _)); refine blk_far ?_ NB204_199.out _; (with_reducible repeat (first|refine blk_drewN ?_ _|refine blk_drew ?_|refine blk_alloc ?_ _)); refine blk_far ?_ NB204_199.out _; (with_reducible repeat (first|refine blk_drewN ?_ _|refine blk_drew ?_|refine blk_alloc ?_ _)); exact BK204.out⟩
                  have n5_ : Aside0 (Below w.heap.size w (((w53.setCell ⟨gb199, 0, none⟩ (.int .i64 t205)).setCell ⟨gb199, 1, none⟩ (.int .i64 t206)).setCell ⟨gb199, 2, none⟩ (.int .i64 t207))) := ⟨by repeat (first|(with_reducible first|exact HB.out|apply below_alloc|apply pw_below_drewN|apply below_drew1|refine below_set ?_ GE197.out|refine below_set ?_ GE198.out|refine below_set ?_ GE199.out|refine below_set ?_ GE204.out)|exact HB.out)⟩
                  (try clear HO_199000)
                  (try clear BK197)
                  (try clear BK198)
                  (try clear BK199)
                  (try clear BK204)
                  (try clear HB)
                  generalize (((w53.setCell ⟨gb199, 0, none⟩ (.int .i64 t205)).setCell ⟨gb199, 1, none⟩ (.int .i64 t206)).setCell ⟨gb199, 2, none⟩ (.int .i64 t207)) = w57 at n0_ n1_ n2_ n3_ n4_ n5_ ⊢
                  have HO_199000 := n0_
                  have BK197 := n1_
                  have BK198 := n2_
                  have BK199 := n3_
                  have BK204 := n4_
                  have HB := n5_
                  clear n0_ n1_ n2_ n3_ n4_ n5_
                  have n0_ := Aside0.mk (Kd.R_drew HO_199000.out)
                  have n1_ := Aside0.mk (blk_drew BK197.out)
                  have n2_ := Aside0.mk (blk_drew BK198.out)
                  have n3_ := Aside0.mk (blk_drew BK199.out)
                  have n4_ := Aside0.mk (blk_drew BK204.out)
                  have n5_ := Aside0.mk (below_drew1 HB.out)
                  clear HO_199000
                  clear BK197
                  clear BK198
                  clear BK199
                  clear BK204
                  clear HB
                  have HO_199000 := n0_
                  have BK197 := n1_
                  have BK198 := n2_
                  have BK199 := n3_
                  have BK204 := n4_
                  have HB := n5_
                  clear n0_ n1_ n2_ n3_ n4_ n5_
                  refine start_ (n := 11) (S := fun w' => w'.cell? ⟨gb204, 0, none⟩ = some (.int .i64 t202) ∧ w'.cell? ⟨gb204, 1, none⟩ = some (.int .i64 t203) ∧ w'.cell? ⟨gb199, 0, none⟩ = some (.int .i64 t205) ∧ w'.cell? ⟨gb199, 1, none⟩ = some (.int .i64 t206) ∧ w'.cell? ⟨gb199, 2, none⟩ = some (.int .i64 t207)) (ds := []) #[false, false, false, false, false, false, false, false, false, false, false] (by kernel_rfl) rfl rfl ⟨(blk_cell BK204.out 0).trans rfl, (blk_cell BK204.out 1).trans rfl, (blk_cell BK199.out 0).trans rfl, (blk_cell BK199.out 1).trans rfl, (blk_cell BK199.out 2).trans rfl⟩ (fun hHeld => ?_); refine with_tabW colophonref10_Find.tab21 colophonref10_Find.bits21 (fun HT_ HW_ => ?_)
                  generalize w57.drew = w58 at HO_199000 BK197 BK198 BK199 BK204 HB hHeld ⊢
                  refine pure_ (i := 0) (N := some 65) (v := ?_) (a' := ?_) #[true, false, false, false, false, false, false, false, false, false, false] rfl rfl (any_of HT_.out (by kernel_rfl)) (fun _ _ _ h => h) (Or.inl ⟨by rfl, ?_⟩) ?_ ?_
                  rotate_left
                  ·intro w'
                   go_simp
                   with_reducible rfl
                  rotate_left
                  ·simp only [Act.put, List.setIfInBounds_toArray, List.set_cons_zero, List.set_cons_succ, i64_w, i32_w]
                   rfl
                  refine pure_ (i := 1) (N := some 66) (v := ?_) (a' := ?_) #[true, true, false, false, false, false, false, false, false, false, false] rfl rfl (any_of HT_.out (by kernel_rfl)) (fun _ _ _ h => h) (Or.inl ⟨by rfl, ?_⟩) ?_ ?_
                  rotate_left
                  ·intro w'
                   go_simp
                   with_reducible rfl
                  rotate_left
                  ·simp only [Act.put, List.setIfInBounds_toArray, List.set_cons_zero, List.set_cons_succ, i64_w, i32_w]
                   rfl
                  refine pure_ (i := 2) (N := some 67) (v := ?_) (a' := ?_) #[true, true, true, false, false, false, false, false, false, false, false] rfl rfl (any_of HT_.out (by kernel_rfl)) (fun _ _ _ h => h) (Or.inl ⟨by rfl, ?_⟩) ?_ ?_
                  rotate_left
                  ·intro w'
                   go_simp
                   with_reducible rfl
                  rotate_left
                  ·simp only [Act.put, List.setIfInBounds_toArray, List.set_cons_zero, List.set_cons_succ, i64_w, i32_w]
                   rfl
                  refine pure_ (i := 3) (N := some 68) (v := ?_) (a' := ?_) #[true, true, true, true, false, false, false, false, false, false, false] rfl rfl (any_of HT_.out (by kernel_rfl)) (fun _ _ _ h => h) (Or.inl ⟨by rfl, ?_⟩) ?_ ?_
                  rotate_left
                  ·intro w'
                   go_simp
                   with_reducible rfl
                  rotate_left
                  ·simp only [Act.put, List.setIfInBounds_toArray, List.set_cons_zero, List.set_cons_succ, i64_w, i32_w]
                   rfl
                  refine pure_ (i := 7) (N := some 72) (v := ?_) (a' := ?_) #[true, true, true, true, false, false, false, true, false, false, false] rfl rfl (any_of HT_.out (by kernel_rfl)) (fun _ _ _ h => h) (Or.inl ⟨by rfl, ?_⟩) ?_ ?_
                  rotate_left
                  ·intro w'
                   go_simp
                   with_reducible rfl
                  rotate_left
                  ·simp only [Act.put, List.setIfInBounds_toArray, List.set_cons_zero, List.set_cons_succ, i64_w, i32_w]
                   rfl
                  refine take_ (i := 4) (N := some 69) (v := ?_) (a' := ?_) #[true, true, true, true, true, false, false, true, false, false, false] rfl rfl (take_ofW HT_.out HW_.out (by kernel_rfl)) (fun _ _ _ h => h) (Or.inl ⟨by rfl, ?_⟩) hHeld ?_ ?_
                  rotate_left
                  ·rintro w' ⟨s0, s1, s2, s3, s4⟩
                   go_simp
                   with_reducible rfl
                  rotate_left
                  ·simp only [Act.put, List.setIfInBounds_toArray, List.set_cons_zero, List.set_cons_succ, i64_w, i32_w]
                   rfl
                  refine pure_ (i := 5) (N := some 70) (v := ?_) (a' := ?_) #[true, true, true, true, true, true, false, true, false, false, false] rfl rfl (any_of HT_.out (by kernel_rfl)) (fun _ _ _ h => h) (Or.inl ⟨by rfl, ?_⟩) ?_ ?_
                  rotate_left
                  ·intro w'
                   go_simp
                   with_reducible rfl
                  rotate_left
                  ·simp only [Act.put, List.setIfInBounds_toArray, List.set_cons_zero, List.set_cons_succ, i64_w, i32_w]
                   rfl
                  refine take_ (i := 6) (N := some 71) (v := ?_) (a' := ?_) #[true, true, true, true, true, true, true, true, false, false, false] rfl rfl (take_ofW HT_.out HW_.out (by kernel_rfl)) (fun _ _ _ h => h) (Or.inl ⟨by rfl, ?_⟩) hHeld ?_ ?_
                  rotate_left
                  ·rintro w' ⟨s0, s1, s2, s3, s4⟩
                   go_simp
                   with_reducible rfl
                  rotate_left
                  ·simp only [Act.put, List.setIfInBounds_toArray, List.set_cons_zero, List.set_cons_succ, i64_w, i32_w]
                   rfl
                  refine pure_ (i := 8) (N := some 73) (v := ?_) (a' := ?_) #[true, true, true, true, true, true, true, true, true, false, false] rfl rfl (any_of HT_.out (by kernel_rfl)) (fun _ _ _ h => h) (Or.inl ⟨by rfl, ?_⟩) ?_ ?_
                  rotate_left
                  ·intro w'
                   go_simp
                   with_reducible rfl
                  rotate_left
                  ·simp only [Act.put, List.setIfInBounds_toArray, List.set_cons_zero, List.set_cons_succ, i64_w, i32_w]
                   rfl
                  refine one_ (i := 9) (N := some 9) #[true, true, true, true, true, true, true, true, true, true, false] rfl rfl (one_of HT_.out (by kernel_rfl)) (by decide) (fun K hK => ?_)
                  refine box_step ?hg (N := 9) ?hd (cs := #[.int .u8 0, .string (⟨#[]⟩ : ByteArray), .int .i64 0, .int .i64 0, .int .i64 0, .int .i64 0]) (t := 35) ?hr ?_; (case hd => rfl); (case hg => rfl); (case hr => first|(go_simp; done)|(go_simp; rfl))
                  intro gb208 hg w59 hbox hb
                  have n0_ := Aside0.mk (Kd.R_below (Kd.R_elderB (by (with_reducible repeat (first|apply Kd.R_alloc|apply Kd.R_drewN|apply Kd.R_drew)); exact HO_199000.out) gb208 (Nat.le_of_eq hg.symm)) hb)
                  have n1_ := Aside0.mk (blk_below (g := gb197) (o := .cells #[.slice none 0 0, .int .i64 x198001_1, .int .i64 x198002_1] 47 (0, 0)) (by (with_reducible repeat (first|refine blk_drewN ?_ _|refine blk_drew ?_|refine blk_alloc ?_ _)); exact BK197.out) hb)
                  have n2_ := Aside0.mk (blk_below (g := gb198) (o := .cells #[u199000, .int .i64 x199001_1, .int .i64 x199002_1] 47 (0, 0)) (by (with_reducible repeat (first|refine blk_drewN ?_ _|refine blk_drew ?_|refine blk_alloc ?_ _)); exact BK198.out) hb)
                  have n3_ := Aside0.mk (blk_below (g := gb199) (o := .cells #[.int .i64 t205, .int .i64 t206, .int .i64 t207] 26 (0, 0)) (by (with_reducible repeat (first|refine blk_drewN ?_ _|refine blk_drew ?_|refine blk_alloc ?_ _)); exact BK199.out) hb)
                  have n4_ := Aside0.mk (blk_below (g := gb204) (o := .cells #[.int .i64 t202, .int .i64 t203] 66 (0, 0)) (by (with_reducible repeat (first|refine blk_drewN ?_ _|refine blk_drew ?_|refine blk_alloc ?_ _)); exact BK204.out) hb)
                  have n5_ := Aside0.mk (below_step (by repeat (first|(with_reducible first|exact HB.out|apply below_alloc|apply pw_below_drewN|apply below_drew1|refine below_set ?_ GE197.out|refine below_set ?_ GE198.out|refine below_set ?_ GE199.out|refine below_set ?_ GE204.out)|exact HB.out)) hb)
                  have n6_ := Aside0.mk (hbox)
                  have n7_ := Aside0.mk ((by rw [hg]; exact (below_size (by repeat (first|(with_reducible first|exact HB.out|apply below_alloc|apply pw_below_drewN|apply below_drew1|refine below_set ?_ GE197.out|refine below_set ?_ GE198.out|refine below_set ?_ GE199.out|refine below_set ?_ GE204.out)|exact HB.out))) : w.heap.size ≤ gb208))
                  have n8_ := Aside0.mk ((by rw [hg]; exact (below_size (by repeat (first|(with_reducible first|exact HB.out|apply below_alloc|apply pw_below_drewN|apply below_drew1|refine below_set ?_ GE197.out|refine below_set ?_ GE198.out|refine below_set ?_ GE199.out|refine below_set ?_ GE204.out)|exact HB.out))) : w.heap.size ≤ gb208))
                  have n9_ := Aside0.mk ((by rw [hg]; exact Nat.ne_of_lt (blk_lt (g := gb197) (o := .cells #[.slice none 0 0, .int .i64 x198001_1, .int .i64 x198002_1] 47 (0, 0)) (by (with_reducible repeat (first|refine blk_drewN ?_ _|refine blk_drew ?_|refine blk_alloc ?_ _)); exact BK197.out)) : gb197 ≠ gb208))
                  have n10_ := Aside0.mk ((by rw [hg]; exact Nat.ne_of_gt (blk_lt (g := gb197) (o := .cells #[.slice none 0 0, .int .i64 x198001_1, .int .i64 x198002_1] 47 (0, 0)) (by (with_reducible repeat (first|refine blk_drewN ?_ _|refine blk_drew ?_|refine blk_alloc ?_ _)); exact BK197.out)) : gb208 ≠ gb197))
                  have n11_ := Aside0.mk ((by rw [hg]; exact Nat.ne_of_lt (blk_lt (g := gb198) (o := .cells #[u199000, .int .i64 x199001_1, .int .i64 x199002_1] 47 (0, 0)) (by (with_reducible repeat (first|refine blk_drewN ?_ _|refine blk_drew ?_|refine blk_alloc ?_ _)); exact BK198.out)) : gb198 ≠ gb208))
                  have n12_ := Aside0.mk ((by rw [hg]; exact Nat.ne_of_gt (blk_lt (g := gb198) (o := .cells #[u199000, .int .i64 x199001_1, .int .i64 x199002_1] 47 (0, 0)) (by (with_reducible repeat (first|refine blk_drewN ?_ _|refine blk_drew ?_|refine blk_alloc ?_ _)); exact BK198.out)) : gb208 ≠ gb198))
                  have n13_ := Aside0.mk ((by rw [hg]; exact Nat.ne_of_lt (blk_lt (g := gb199) (o := .cells #[.int .i64 t205, .int .i64 t206, .int .i64 t207] 26 (0, 0)) (by (with_reducible repeat (first|refine blk_drewN ?_ _|refine blk_drew ?_|refine blk_alloc ?_ _)); exact BK199.out)) : gb199 ≠ gb208))
                  have n14_ := Aside0.mk ((by rw [hg]; exact Nat.ne_of_gt (blk_lt (g := gb199) (o := .cells #[.int .i64 t205, .int .i64 t206, .int .i64 t207] 26 (0, 0)) (by (with_reducible repeat (first|refine blk_drewN ?_ _|refine blk_drew ?_|refine blk_alloc ?_ _)); exact BK199.out)) : gb208 ≠ gb199))
                  have n15_ := Aside0.mk ((by rw [hg]; exact Nat.ne_of_lt (blk_lt (g := gb204) (o := .cells #[.int .i64 t202, .int .i64 t203] 66 (0, 0)) (by (with_reducible repeat (first|refine blk_drewN ?_ _|refine blk_drew ?_|refine blk_alloc ?_ _)); exact BK204.out)) : gb204 ≠ gb208))
                  have n16_ := Aside0.mk ((by rw [hg]; exact Nat.ne_of_gt (blk_lt (g := gb204) (o := .cells #[.int .i64 t202, .int .i64 t203] 66 (0, 0)) (by (with_reducible repeat (first|refine blk_drewN ?_ _|refine blk_drew ?_|refine blk_alloc ?_ _)); exact BK204.out)) : gb208 ≠ gb204))
                  clear HO_199000
                  clear BK197
                  clear BK198
                  clear BK199
                  clear BK204
                  clear HB
                  have HO_199000 := n0_
                  have BK197 := n1_
                  have BK198 := n2_
                  have BK199 := n3_
                  have BK204 := n4_
                  have HB := n5_
                  have BK208 := n6_
                  have GW208 := n7_
                  have GE208 := n8_
                  have NB197_208 := n9_
                  have NB208_197 := n10_
                  have NB198_208 := n11_
                  have NB208_198 := n12_
                  have NB199_208 := n13_
                  have NB208_199 := n14_
                  have NB204_208 := n15_
                  have NB208_204 := n16_
                  clear n0_ n1_ n2_ n3_ n4_ n5_ n6_ n7_ n8_ n9_ n10_ n11_ n12_ n13_ n14_ n15_ n16_
                  clear hb hbox hg
                  refine hK.out _ _ ⟨(blk_cell BK204.out 0).trans rfl, (blk_cell BK204.out 1).trans rfl, (blk_cell BK199.out 0).trans rfl, (blk_cell BK199.out 1).trans rfl, (blk_cell BK199.out 2).trans rfl⟩ (fun hHeld => ?_)
                  clear hK K
                  refine norm_ (a' := ?_) ?_ ?_
                  rotate_left
                  ·show Act.put _ (some 9) _ = _
                   simp only [Act.put, List.setIfInBounds_toArray, List.set_cons_zero, List.set_cons_succ, i64_w, i32_w]
                   rfl
                  refine one_ (i := 10) (N := none) #[true, true, true, true, true, true, true, true, true, true, true] rfl rfl (one_of HT_.out (by kernel_rfl)) (by decide) (fun K hK => ?_)
                  have hs60 : w59.cell? ⟨gb208, 0, none⟩ = some (.int .u8 0) := (blk_cell BK208.out 0).trans rfl
                  have hfs60 := blk_frozen BK208.out 0
                  have hns60_0 := NB197_208.out
                  have hns60_1 := NB198_208.out
                  have hns60_2 := NB199_208.out
                  have hns60_3 := NB204_208.out
                  have hms60_0 := NB208_197.out
                  have hms60_1 := NB208_198.out
                  have hms60_2 := NB208_199.out
                  have hms60_3 := NB208_204.out
                  have hs61 : w59.cell? ⟨gb208, 1, none⟩ = some (.string (⟨#[]⟩ : ByteArray)) := (blk_cell BK208.out 1).trans rfl
                  have hfs61 := blk_frozen BK208.out 1
                  have hns61_0 := NB197_208.out
                  have hns61_1 := NB198_208.out
                  have hns61_2 := NB199_208.out
                  have hns61_3 := NB204_208.out
                  have hms61_0 := NB208_197.out
                  have hms61_1 := NB208_198.out
                  have hms61_2 := NB208_199.out
                  have hms61_3 := NB208_204.out
                  have hs62 : w59.cell? ⟨gb208, 2, none⟩ = some (.int .i64 0) := (blk_cell BK208.out 2).trans rfl
                  have hfs62 := blk_frozen BK208.out 2
                  have hns62_0 := NB197_208.out
                  have hns62_1 := NB198_208.out
                  have hns62_2 := NB199_208.out
                  have hns62_3 := NB204_208.out
                  have hms62_0 := NB208_197.out
                  have hms62_1 := NB208_198.out
                  have hms62_2 := NB208_199.out
                  have hms62_3 := NB208_204.out
                  have hs63 : w59.cell? ⟨gb208, 3, none⟩ = some (.int .i64 0) := (blk_cell BK208.out 3).trans rfl
                  have hfs63 := blk_frozen BK208.out 3
                  have hns63_0 := NB197_208.out
                  have hns63_1 := NB198_208.out
                  have hns63_2 := NB199_208.out
                  have hns63_3 := NB204_208.out
                  have hms63_0 := NB208_197.out
                  have hms63_1 := NB208_198.out
                  have hms63_2 := NB208_199.out
                  have hms63_3 := NB208_204.out
                  have hs64 : w59.cell? ⟨gb208, 4, none⟩ = some (.int .i64 0) := (blk_cell BK208.out 4).trans rfl
                  have hfs64 := blk_frozen BK208.out 4
                  have hns64_0 := NB197_208.out
                  have hns64_1 := NB198_208.out
                  have hns64_2 := NB199_208.out
                  have hns64_3 := NB204_208.out
                  have hms64_0 := NB208_197.out
                  have hms64_1 := NB208_198.out
                  have hms64_2 := NB208_199.out
                  have hms64_3 := NB208_204.out
                  have hs65 : w59.cell? ⟨gb208, 5, none⟩ = some (.int .i64 0) := (blk_cell BK208.out 5).trans rfl
                  have hfs65 := blk_frozen BK208.out 5
                  have hns65_0 := NB197_208.out
                  have hns65_1 := NB198_208.out
                  have hns65_2 := NB199_208.out
                  have hns65_3 := NB204_208.out
                  have hms65_0 := NB208_197.out
                  have hms65_1 := NB208_198.out
                  have hms65_2 := NB208_199.out
                  have hms65_3 := NB208_204.out
                  refine skip_ (w1 := ?_) (by rfl) rfl ?_ ?_
                  rotate_left
                  ·go_simp
                   rfl
                  refine hK.out _ _ ⟨((cell_far (p:=⟨gb208,_,none⟩) NB204_208.out _).trans (((cell_far (p:=⟨gb208,_,none⟩) NB204_208.out _).trans (((cell_far (p:=⟨gb208,_,none⟩) NB204_208.out _).trans (((cell_far (p:=⟨gb208,_,none⟩) NB204_208.out _).trans (((cell_far (p:=⟨gb208,_,none⟩) NB204_208.out _).trans (((cell_far (p:=⟨gb208,_,none⟩) NB204_208.out _).trans (hHeld.1)))))))))))),((cell_far (p:=⟨gb208,_,none⟩) NB204_208.out _).trans (((cell_far (p:=⟨gb208,_,none⟩) NB204_208.out _).trans (((cell_far (p:=⟨gb208,_,none⟩) NB204_208.out _).trans (((cell_far (p:=⟨gb208,_,none⟩) NB204_208.out _).trans (((cell_far (p:=⟨gb208,_,none⟩) NB204_208.out _).trans (((cell_far (p:=⟨gb208,_,none⟩) NB204_208.out _).trans (hHeld.2.1)))))))))))),((cell_far (p:=⟨gb208,_,none⟩) NB199_208.out _).trans (((cell_far (p:=⟨gb208,_,none⟩) NB199_208.out _).trans (((cell_far (p:=⟨gb208,_,none⟩) NB199_208.out _).trans (((cell_far (p:=⟨gb208,_,none⟩) NB199_208.out _).trans (((cell_far (p:=⟨gb208,_,none⟩) NB199_208.out _).trans (((cell_far (p:=⟨gb208,_,none⟩) NB199_208.out _).trans (hHeld.2.2.1)))))))))))),((cell_far (p:=⟨gb208,_,none⟩) NB199_208.out _).trans (((cell_far (p:=⟨gb208,_,none⟩) NB199_208.out _).trans (((cell_far (p:=⟨gb208,_,none⟩) NB199_208.out _).trans (((cell_far (p:=⟨gb208,_,none⟩) NB199_208.out _).trans (((cell_far (p:=⟨gb208,_,none⟩) NB199_208.out _).trans (((cell_far (p:=⟨gb208,_,none⟩) NB199_208.out _).trans (hHeld.2.2.2.1)))))))))))),((cell_far (p:=⟨gb208,_,none⟩) NB199_208.out _).trans (((cell_far (p:=⟨gb208,_,none⟩) NB199_208.out _).trans (((cell_far (p:=⟨gb208,_,none⟩) NB199_208.out _).trans (((cell_far (p:=⟨gb208,_,none⟩) NB199_208.out _).trans (((cell_far (p:=⟨gb208,_,none⟩) NB199_208.out _).trans (((cell_far (p:=⟨gb208,_,none⟩) NB199_208.out _).trans (hHeld.2.2.2.2))))))))))))⟩ (fun hHeld => ?_)
                  clear hK K
                  refine done_ (done_of HT_.out (by kernel_rfl)) ?_
                  have hnb66 := NB208_197.out
                  have hnc66 := NB197_208.out
                  have hnb67 := NB208_198.out
                  have hnc67 := NB198_208.out
                  have hnb68 := NB208_199.out
                  have hnc68 := NB199_208.out
                  have hnb69 := NB208_204.out
                  have hnc69 := NB204_208.out
                  have hcz70_0 : w59.cell? ⟨gb208, 0, none⟩ = some (.int .u8 0) := (blk_cell BK208.out 0).trans rfl
                  have hcz70_1 : w59.cell? ⟨gb208, 1, none⟩ = some (.string (⟨#[]⟩ : ByteArray)) := (blk_cell BK208.out 1).trans rfl
                  have hcz70_2 : w59.cell? ⟨gb208, 2, none⟩ = some (.int .i64 0) := (blk_cell BK208.out 2).trans rfl
                  have hcz70_3 : w59.cell? ⟨gb208, 3, none⟩ = some (.int .i64 0) := (blk_cell BK208.out 3).trans rfl
                  have hcz70_4 : w59.cell? ⟨gb208, 4, none⟩ = some (.int .i64 0) := (blk_cell BK208.out 4).trans rfl
                  have hcz70_5 : w59.cell? ⟨gb208, 5, none⟩ = some (.int .i64 0) := (blk_cell BK208.out 5).trans rfl
                  have hfz70_0 := blk_frozen BK208.out 0
                  have hfz70_1 := blk_frozen BK208.out 1
                  have hfz70_2 := blk_frozen BK208.out 2
                  have hfz70_3 := blk_frozen BK208.out 3
                  have hfz70_4 := blk_frozen BK208.out 4
                  have hfz70_5 := blk_frozen BK208.out 5
                  go_upto_region 23 with (first|((with_reducible refine gate_callee (f:=47) rfl ?_);refine goesL_ (some 76) rfl rfl Tryd.func47 (by kernel_rfl) rfl #[.string (a0.extract (x6_1 : Int).toNat (t202 : Int).toNat)] rfl (by (try simp only [List.map_toArray,List.map_cons,List.map_nil]);first|done|rfl|(simp only [List.length_drop,List.length_take];rfl)) ?_;(with_reducible refine (colophonref04_IsKey.calls kj14 (a0.extract (x6_1 : Int).toNat (t202 : Int).toNat) t209 _ A42.out).mono ?_);rintro e w71 ⟨rfl,hb⟩;refine ⟨_,rfl,?_⟩;have n0_:=Aside0.mk (Kd.R_below (by (with_reducible repeat (first|apply Kd.R_alloc|apply Kd.R_drewN|apply Kd.R_drew));exact (Kd.R_mono (Kd.R_far (p:=⟨gb208,5,none⟩) (Kd.R_far (p:=⟨gb208,4,none⟩) (Kd.R_far (p:=⟨gb208,3,none⟩) (Kd.R_far (p:=⟨gb208,2,none⟩) (Kd.R_far (p:=⟨gb208,1,none⟩) (Kd.R_far (p:=⟨gb208,0,none⟩) (Kd.R_mono HO_199000.out (fun k_ hk => (⟨hk,hk.2⟩ : _ ∧ k_ ≠ gb208))) (fun _ hk => hk.2) (.int .u8 t201)) (fun _ hk => hk.2) (.string (a0.extract (x6_1 : Int).toNat (t202 : Int).toNat))) (fun _ hk => hk.2) (.int .i64 t205)) (fun _ hk => hk.2) (.int .i64 t206)) (fun _ hk => hk.2) (.int .i64 t207)) (fun _ hk => hk.2) (.int .i64 x5_12)) (fun _ h_ => h_.1))) hb);have n1_:=Aside0.mk (blk_below (g:=gb197) (o:=.cells #[.slice none 0 0,.int .i64 x198001_1,.int .i64 x198002_1] 47 (0,0)) (by (with_reducible repeat (first|refine blk_drewN ?_ _|refine blk_drew ?_|refine blk_alloc ?_ _));refine blk_far ?_ NB197_208.out _;(with_reducible repeat (first|refine blk_drewN ?_ _|refine blk_drew ?_|refine blk_alloc ?_ _));refine blk_far ?_ NB197_208.out _;(with_reducible repeat (first|refine blk_drewN ?_ _|refine blk_drew ?_|refine blk_alloc ?_ _));refine blk_far ?_ NB197_208.out _;(with_reducible repeat (first|refine blk_drewN ?_ _|refine blk_drew ?_|refine blk_alloc ?_ _));refine blk_far ?_ NB197_208.out _;(with_reducible repeat (first|refine blk_drewN ?_ _|refine blk_drew ?_|refine blk_alloc ?_ _));refine blk_far ?_ NB197_208.out _;(with_reducible repeat (first|refine blk_drewN ?_ _|refine blk_drew ?_|refine blk_alloc ?_ _));refine blk_far ?_ NB197_208.out _;(with_reducible repeat (first|refine blk_drewN ?_ _|refine blk_drew ?_|refine blk_alloc ?_ _));exact BK197.out) hb);have n2_:=Aside0.mk (blk_below (g:=gb198) (o:=.cells #[u199000,.int .i64 x199001_1,.int .i64 x199002_1] 47 (0,0)) (by (with_reducible repeat (first|refine blk_drewN ?_ _|refine blk_drew ?_|refine blk_alloc ?_ _));refine blk_far ?_ NB198_208.out _;(with_reducible repeat (first|refine blk_drewN ?_ _|refine blk_drew ?_|refine blk_alloc ?_ _));refine blk_far ?_ NB198_208.out _;(with_reducible repeat (first|refine blk_drewN ?_ _|refine blk_drew ?_|refine blk_alloc ?_ _));refine blk_far ?_ NB198_208.out _;(with_reducible repeat (first|refine blk_drewN ?_ _|refine blk_drew ?_|refine blk_alloc ?_ _));refine blk_far ?_ NB198_208.out _;(with_reducible repeat (first|refine blk_drewN ?_ _|refine blk_drew ?_|refine blk_alloc ?_ _));refine blk_far ?_ NB198_208.out _;(with_reducible repeat (first|refine blk_drewN ?_ _|refine blk_drew ?_|refine blk_alloc ?_ _));refine blk_far ?_ NB198_208.out _;(with_reducible repeat (first|refine blk_drewN ?_ _|refine blk_drew ?_|refine blk_alloc ?_ _));exact BK198.out) hb);have n3_:=Aside0.mk (blk_below (g:=gb199) (o:=.cells #[.int .i64 t205,.int .i64 t206,.int .i64 t207] 26 (0,0)) (by (with_reducible repeat (first|refine blk_drewN ?_ _|refine blk_drew ?_|refine blk_alloc ?_ _));refine blk_far ?_ NB199_208.out _;(with_reducible repeat (first|refine blk_drewN ?_ _|refine blk_drew ?_|refine blk_alloc ?_ _));refine blk_far ?_ NB199_208.out _;(with_reducible repeat (first|refine blk_drewN ?_ _|refine blk_drew ?_|refine blk_alloc ?_ _));refine blk_far ?_ NB199_208.out _;(with_reducible repeat (first|refine blk_drewN ?_ _|refine blk_drew ?_|refine blk_alloc ?_ _));refine blk_far ?_ NB199_208.out _;(with_reducible repeat (first|refine blk_drewN ?_ _|refine blk_drew ?_|refine blk_alloc ?_ _));refine blk_far ?_ NB199_208.out _;(with_reducible repeat (first|refine blk_drewN ?_ _|refine blk_drew ?_|refine blk_alloc ?_ _));refine blk_far ?_ NB199_208.out _;(with_reducible repeat (first|refine blk_drewN ?_ _|refine blk_drew ?_|refine blk_alloc ?_ _));exact BK199.out) hb);have n4_:=Aside0.mk (blk_below (g:=gb204) (o:=.cells #[.int .i64 t202,.int .i64 t203] 66 (0,0)) (by (with_reducible repeat (first|refine blk_drewN ?_ _|refine blk_drew ?_|refine blk_alloc ?_ _));refine blk_far ?_ NB204_208.out _;(with_reducible repeat (first|refine blk_drewN ?_ _|refine blk_drew ?_|refine blk_alloc ?_ _));refine blk_far ?_ NB204_208.out _;(with_reducible repeat (first|refine blk_drewN ?_ _|refine blk_drew ?_|refine blk_alloc ?_ _));refine blk_far ?_ NB204_208.out _;(with_reducible repeat (first|refine blk_drewN ?_ _|refine blk_drew ?_|refine blk_alloc ?_ _));refine blk_far ?_ NB204_208.out _;(with_reducible repeat (first|refine blk_drewN ?_ _|refine blk_drew ?_|refine blk_alloc ?_ _));refine blk_far ?_ NB204_208.out _;(with_reducible repeat (first|refine blk_drewN ?_ _|refine blk_drew ?_|refine blk_alloc ?_ _));refine blk_far ?_ NB204_208.out _;(with_reducible repeat (first|refine blk_drewN ?_ _|refine blk_drew ?_|refine blk_alloc ?_ _));exact BK204.out) hb);have n5_:=Aside0.mk (blk_below (g:=gb208) (o:=.cells #[.int .u8 t201,.string (a0.extract (x6_1 : Int).toNat (t202 : Int).toNat),.int .i64 t205,.int .i64 t206,.int .i64 t207,.int .i64 x5_12] 35 (0,0)) (by (with_reducible repeat (first|refine blk_drewN ?_ _|refine blk_drew ?_|refine blk_alloc ?_ _));refine blk_put (cs:=#[.int .u8 t201,.string (a0.extract (x6_1 : Int).toNat (t202 : Int).toNat),.int .i64 t205,.int .i64 t206,.int .i64 t207,.int .i64 0]) ?_ 5 _ rfl;(with_reducible repeat (first|refine blk_drewN ?_ _|refine blk_drew ?_|refine blk_alloc ?_ _));refine blk_put (cs:=#[.int .u8 t201,.string (a0.extract (x6_1 : Int).toNat (t202 : Int).toNat),.int .i64 t205,.int .i64 t206,.int .i64 0,.int .i64 0]) ?_ 4 _ rfl;(with_reducible repeat (first|refine blk_drewN ?_ _|refine blk_drew ?_|refine blk_alloc ?_ _));refine blk_put (cs:=#[.int .u8 t201,.string (a0.extract (x6_1 : Int).toNat (t202 : Int).toNat),.int .i64 t205,.int .i64 0,.int .i64 0,.int .i64 0]) ?_ 3 _ rfl;(with_reducible repeat (first|refine blk_drewN ?_ _|refine blk_drew ?_|refine blk_alloc ?_ _));refine blk_put (cs:=#[.int .u8 t201,.string (a0.extract (x6_1 : Int).toNat (t202 : Int).toNat),.int .i64 0,.int .i64 0,.int .i64 0,.int .i64 0]) ?_ 2 _ rfl;(with_reducible repeat (first|refine blk_drewN ?_ _|refine blk_drew ?_|refine blk_alloc ?_ _));refine blk_put (cs:=#[.int .u8 t201,.string (⟨#[]⟩ : ByteArray),.int .i64 0,.int .i64 0,.int .i64 0,.int .i64 0]) ?_ 1 _ rfl;(with_reducible repeat (first|refine blk_drewN ?_ _|refine blk_drew ?_|refine blk_alloc ?_ _));refine blk_put (cs:=#[.int .u8 0,.string (⟨#[]⟩ : ByteArray),.int .i64 0,.int .i64 0,.int .i64 0,.int .i64 0]) ?_ 0 _ rfl;(with_reducible repeat (first|refine blk_drewN ?_ _|refine blk_drew ?_|refine blk_alloc ?_ _));exact BK208.out) hb);have n6_:=Aside0.mk (below_step (by repeat (first|(with_reducible first|exact HB.out|apply below_alloc|apply pw_below_drewN|apply below_drew1|refine below_set ?_ GE197.out|refine below_set ?_ GE198.out|refine below_set ?_ GE199.out|refine below_set ?_ GE204.out|refine below_set ?_ GE208.out)|exact HB.out)) hb);clear HO_199000;clear BK197;clear BK198;clear BK199;clear BK204;clear BK208;clear HB;have HO_199000:=n0_;have BK197:=n1_;have BK198:=n2_;have BK199:=n3_;have BK204:=n4_;have BK208:=n5_;have HB:=n6_;clear n0_ n1_ n2_ n3_ n4_ n5_ n6_;(try clear hb);(try clear hb2);(try clear hk);(try clear hi)))
                  (try simp only [Act.put, List.setIfInBounds_toArray, List.set_cons_zero, List.set_cons_succ])
                  go_cut [81] (fun v81 wc => ∃ (kq : Nat) (x81_42 : Bool), v81 = .bool x81_42 ∧ Aside0 (colophonref10_Find.j3 kq a0 t201 x81_42 x199000_1 x199001_1 x199002_1 t205 t206 t207 t202 t203 t201 (a0.extract (x6_1 : Int).toNat (t202 : Int).toNat) t205 t206 t207 x5_12 = some (r1, r2, r3)) ∧ Aside0 (kq ≤ kj14) ∧ Aside0 (Kd.R k35 35 wc w.heap.size (fun k_ => k_ ≠ gb208) u199000 x199000_1) ∧ Aside0 (wc.heap[gb197]? = some (.cells #[(.slice none 0 0), .int .i64 x198001_1, .int .i64 x198002_1] 47 (0, 0))) ∧ Aside0 (wc.heap[gb198]? = some (.cells #[u199000, .int .i64 x199001_1, .int .i64 x199002_1] 47 (0, 0))) ∧ Aside0 (wc.heap[gb199]? = some (.cells #[.int .i64 t205, .int .i64 t206, .int .i64 t207] 26 (0, 0))) ∧ Aside0 (wc.heap[gb204]? = some (.cells #[.int .i64 t202, .int .i64 t203] 66 (0, 0))) ∧ Aside0 (wc.heap[gb208]? = some (.cells #[.int .u8 t201, .string (a0.extract (x6_1 : Int).toNat (t202 : Int).toNat), .int .i64 t205, .int .i64 t206, .int .i64 t207, .int .i64 x5_12] 35 (0, 0))) ∧ Aside0 (Below w.heap.size w wc))
                  case first =>
                   have H := HC43.out
                   clear HC43
                   by_cases c72 : t201 = 1
                   ·rw [if_pos c72] at H
                    have c72b0 : (t201 == 1) = true := beq_iff_eq.mpr c72
                    have c72b1 : (t201 != 1) = false := bne_eq_false_iff_eq.mpr c72
                    clear c72
                    (first|rw [c72b0]|(simp only [i64_w, i32_w]; rw [c72b0])|skip)
                    have H' := Aside0.mk H
                    clear H
                    go_wp2
                    go_meet
                    case rel => exact ⟨_, (t209), (by first|rfl|(simp; done)|(simp [*]; done)), H', ⟨by have := HK1.out; have := HJ12.out; have := HJ14.out; first|omega|exact Nat.le_refl _⟩, ⟨by (with_reducible repeat (first|apply Kd.R_alloc|apply Kd.R_drewN|apply Kd.R_drew)); exact Kd.R_mono HO_199000.out (fun _ hk => hk.2)⟩, ⟨by (with_reducible repeat (first|refine blk_drewN ?_ _|refine blk_drew ?_|refine blk_alloc ?_ _)); exact BK197.out⟩, ⟨by (with_reducible repeat (first|refine blk_drewN ?_ _|refine blk_drew ?_|refine blk_alloc ?_ _)); exact BK198.out⟩, ⟨by (with_reducible repeat (first|refine blk_drewN ?_ _|refine blk_drew ?_|refine blk_alloc ?_ _)); exact BK199.out⟩, ⟨by (with_reducible repeat (first|refine blk_drewN ?_ _|refine blk_drew ?_|refine blk_alloc ?_ _)); exact BK204.out⟩, ⟨by (with_reducible repeat (first|refine blk_drewN ?_ _|refine blk_drew ?_|refine blk_alloc ?_ _)); exact BK208.out⟩, ⟨by repeat (first|(with_reducible first|exact HB.out|apply below_alloc|apply pw_below_drewN|apply below_drew1|refine below_set ?_ GE197.out|refine below_set ?_ GE198.out|refine below_set ?_ GE199.out|refine below_set ?_ GE204.out|refine below_set ?_ GE208.out)|exact HB.out)⟩⟩
                   ·rw [if_neg c72] at H
                    have c72b0 : (t201 == 1) = false := beq_eq_false_iff_ne.mpr c72
                    have c72b1 : (t201 != 1) = true := bne_iff_ne.mpr c72
                    (first|rw [c72b0]|(simp only [i64_w, i32_w]; rw [c72b0])|skip)
                    have H' := Aside0.mk H
                    clear H
                    go_wp2
                    go_meet
                    case rel => exact ⟨_, (false), (by first|rfl|(simp; done)|(simp [*]; done)), H', ⟨by have := HK1.out; have := HJ12.out; have := HJ14.out; first|omega|exact Nat.le_refl _⟩, ⟨by (with_reducible repeat (first|apply Kd.R_alloc|apply Kd.R_drewN|apply Kd.R_drew)); exact Kd.R_mono HO_199000.out (fun _ hk => hk.2)⟩, ⟨by (with_reducible repeat (first|refine blk_drewN ?_ _|refine blk_drew ?_|refine blk_alloc ?_ _)); exact BK197.out⟩, ⟨by (with_reducible repeat (first|refine blk_drewN ?_ _|refine blk_drew ?_|refine blk_alloc ?_ _)); exact BK198.out⟩, ⟨by (with_reducible repeat (first|refine blk_drewN ?_ _|refine blk_drew ?_|refine blk_alloc ?_ _)); exact BK199.out⟩, ⟨by (with_reducible repeat (first|refine blk_drewN ?_ _|refine blk_drew ?_|refine blk_alloc ?_ _)); exact BK204.out⟩, ⟨by (with_reducible repeat (first|refine blk_drewN ?_ _|refine blk_drew ?_|refine blk_alloc ?_ _)); exact BK208.out⟩, ⟨by repeat (first|(with_reducible first|exact HB.out|apply below_alloc|apply pw_below_drewN|apply below_drew1|refine below_set ?_ GE197.out|refine below_set ?_ GE198.out|refine below_set ?_ GE199.out|refine below_set ?_ GE204.out|refine below_set ?_ GE208.out)|exact HB.out)⟩⟩
                  case rest =>
                   clear HC43
                   try clear c1
                   try clear p1
                   try clear q1
                   try clear hx1
                   try clear c2
                   try clear p2
                   try clear q2
                   try clear hx2
                   try clear c3
                   try clear c4
                   try clear c6
                   try clear p6
                   try clear c7
                   try clear c8
                   try clear c10
                   try clear c10b0
                   try clear c11
                   try clear c11b0
                   try clear p12
                   try clear q12
                   try clear hx12
                   try clear c14
                   try clear c14b0
                   try clear c14b1
                   try clear c16
                   try clear c16b0
                   try clear c17
                   try clear c17b0
                   try clear p18
                   try clear q18
                   try clear hx18
                   try clear c19
                   try clear c19b0
                   try clear c19b1
                   try clear c20
                   try clear p20
                   try clear q20
                   try clear hx20
                   try clear c21
                   try clear c23
                   try clear c25
                   try clear c25b0
                   try clear c25b1
                   try clear c27
                   try clear c28
                   try clear c31
                   try clear c34
                   try clear c34b0
                   try clear c34b1
                   try clear c35
                   try clear c35b0
                   try clear c35b1
                   try clear c36
                   try clear c36b0
                   try clear c36b1
                   try clear c37
                   try clear c37b0
                   try clear c37b1
                   try clear c39
                   try clear c39b0
                   try clear c39b1
                   try clear c40
                   try clear c40b0
                   try clear c40b1
                   try clear c41
                   try clear c41b0
                   try clear c41b1
                   try clear c45
                   try clear c46
                   try clear c47
                   try clear c48
                   try clear c49
                   try clear p64
                   try clear c66
                   try clear c67
                   try clear c68
                   try clear c69
                   try clear c72
                   try clear c72b0
                   try clear c72b1
                   try clear hcz29_0
                   try clear hcz29_1
                   try clear hcz29_2
                   try clear hcz32_0
                   try clear hcz32_1
                   try clear hcz32_2
                   try clear hcz50_0
                   try clear hcz50_1
                   try clear hcz5_0
                   try clear hcz5_1
                   try clear hcz5_2
                   try clear hcz70_0
                   try clear hcz70_1
                   try clear hcz70_2
                   try clear hcz70_3
                   try clear hcz70_4
                   try clear hcz70_5
                   try clear hcz9_0
                   try clear hcz9_1
                   try clear hcz9_2
                   try clear hfz29_0
                   try clear hfz29_1
                   try clear hfz29_2
                   try clear hfz32_0
                   try clear hfz32_1
                   try clear hfz32_2
                   try clear hfz50_0
                   try clear hfz50_1
                   try clear hfz5_0
                   try clear hfz5_1
                   try clear hfz5_2
                   try clear hfz70_0
                   try clear hfz70_1
                   try clear hfz70_2
                   try clear hfz70_3
                   try clear hfz70_4
                   try clear hfz70_5
                   try clear hfz9_0
                   try clear hfz9_1
                   try clear hfz9_2
                   try clear p1
                   try clear p12
                   try clear p18
                   try clear p2
                   try clear p20
                   try clear p6
                   try clear q1
                   try clear q12
                   try clear q18
                   try clear q2
                   try clear q20
                   obtain ⟨kq, x81_42, rfl, HA, HJ42, HO_199000, BK197, BK198, BK199, BK204, BK208, HB⟩ := hcut
                   cases kq with
                   | zero => exact absurd HA.out (by simp [colophonref10_Find.j3])
                   | succ kj42 =>
                    have H := HA.out
                    clear HA
                    simp only [colophonref10_Find.j3] at H
                    have HC73 := Aside0.mk H
                    clear H
                    go_upto_if 81 with (fail)
                    go_cut [] (fun wc => ∃ (kq : Nat) (x209000_72 : Int), Aside0 (colophonref10_Find.j4 kq a0 t201 x199000_1 x199001_1 x199002_1 t205 t206 t207 t202 t203 x209000_72 (a0.extract (x6_1 : Int).toNat (t202 : Int).toNat) t205 t206 t207 x5_12 = some (r1, r2, r3)) ∧ Aside0 (kq ≤ kj42) ∧ Aside0 (Kd.R k35 35 wc w.heap.size (fun k_ => k_ ≠ gb208) u199000 x199000_1) ∧ Aside0 (wc.heap[gb197]? = some (.cells #[(.slice none 0 0), .int .i64 x198001_1, .int .i64 x198002_1] 47 (0, 0))) ∧ Aside0 (wc.heap[gb198]? = some (.cells #[u199000, .int .i64 x199001_1, .int .i64 x199002_1] 47 (0, 0))) ∧ Aside0 (wc.heap[gb199]? = some (.cells #[.int .i64 t205, .int .i64 t206, .int .i64 t207] 26 (0, 0))) ∧ Aside0 (wc.heap[gb204]? = some (.cells #[.int .i64 t202, .int .i64 t203] 66 (0, 0))) ∧ Aside0 (wc.heap[gb208]? = some (.cells #[.int .u8 x209000_72, .string (a0.extract (x6_1 : Int).toNat (t202 : Int).toNat), .int .i64 t205, .int .i64 t206, .int .i64 t207, .int .i64 x5_12] 35 (0, 0))) ∧ Aside0 (Below w.heap.size w wc))
                    case first =>
                     have H := HC73.out
                     clear HC73
                     by_cases c74 : x81_42 = true
                     ·subst c74
                      have H1 : (colophonref10_Find.j4 kj42 a0 t201 x199000_1 x199001_1 x199002_1 t205 t206 t207 t202 t203 2 (a0.extract (x6_1 : Int).toNat (t202 : Int).toNat) t205 t206 t207 x5_12) = some (r1, r2, r3) := by rw [if_pos rfl] at H; exact H
                      clear H
                      have H := H1
                      clear H1
                      have H' := Aside0.mk H
                      clear H
                      have hnb75 := NB208_197.out
                      have hnc75 := NB197_208.out
                      have hnb76 := NB208_198.out
                      have hnc76 := NB198_208.out
                      have hnb77 := NB208_199.out
                      have hnc77 := NB199_208.out
                      have hnb78 := NB208_204.out
                      have hnc78 := NB204_208.out
                      have hcz79_0 : wc.cell? ⟨gb208, 0, none⟩ = some (.int .u8 t201) := (blk_cell BK208.out 0).trans rfl
                      have hcz79_1 : wc.cell? ⟨gb208, 1, none⟩ = some (.string (a0.extract (x6_1 : Int).toNat (t202 : Int).toNat)) := (blk_cell BK208.out 1).trans rfl
                      have hcz79_2 : wc.cell? ⟨gb208, 2, none⟩ = some (.int .i64 t205) := (blk_cell BK208.out 2).trans rfl
                      have hcz79_3 : wc.cell? ⟨gb208, 3, none⟩ = some (.int .i64 t206) := (blk_cell BK208.out 3).trans rfl
                      have hcz79_4 : wc.cell? ⟨gb208, 4, none⟩ = some (.int .i64 t207) := (blk_cell BK208.out 4).trans rfl
                      have hcz79_5 : wc.cell? ⟨gb208, 5, none⟩ = some (.int .i64 x5_12) := (blk_cell BK208.out 5).trans rfl
                      have hfz79_0 := blk_frozen BK208.out 0
                      have hfz79_1 := blk_frozen BK208.out 1
                      have hfz79_2 := blk_frozen BK208.out 2
                      have hfz79_3 := blk_frozen BK208.out 3
                      have hfz79_4 := blk_frozen BK208.out 4
                      have hfz79_5 := blk_frozen BK208.out 5
                      go_wp2
                      go_meet
                      case rel => exact ⟨_,(2),H',⟨by have:=HK1.out;have:=HJ12.out;have:=HJ14.out;have:=HJ42.out;first|omega|exact Nat.le_refl _⟩,⟨by (with_reducible repeat (first|apply Kd.R_alloc|apply Kd.R_drewN|apply Kd.R_drew));exact Kd.R_mono (Kd.R_far (p:=⟨gb208,0,none⟩) (Kd.R_mono HO_199000.out (fun k_ hk => (⟨hk,hk⟩ : _ ∧ k_ ≠ gb208))) (fun _ hk => hk.2) (.int .u8 2)) (fun _ hk => hk.1)⟩,⟨by (with_reducible repeat (first|refine blk_drewN ?_ _|refine blk_drew ?_|refine blk_alloc ?_ _));refine blk_far ?_ NB197_208.out _;(with_reducible repeat (first|refine blk_drewN ?_ _|refine blk_drew ?_|refine blk_alloc ?_ _));exact BK197.out⟩,⟨by (with_reducible repeat (first|refine blk_drewN ?_ _|refine blk_drew ?_|refine blk_alloc ?_ _));refine blk_far ?_ NB198_208.out _;(with_reducible repeat (first|refine blk_drewN ?_ _|refine blk_drew ?_|refine blk_alloc ?_ _));exact BK198.out⟩,⟨by (with_reducible repeat (first|refine blk_drewN ?_ _|refine blk_drew ?_|refine blk_alloc ?_ _));refine blk_far ?_ NB199_208.out _;(with_reducible repeat (first|refine blk_drewN ?_ _|refine blk_drew ?_|refine blk_alloc ?_ _));exact BK199.out⟩,⟨by (with_reducible repeat (first|refine blk_drewN ?_ _|refine blk_drew ?_|refine blk_alloc ?_ _));refine blk_far ?_ NB204_208.out _;(with_reducible repeat (first|refine blk_drewN ?_ _|refine blk_drew ?_|refine blk_alloc ?_ _));exact BK204.out⟩,⟨by (with_reducible repeat (first|refine blk_drewN ?_ _|refine blk_drew ?_|refine blk_alloc ?_ _));refine blk_put (cs:=#[.int .u8 t201,.string (a0.extract (x6_1 : Int).toNat (t202 : Int).toNat),.int .i64 t205,.int .i64 t206,.int .i64 t207,.int .i64 x5_12]) ?_ 0 _ rfl;(with_reducible repeat (first|refine blk_drewN ?_ _|refine blk_drew ?_|refine blk_alloc ?_ _));exact BK208.out⟩,⟨by repeat (first|(with_reducible first|exact HB.out|apply below_alloc|apply pw_below_drewN|apply below_drew1|refine below_set ?_ GE197.out|refine below_set ?_ GE198.out|refine below_set ?_ GE199.out|refine below_set ?_ GE204.out|refine below_set ?_ GE208.out)|exact HB.out)⟩⟩
                     ·replace c74 := Bool.eq_false_iff.mpr c74
                      subst c74
                      have H1 : (colophonref10_Find.j4 kj42 a0 t201 x199000_1 x199001_1 x199002_1 t205 t206 t207 t202 t203 t201 (a0.extract (x6_1 : Int).toNat (t202 : Int).toNat) t205 t206 t207 x5_12) = some (r1, r2, r3) := by rw [if_neg (show ¬ (false = true) by decide)] at H; exact H
                      clear H
                      have H := H1
                      clear H1
                      have H' := Aside0.mk H
                      clear H
                      go_wp2
                      go_meet
                      case rel => exact ⟨_, (t201), H', ⟨by have := HK1.out; have := HJ12.out; have := HJ14.out; have := HJ42.out; first|omega|exact Nat.le_refl _⟩, ⟨by (with_reducible repeat (first|apply Kd.R_alloc|apply Kd.R_drewN|apply Kd.R_drew)); exact HO_199000.out⟩, ⟨by (with_reducible repeat (first|refine blk_drewN ?_ _|refine blk_drew ?_|refine blk_alloc ?_ _)); exact BK197.out⟩, ⟨by (with_reducible repeat (first|refine blk_drewN ?_ _|refine blk_drew ?_|refine blk_alloc ?_ _)); exact BK198.out⟩, ⟨by (with_reducible repeat (first|refine blk_drewN ?_ _|refine blk_drew ?_|refine blk_alloc ?_ _)); exact BK199.out⟩, ⟨by (with_reducible repeat (first|refine blk_drewN ?_ _|refine blk_drew ?_|refine blk_alloc ?_ _)); exact BK204.out⟩, ⟨by (with_reducible repeat (first|refine blk_drewN ?_ _|refine blk_drew ?_|refine blk_alloc ?_ _)); exact BK208.out⟩, ⟨by repeat (first|(with_reducible first|exact HB.out|apply below_alloc|apply pw_below_drewN|apply below_drew1|refine below_set ?_ GE197.out|refine below_set ?_ GE198.out|refine below_set ?_ GE199.out|refine below_set ?_ GE204.out|refine below_set ?_ GE208.out)|exact HB.out)⟩⟩
                    case rest =>
                     clear HC73
                     try clear c1
                     try clear p1
                     try clear q1
                     try clear hx1
                     try clear c2
                     try clear p2
                     try clear q2
                     try clear hx2
                     try clear c3
                     try clear c4
                     try clear c6
                     try clear p6
                     try clear c7
                     try clear c8
                     try clear c10
                     try clear c10b0
                     try clear c11
                     try clear c11b0
                     try clear p12
                     try clear q12
                     try clear hx12
                     try clear c14
                     try clear c14b0
                     try clear c14b1
                     try clear c16
                     try clear c16b0
                     try clear c17
                     try clear c17b0
                     try clear p18
                     try clear q18
                     try clear hx18
                     try clear c19
                     try clear c19b0
                     try clear c19b1
                     try clear c20
                     try clear p20
                     try clear q20
                     try clear hx20
                     try clear c21
                     try clear c23
                     try clear c25
                     try clear c25b0
                     try clear c25b1
                     try clear c27
                     try clear c28
                     try clear c31
                     try clear c34
                     try clear c34b0
                     try clear c34b1
                     try clear c35
                     try clear c35b0
                     try clear c35b1
                     try clear c36
                     try clear c36b0
                     try clear c36b1
                     try clear c37
                     try clear c37b0
                     try clear c37b1
                     try clear c39
                     try clear c39b0
                     try clear c39b1
                     try clear c40
                     try clear c40b0
                     try clear c40b1
                     try clear c41
                     try clear c41b0
                     try clear c41b1
                     try clear c45
                     try clear c46
                     try clear c47
                     try clear c48
                     try clear c49
                     try clear p64
                     try clear c66
                     try clear c67
                     try clear c68
                     try clear c69
                     try clear c72
                     try clear c72b0
                     try clear c72b1
                     try clear c74
                     try clear c75
                     try clear c76
                     try clear c77
                     try clear c78
                     try clear hcz29_0
                     try clear hcz29_1
                     try clear hcz29_2
                     try clear hcz32_0
                     try clear hcz32_1
                     try clear hcz32_2
                     try clear hcz50_0
                     try clear hcz50_1
                     try clear hcz5_0
                     try clear hcz5_1
                     try clear hcz5_2
                     try clear hcz70_0
                     try clear hcz70_1
                     try clear hcz70_2
                     try clear hcz70_3
                     try clear hcz70_4
                     try clear hcz70_5
                     try clear hcz79_0
                     try clear hcz79_1
                     try clear hcz79_2
                     try clear hcz79_3
                     try clear hcz79_4
                     try clear hcz79_5
                     try clear hcz9_0
                     try clear hcz9_1
                     try clear hcz9_2
                     try clear hfz29_0
                     try clear hfz29_1
                     try clear hfz29_2
                     try clear hfz32_0
                     try clear hfz32_1
                     try clear hfz32_2
                     try clear hfz50_0
                     try clear hfz50_1
                     try clear hfz5_0
                     try clear hfz5_1
                     try clear hfz5_2
                     try clear hfz70_0
                     try clear hfz70_1
                     try clear hfz70_2
                     try clear hfz70_3
                     try clear hfz70_4
                     try clear hfz70_5
                     try clear hfz79_0
                     try clear hfz79_1
                     try clear hfz79_2
                     try clear hfz79_3
                     try clear hfz79_4
                     try clear hfz79_5
                     try clear hfz9_0
                     try clear hfz9_1
                     try clear hfz9_2
                     try clear p1
                     try clear p12
                     try clear p18
                     try clear p2
                     try clear p20
                     try clear p6
                     try clear p64
                     try clear q1
                     try clear q12
                     try clear q18
                     try clear q2
                     try clear q20
                     obtain ⟨kq, x209000_72, HA, HJ72, HO_199000, BK197, BK198, BK199, BK204, BK208, HB⟩ := hcut
                     cases kq with
                     | zero => exact absurd HA.out (by simp [colophonref10_Find.j4])
                     | succ kj72 =>
                      have H := HA.out
                      clear HA
                      simp only [colophonref10_Find.j4] at H
                      have H' := Aside0.mk H
                      clear H
                      go_wp2
                      go_loopg [] kj72 (fun kq w' => ∃ (x209001_6 : ByteArray), Aside0 (colophonref10_Find.l1 kq a0 t201 x199000_1 x199001_1 x199002_1 t205 t206 t207 t202 t203 x209000_72 x209001_6 t205 t206 t207 x5_12 = some (r1, r2, r3)) ∧ Aside0 (kq ≤ kj72) ∧ Aside0 (Kd.R k35 35 w' w.heap.size (fun k_ => k_ ≠ gb208) u199000 x199000_1) ∧ Aside0 (w'.heap[gb197]? = some (.cells #[(.slice none 0 0), .int .i64 x198001_1, .int .i64 x198002_1] 47 (0, 0))) ∧ Aside0 (w'.heap[gb198]? = some (.cells #[u199000, .int .i64 x199001_1, .int .i64 x199002_1] 47 (0, 0))) ∧ Aside0 (w'.heap[gb199]? = some (.cells #[.int .i64 t205, .int .i64 t206, .int .i64 t207] 26 (0, 0))) ∧ Aside0 (w'.heap[gb204]? = some (.cells #[.int .i64 t202, .int .i64 t203] 66 (0, 0))) ∧ Aside0 (w'.heap[gb208]? = some (.cells #[.int .u8 x209000_72, .string x209001_6, .int .i64 t205, .int .i64 t206, .int .i64 t207, .int .i64 x5_12] 35 (0, 0))) ∧ Aside0 (Below w.heap.size w w'))
                      case atStart => exact ⟨((a0.extract (x6_1 : Int).toNat (t202 : Int).toNat)), H', ⟨Nat.le_refl _⟩, ⟨by (with_reducible repeat (first|apply Kd.R_alloc|apply Kd.R_drewN|apply Kd.R_drew)); exact HO_199000.out⟩, ⟨by (with_reducible repeat (first|refine blk_drewN ?_ _|refine blk_drew ?_|refine blk_alloc ?_ _)); exact BK197.out⟩, ⟨by (with_reducible repeat (first|refine blk_drewN ?_ _|refine blk_drew ?_|refine blk_alloc ?_ _)); exact BK198.out⟩, ⟨by (with_reducible repeat (first|refine blk_drewN ?_ _|refine blk_drew ?_|refine blk_alloc ?_ _)); exact BK199.out⟩, ⟨by (with_reducible repeat (first|refine blk_drewN ?_ _|refine blk_drew ?_|refine blk_alloc ?_ _)); exact BK204.out⟩, ⟨by (with_reducible repeat (first|refine blk_drewN ?_ _|refine blk_drew ?_|refine blk_alloc ?_ _)); exact BK208.out⟩, ⟨by repeat (first|(with_reducible first|exact HB.out|apply below_alloc|apply pw_below_drewN|apply below_drew1|refine below_set ?_ GE197.out|refine below_set ?_ GE198.out|refine below_set ?_ GE199.out|refine below_set ?_ GE204.out|refine below_set ?_ GE208.out)|exact HB.out)⟩⟩
                      case round =>
                       clear H'
                       try clear c1
                       try clear p1
                       try clear q1
                       try clear hx1
                       try clear c2
                       try clear p2
                       try clear q2
                       try clear hx2
                       try clear c3
                       try clear c4
                       try clear c6
                       try clear p6
                       try clear c7
                       try clear c8
                       try clear c10
                       try clear c10b0
                       try clear c11
                       try clear c11b0
                       try clear p12
                       try clear q12
                       try clear hx12
                       try clear c14
                       try clear c14b0
                       try clear c14b1
                       try clear c16
                       try clear c16b0
                       try clear c17
                       try clear c17b0
                       try clear p18
                       try clear q18
                       try clear hx18
                       try clear c19
                       try clear c19b0
                       try clear c19b1
                       try clear c20
                       try clear p20
                       try clear q20
                       try clear hx20
                       try clear c21
                       try clear c23
                       try clear c25
                       try clear c25b0
                       try clear c25b1
                       try clear c27
                       try clear c28
                       try clear c31
                       try clear c34
                       try clear c34b0
                       try clear c34b1
                       try clear c35
                       try clear c35b0
                       try clear c35b1
                       try clear c36
                       try clear c36b0
                       try clear c36b1
                       try clear c37
                       try clear c37b0
                       try clear c37b1
                       try clear c39
                       try clear c39b0
                       try clear c39b1
                       try clear c40
                       try clear c40b0
                       try clear c40b1
                       try clear c41
                       try clear c41b0
                       try clear c41b1
                       try clear c45
                       try clear c46
                       try clear c47
                       try clear c48
                       try clear c49
                       try clear p64
                       try clear c66
                       try clear c67
                       try clear c68
                       try clear c69
                       try clear c72
                       try clear c72b0
                       try clear c72b1
                       try clear c74
                       try clear c75
                       try clear c76
                       try clear c77
                       try clear c78
                       try clear hcz29_0
                       try clear hcz29_1
                       try clear hcz29_2
                       try clear hcz32_0
                       try clear hcz32_1
                       try clear hcz32_2
                       try clear hcz50_0
                       try clear hcz50_1
                       try clear hcz5_0
                       try clear hcz5_1
                       try clear hcz5_2
                       try clear hcz70_0
                       try clear hcz70_1
                       try clear hcz70_2
                       try clear hcz70_3
                       try clear hcz70_4
                       try clear hcz70_5
                       try clear hcz79_0
                       try clear hcz79_1
                       try clear hcz79_2
                       try clear hcz79_3
                       try clear hcz79_4
                       try clear hcz79_5
                       try clear hcz9_0
                       try clear hcz9_1
                       try clear hcz9_2
                       try clear hfz29_0
                       try clear hfz29_1
                       try clear hfz29_2
                       try clear hfz32_0
                       try clear hfz32_1
                       try clear hfz32_2
                       try clear hfz50_0
                       try clear hfz50_1
                       try clear hfz5_0
                       try clear hfz5_1
                       try clear hfz5_2
                       try clear hfz70_0
                       try clear hfz70_1
                       try clear hfz70_2
                       try clear hfz70_3
                       try clear hfz70_4
                       try clear hfz70_5
                       try clear hfz79_0
                       try clear hfz79_1
                       try clear hfz79_2
                       try clear hfz79_3
                       try clear hfz79_4
                       try clear hfz79_5
                       try clear hfz9_0
                       try clear hfz9_1
                       try clear hfz9_2
                       try clear p1
                       try clear p12
                       try clear p18
                       try clear p2
                       try clear p20
                       try clear p6
                       try clear p64
                       try clear q1
                       try clear q12
                       try clear q18
                       try clear q2
                       try clear q20
                       obtain ⟨x209001_6, HA, HK6, HO_199000, BK197, BK198, BK199, BK204, BK208, HB⟩ := hrel
                       cases gk with
                       | zero => exact absurd HA.out (by simp [colophonref10_Find.l1])
                       | succ k6 =>
                        have H := HA.out
                        clear HA
                        simp only [colophonref10_Find.l1] at H
                        by_cases c80 : t201 = 7
                        ·rw [if_pos c80] at H
                         have c80b0 : (t201 == 7) = true := beq_iff_eq.mpr c80
                         have c80b1 : (t201 != 7) = false := bne_eq_false_iff_eq.mpr c80
                         clear c80
                         obtain ⟨ji81, hji81⟩ : ∃ j_ : Int, (wrap64 ((x209001_6.size : Int) - 1)) = j_ := ⟨_, rfl⟩
                         replace H : (if 0 ≤ (ji81) then (if (ji81) < (x209001_6.size : Int) then ((colophonref10_blank.f (bt x209001_6 (ji81))).bind fun t210 => (if t210 = true then (if (ji81) ≤ (x209001_6.size : Int) then (colophonref10_Find.l1 k6 a0 t201 x199000_1 x199001_1 x199002_1 t205 t206 t207 t202 t203 x209000_72 (x209001_6.extract 0 ((ji81) : Int).toNat) t205 t206 t207 x5_12) else (none)) else (if x199000_1.length < 2513169434916 then (colophonref10_Find.l0 k6 a0 0 t202 (x199000_1 ++ [(⟨x209000_72, x209001_6, (⟨t205, t206, t207⟩ : S26), x5_12⟩ : S35)]) x199001_1 x199002_1 t205 t206 t207) else (none)))) else (none)) else (none)) = some (r1, r2, r3) := by first|(rw [hji81] at H; exact H)|(simp only [hji81] at H ⊢; exact H)
                         have hji81w : (IntKind.i64.wrap ((x209001_6.size : Int) - 1)) = ji81 := (i64_w _).trans hji81
                         by_cases c82 : 0 ≤ (ji81)
                         ·rw [if_pos c82] at H
                          have c82b0 : decide (0 ≤ (ji81)) = true := decide_eq_true c82
                          clear c82
                          by_cases c83 : (ji81) < (x209001_6.size : Int)
                          ·rw [if_pos c83] at H
                           have c83b0 : decide ((ji81) < (x209001_6.size : Int)) = true := decide_eq_true c83
                           clear c83
                           replace H := Option.bind_eq_some_iff.mp H
                           obtain ⟨t210, A850, H⟩ := H
                           replace H : (if t210 = true then (if (ji81) ≤ (x209001_6.size : Int) then (colophonref10_Find.l1 k6 a0 t201 x199000_1 x199001_1 x199002_1 t205 t206 t207 t202 t203 x209000_72 (x209001_6.extract 0 ((ji81) : Int).toNat) t205 t206 t207 x5_12) else (none)) else (if x199000_1.length < 2513169434916 then (colophonref10_Find.l0 k6 a0 0 t202 (x199000_1 ++ [(⟨x209000_72, x209001_6, (⟨t205, t206, t207⟩ : S26), x5_12⟩ : S35)]) x199001_1 x199002_1 t205 t206 t207) else (none))) = some (r1, r2, r3) := H
                           have A85 := Aside0.mk A850
                           clear A850
                           by_cases c86 : t210 = true
                           ·subst c86
                            have H1 : (if (ji81) ≤ (x209001_6.size : Int) then (colophonref10_Find.l1 k6 a0 t201 x199000_1 x199001_1 x199002_1 t205 t206 t207 t202 t203 x209000_72 (x209001_6.extract 0 ((ji81) : Int).toNat) t205 t206 t207 x5_12) else (none)) = some (r1, r2, r3) := by rw [if_pos rfl] at H; exact H
                            clear H
                            have H := H1
                            clear H1
                            have c87b0 := eq_true (of_decide_eq_true (by first|(with_reducible assumption)|assumption) : 0 ≤ (ji81))
                            by_cases c88 : (ji81) ≤ (x209001_6.size : Int)
                            ·rw [if_pos c88] at H
                             have c88b0 := eq_true c88
                             have c88b1 : decide ((ji81) ≤ (x209001_6.size : Int)) = true := decide_eq_true c88
                             clear c88
                             have H' := Aside0.mk H
                             clear H
                             have hnb89 := NB208_197.out
                             have hnc89 := NB197_208.out
                             have hnb90 := NB208_198.out
                             have hnc90 := NB198_208.out
                             have hnb91 := NB208_199.out
                             have hnc91 := NB199_208.out
                             have hnb92 := NB208_204.out
                             have hnc92 := NB204_208.out
                             have hcz93_0 : wr.cell? ⟨gb208, 0, none⟩ = some (.int .u8 x209000_72) := (blk_cell BK208.out 0).trans rfl
                             have hcz93_1 : wr.cell? ⟨gb208, 1, none⟩ = some (.string x209001_6) := (blk_cell BK208.out 1).trans rfl
                             have hcz93_2 : wr.cell? ⟨gb208, 2, none⟩ = some (.int .i64 t205) := (blk_cell BK208.out 2).trans rfl
                             have hcz93_3 : wr.cell? ⟨gb208, 3, none⟩ = some (.int .i64 t206) := (blk_cell BK208.out 3).trans rfl
                             have hcz93_4 : wr.cell? ⟨gb208, 4, none⟩ = some (.int .i64 t207) := (blk_cell BK208.out 4).trans rfl
                             have hcz93_5 : wr.cell? ⟨gb208, 5, none⟩ = some (.int .i64 x5_12) := (blk_cell BK208.out 5).trans rfl
                             have hfz93_0 := blk_frozen BK208.out 0
                             have hfz93_1 := blk_frozen BK208.out 1
                             have hfz93_2 := blk_frozen BK208.out 2
                             have hfz93_3 := blk_frozen BK208.out 3
                             have hfz93_4 := blk_frozen BK208.out 4
                             have hfz93_5 := blk_frozen BK208.out 5
                             have p84 : 0 ≤ ((ji81) : Int) := of_decide_eq_true (by first|(with_reducible assumption)|assumption)
                             have q84 : (ji81) < (x209001_6.size : Int) := of_decide_eq_true (by first|(with_reducible assumption)|assumption)
                             have hx84 := bt_at x209001_6 (ji81)
                             replace p84 := eq_true p84
                             replace q84 := eq_true q84
                             go_wp2_with (first|(go_at_call 44;(with_reducible refine (colophonref10_blank.calls (bt x209001_6 (ji81)) true _ A85.out).mono ?_);rintro e w94 ⟨rfl,hb⟩;have n0_:=Aside0.mk (Kd.R_below (by (with_reducible repeat (first|apply Kd.R_alloc|apply Kd.R_drewN|apply Kd.R_drew));exact HO_199000.out) hb);have n1_:=Aside0.mk (blk_below (g:=gb197) (o:=.cells #[.slice none 0 0,.int .i64 x198001_1,.int .i64 x198002_1] 47 (0,0)) (by (with_reducible repeat (first|refine blk_drewN ?_ _|refine blk_drew ?_|refine blk_alloc ?_ _));exact BK197.out) hb);have n2_:=Aside0.mk (blk_below (g:=gb198) (o:=.cells #[u199000,.int .i64 x199001_1,.int .i64 x199002_1] 47 (0,0)) (by (with_reducible repeat (first|refine blk_drewN ?_ _|refine blk_drew ?_|refine blk_alloc ?_ _));exact BK198.out) hb);have n3_:=Aside0.mk (blk_below (g:=gb199) (o:=.cells #[.int .i64 t205,.int .i64 t206,.int .i64 t207] 26 (0,0)) (by (with_reducible repeat (first|refine blk_drewN ?_ _|refine blk_drew ?_|refine blk_alloc ?_ _));exact BK199.out) hb);have n4_:=Aside0.mk (blk_below (g:=gb204) (o:=.cells #[.int .i64 t202,.int .i64 t203] 66 (0,0)) (by (with_reducible repeat (first|refine blk_drewN ?_ _|refine blk_drew ?_|refine blk_alloc ?_ _));exact BK204.out) hb);have n5_:=Aside0.mk (blk_below (g:=gb208) (o:=.cells #[.int .u8 x209000_72,.string x209001_6,.int .i64 t205,.int .i64 t206,.int .i64 t207,.int .i64 x5_12] 35 (0,0)) (by (with_reducible repeat (first|refine blk_drewN ?_ _|refine blk_drew ?_|refine blk_alloc ?_ _));exact BK208.out) hb);have n6_:=Aside0.mk (below_step (by repeat (first|(with_reducible first|exact HB.out|apply below_alloc|apply pw_below_drewN|apply below_drew1|refine below_set ?_ GE197.out|refine below_set ?_ GE198.out|refine below_set ?_ GE199.out|refine below_set ?_ GE204.out|refine below_set ?_ GE208.out)|exact HB.out)) hb);clear HO_199000;clear BK197;clear BK198;clear BK199;clear BK204;clear BK208;clear HB;have HO_199000:=n0_;have BK197:=n1_;have BK198:=n2_;have BK199:=n3_;have BK204:=n4_;have BK208:=n5_;have HB:=n6_;clear n0_ n1_ n2_ n3_ n4_ n5_ n6_;(try clear hb);(try clear hb2);(try clear hk);(try clear hi);have hcz95_0 : w94.cell? ⟨gb208,0,none⟩ = some (.int .u8 x209000_72):=(blk_cell BK208.out 0).trans rfl;have hcz95_1 : w94.cell? ⟨gb208,1,none⟩ = some (.string x209001_6):=(blk_cell BK208.out 1).trans rfl;have hcz95_2 : w94.cell? ⟨gb208,2,none⟩ = some (.int .i64 t205):=(blk_cell BK208.out 2).trans rfl;have hcz95_3 : w94.cell? ⟨gb208,3,none⟩ = some (.int .i64 t206):=(blk_cell BK208.out 3).trans rfl;have hcz95_4 : w94.cell? ⟨gb208,4,none⟩ = some (.int .i64 t207):=(blk_cell BK208.out 4).trans rfl;have hcz95_5 : w94.cell? ⟨gb208,5,none⟩ = some (.int .i64 x5_12):=(blk_cell BK208.out 5).trans rfl;have hfz95_0:=blk_frozen BK208.out 0;have hfz95_1:=blk_frozen BK208.out 1;have hfz95_2:=blk_frozen BK208.out 2;have hfz95_3:=blk_frozen BK208.out 3;have hfz95_4:=blk_frozen BK208.out 4;have hfz95_5:=blk_frozen BK208.out 5))
                             go_roundg k6
                             case measure => have := HK1.out; have := HJ12.out; have := HJ14.out; have := HJ42.out; have := HJ72.out; have := HK6.out; omega
                             case rel => exact ⟨(x209001_6.extract 0 ((ji81) : Int).toNat),H',⟨by have:=HK1.out;have:=HJ12.out;have:=HJ14.out;have:=HJ42.out;have:=HJ72.out;have:=HK6.out;omega⟩,⟨by (with_reducible repeat (first|apply Kd.R_alloc|apply Kd.R_drewN|apply Kd.R_drew));exact Kd.R_mono (Kd.R_far (p:=⟨gb208,1,none⟩) (Kd.R_mono HO_199000.out (fun k_ hk => (⟨hk,hk⟩ : _ ∧ k_ ≠ gb208))) (fun _ hk => hk.2) (.string (x209001_6.extract 0 ((ji81) : Int).toNat))) (fun _ hk => hk.1)⟩,⟨by (with_reducible repeat (first|refine blk_drewN ?_ _|refine blk_drew ?_|refine blk_alloc ?_ _));refine blk_far ?_ NB197_208.out _;(with_reducible repeat (first|refine blk_drewN ?_ _|refine blk_drew ?_|refine blk_alloc ?_ _));exact BK197.out⟩,⟨by (with_reducible repeat (first|refine blk_drewN ?_ _|refine blk_drew ?_|refine blk_alloc ?_ _));refine blk_far ?_ NB198_208.out _;(with_reducible repeat (first|refine blk_drewN ?_ _|refine blk_drew ?_|refine blk_alloc ?_ _));exact BK198.out⟩,⟨by (with_reducible repeat (first|refine blk_drewN ?_ _|refine blk_drew ?_|refine blk_alloc ?_ _));refine blk_far ?_ NB199_208.out _;(with_reducible repeat (first|refine blk_drewN ?_ _|refine blk_drew ?_|refine blk_alloc ?_ _));exact BK199.out⟩,⟨by (with_reducible repeat (first|refine blk_drewN ?_ _|refine blk_drew ?_|refine blk_alloc ?_ _));refine blk_far ?_ NB204_208.out _;(with_reducible repeat (first|refine blk_drewN ?_ _|refine blk_drew ?_|refine blk_alloc ?_ _));exact BK204.out⟩,⟨by (with_reducible repeat (first|refine blk_drewN ?_ _|refine blk_drew ?_|refine blk_alloc ?_ _));refine blk_put (cs:=#[.int .u8 x209000_72,.string x209001_6,.int .i64 t205,.int .i64 t206,.int .i64 t207,.int .i64 x5_12]) ?_ 1 _ rfl;(with_reducible repeat (first|refine blk_drewN ?_ _|refine blk_drew ?_|refine blk_alloc ?_ _));exact BK208.out⟩,⟨by repeat (first|(with_reducible first|exact HB.out|apply below_alloc|apply pw_below_drewN|apply below_drew1|refine below_set ?_ GE197.out|refine below_set ?_ GE198.out|refine below_set ?_ GE199.out|refine below_set ?_ GE204.out|refine below_set ?_ GE208.out)|exact HB.out)⟩⟩
                            ·rw [if_neg c88] at H
                             exact absurd H (by simp)
                           ·replace c86 := Bool.eq_false_iff.mpr c86
                            subst c86
                            have H1 : (if x199000_1.length < 2513169434916 then (colophonref10_Find.l0 k6 a0 0 t202 (x199000_1 ++ [(⟨x209000_72, x209001_6, (⟨t205, t206, t207⟩ : S26), x5_12⟩ : S35)]) x199001_1 x199002_1 t205 t206 t207) else (none)) = some (r1, r2, r3) := by rw [if_neg (show ¬ (false = true) by decide)] at H; exact H
                            clear H
                            have H := H1
                            clear H1
                            by_cases c96 : x199000_1.length < 2513169434916
                            ·rw [if_pos c96] at H
                             have LMc96 := Aside0.mk c96
                             clear c96
                             obtain ⟨y211, hy211⟩ : ∃ y_ : List (S35), y_ = (x199000_1 ++ [(⟨x209000_72, x209001_6, (⟨t205, t206, t207⟩ : S26), x5_12⟩ : S35)]) := ⟨_, rfl⟩
                             replace H : (colophonref10_Find.l0 k6 a0 0 t202 y211 x199001_1 x199002_1 t205 t206 t207) = some (r1, r2, r3) := by first|(rw [hy211]; with_reducible exact H)|(have H2_ := (Option.bind_some _ _).symm.trans H; rw [hy211]; with_reducible exact H2_)|(have H2_ := (Option.bind_some _ _).symm.trans H; with_reducible exact H2_)|with_reducible exact H|(rw [hy211]; exact H)|exact H
                             have Ny211 := Aside0.mk hy211
                             clear hy211
                             have H' := Aside0.mk H
                             clear H
                             have hnb97 := NB208_197.out
                             have hnc97 := NB197_208.out
                             have hnb98 := NB208_198.out
                             have hnc98 := NB198_208.out
                             have hnb99 := NB208_199.out
                             have hnc99 := NB199_208.out
                             have hnb100 := NB208_204.out
                             have hnc100 := NB204_208.out
                             have hcz101_0 : wr.cell? ⟨gb208, 0, none⟩ = some (.int .u8 x209000_72) := (blk_cell BK208.out 0).trans rfl
                             have hcz101_1 : wr.cell? ⟨gb208, 1, none⟩ = some (.string x209001_6) := (blk_cell BK208.out 1).trans rfl
                             have hcz101_2 : wr.cell? ⟨gb208, 2, none⟩ = some (.int .i64 t205) := (blk_cell BK208.out 2).trans rfl
                             have hcz101_3 : wr.cell? ⟨gb208, 3, none⟩ = some (.int .i64 t206) := (blk_cell BK208.out 3).trans rfl
                             have hcz101_4 : wr.cell? ⟨gb208, 4, none⟩ = some (.int .i64 t207) := (blk_cell BK208.out 4).trans rfl
                             have hcz101_5 : wr.cell? ⟨gb208, 5, none⟩ = some (.int .i64 x5_12) := (blk_cell BK208.out 5).trans rfl
                             have hfz101_0 := blk_frozen BK208.out 0
                             have hfz101_1 := blk_frozen BK208.out 1
                             have hfz101_2 := blk_frozen BK208.out 2
                             have hfz101_3 := blk_frozen BK208.out 3
                             have hfz101_4 := blk_frozen BK208.out 4
                             have hfz101_5 := blk_frozen BK208.out 5
                             have p84 : 0 ≤ ((ji81) : Int) := of_decide_eq_true (by first|(with_reducible assumption)|assumption)
                             have q84 : (ji81) < (x209001_6.size : Int) := of_decide_eq_true (by first|(with_reducible assumption)|assumption)
                             have hx84 := bt_at x209001_6 (ji81)
                             replace p84 := eq_true p84
                             replace q84 := eq_true q84
                             go_wp2_with (first|(go_at_call 44;(with_reducible refine (colophonref10_blank.calls (bt x209001_6 (ji81)) false _ A85.out).mono ?_);rintro e w102 ⟨rfl,hb⟩;have n0_:=Aside0.mk (Kd.R_below (by (with_reducible repeat (first|apply Kd.R_alloc|apply Kd.R_drewN|apply Kd.R_drew));exact HO_199000.out) hb);have n1_:=Aside0.mk (blk_below (g:=gb197) (o:=.cells #[.slice none 0 0,.int .i64 x198001_1,.int .i64 x198002_1] 47 (0,0)) (by (with_reducible repeat (first|refine blk_drewN ?_ _|refine blk_drew ?_|refine blk_alloc ?_ _));exact BK197.out) hb);have n2_:=Aside0.mk (blk_below (g:=gb198) (o:=.cells #[u199000,.int .i64 x199001_1,.int .i64 x199002_1] 47 (0,0)) (by (with_reducible repeat (first|refine blk_drewN ?_ _|refine blk_drew ?_|refine blk_alloc ?_ _));exact BK198.out) hb);have n3_:=Aside0.mk (blk_below (g:=gb199) (o:=.cells #[.int .i64 t205,.int .i64 t206,.int .i64 t207] 26 (0,0)) (by (with_reducible repeat (first|refine blk_drewN ?_ _|refine blk_drew ?_|refine blk_alloc ?_ _));exact BK199.out) hb);have n4_:=Aside0.mk (blk_below (g:=gb204) (o:=.cells #[.int .i64 t202,.int .i64 t203] 66 (0,0)) (by (with_reducible repeat (first|refine blk_drewN ?_ _|refine blk_drew ?_|refine blk_alloc ?_ _));exact BK204.out) hb);have n5_:=Aside0.mk (blk_below (g:=gb208) (o:=.cells #[.int .u8 x209000_72,.string x209001_6,.int .i64 t205,.int .i64 t206,.int .i64 t207,.int .i64 x5_12] 35 (0,0)) (by (with_reducible repeat (first|refine blk_drewN ?_ _|refine blk_drew ?_|refine blk_alloc ?_ _));exact BK208.out) hb);have n6_:=Aside0.mk (below_step (by repeat (first|(with_reducible first|exact HB.out|apply below_alloc|apply pw_below_drewN|apply below_drew1|refine below_set ?_ GE197.out|refine below_set ?_ GE198.out|refine below_set ?_ GE199.out|refine below_set ?_ GE204.out|refine below_set ?_ GE208.out)|exact HB.out)) hb);clear HO_199000;clear BK197;clear BK198;clear BK199;clear BK204;clear BK208;clear HB;have HO_199000:=n0_;have BK197:=n1_;have BK198:=n2_;have BK199:=n3_;have BK204:=n4_;have BK208:=n5_;have HB:=n6_;clear n0_ n1_ n2_ n3_ n4_ n5_ n6_;(try clear hb);(try clear hb2);(try clear hk);(try clear hi);have hnb103:=NB198_197.out;have hnc103:=NB197_198.out;have hnb104:=NB198_199.out;have hnc104:=NB199_198.out;have hnb105:=NB198_204.out;have hnc105:=NB204_198.out;have hcz106_0 : w102.cell? ⟨gb198,0,none⟩ = some (u199000):=(blk_cell BK198.out 0).trans rfl;have hcz106_1 : w102.cell? ⟨gb198,1,none⟩ = some (.int .i64 x199001_1):=(blk_cell BK198.out 1).trans rfl;have hcz106_2 : w102.cell? ⟨gb198,2,none⟩ = some (.int .i64 x199002_1):=(blk_cell BK198.out 2).trans rfl;have hfz106_0:=blk_frozen BK198.out 0;have hfz106_1:=blk_frozen BK198.out 1;have hfz106_2:=blk_frozen BK198.out 2;have hcz107_0 : w102.cell? ⟨gb208,0,none⟩ = some (.int .u8 x209000_72):=(blk_cell BK208.out 0).trans rfl;have hcz107_1 : w102.cell? ⟨gb208,1,none⟩ = some (.string x209001_6):=(blk_cell BK208.out 1).trans rfl;have hcz107_2 : w102.cell? ⟨gb208,2,none⟩ = some (.int .i64 t205):=(blk_cell BK208.out 2).trans rfl;have hcz107_3 : w102.cell? ⟨gb208,3,none⟩ = some (.int .i64 t206):=(blk_cell BK208.out 3).trans rfl;have hcz107_4 : w102.cell? ⟨gb208,4,none⟩ = some (.int .i64 t207):=(blk_cell BK208.out 4).trans rfl;have hcz107_5 : w102.cell? ⟨gb208,5,none⟩ = some (.int .i64 x5_12):=(blk_cell BK208.out 5).trans rfl;have hfz107_0:=blk_frozen BK208.out 0;have hfz107_1:=blk_frozen BK208.out 1;have hfz107_2:=blk_frozen BK208.out 2;have hfz107_3:=blk_frozen BK208.out 3;have hfz107_4:=blk_frozen BK208.out 4;have hfz107_5:=blk_frozen BK208.out 5)|((with_reducible refine gate_builtin (b:=.append) (xs:=#[.tmp 104,.tmp 106]) rfl ?_);(try (refine gate_guard (by rfl) ?_;dsimp only));at_builtin;refine Kd.R_append k35 (w0:=w) w.heap.size rfl (.tmp 104) (.tmp 106) 23 35 (.agg #[(.int .u8 0),(.string ⟨#[]⟩),(.int .i64 0),(.int .i64 0),(.int .i64 0),(.int .i64 0)]) 56 rfl Tryd.underlying23 info35 rfl (by decide) (by omega) u199000 x199000_1 (⟨x209000_72,x209001_6,(⟨t205,t206,t207⟩ : S26),x5_12⟩ : S35) [.int .u8 x209000_72,.string x209001_6,.int .i64 t205,.int .i64 t206,.int .i64 t207,.int .i64 x5_12] (fun k_ => k_ ≠ gb208) (fun _ => False) rfl rfl ?aP (fun _ hk => hk.elim) ?aF ?aO ?aB ?aS ?aL ?_;(case aP => exact k35_mkM _ _ _ (⟨x209000_72,x209001_6,(⟨t205,t206,t207⟩ : S26),x5_12⟩ : S35));(case aB => exact (by repeat (first|(with_reducible first|exact HB.out|apply below_alloc|apply pw_below_drewN|apply below_drew1|refine below_set ?_ GE197.out|refine below_set ?_ GE198.out|refine below_set ?_ GE199.out|refine below_set ?_ GE204.out|refine below_set ?_ GE208.out)|exact HB.out)));(case aF => exact (fun k_ hk => Kd.freshB (g:=gb208) (o:=.cells #[.int .u8 x209000_72,.string x209001_6,.int .i64 t205,.int .i64 t206,.int .i64 t207,.int .i64 x5_12] 35 (0,0)) (by (with_reducible repeat (first|refine blk_drewN ?_ _|refine blk_drew ?_|refine blk_alloc ?_ _));exact BK208.out) k_ hk));(case aO => exact (by (with_reducible repeat (first|apply Kd.R_alloc|apply Kd.R_drewN|apply Kd.R_drew));exact HO_199000.out));(case aS => exact (below_size (by repeat (first|(with_reducible first|exact HB.out|apply below_alloc|apply pw_below_drewN|apply below_drew1|refine below_set ?_ GE197.out|refine below_set ?_ GE198.out|refine below_set ?_ GE199.out|refine below_set ?_ GE204.out|refine below_set ?_ GE208.out)|exact HB.out))));(case aL => have:=LMc96.out;omega);intro v212 w108 ho hb hg hat;rw [← Ny211.out] at ho;have n0_:=Aside0.mk (blk_grown (g:=gb197) (o:=.cells #[.slice none 0 0,.int .i64 x198001_1,.int .i64 x198002_1] 47 (0,0)) (by (with_reducible repeat (first|refine blk_drewN ?_ _|refine blk_drew ?_|refine blk_alloc ?_ _));exact BK197.out) hg (Kd.R_ne HO_199000.out BK197.out (by decide)));have n1_:=Aside0.mk (blk_grown (g:=gb198) (o:=.cells #[u199000,.int .i64 x199001_1,.int .i64 x199002_1] 47 (0,0)) (by (with_reducible repeat (first|refine blk_drewN ?_ _|refine blk_drew ?_|refine blk_alloc ?_ _));exact BK198.out) hg (Kd.R_ne HO_199000.out BK198.out (by decide)));have n2_:=Aside0.mk (blk_grown (g:=gb199) (o:=.cells #[.int .i64 t205,.int .i64 t206,.int .i64 t207] 26 (0,0)) (by (with_reducible repeat (first|refine blk_drewN ?_ _|refine blk_drew ?_|refine blk_alloc ?_ _));exact BK199.out) hg (Kd.R_ne HO_199000.out BK199.out (by decide)));have n3_:=Aside0.mk (blk_grown (g:=gb204) (o:=.cells #[.int .i64 t202,.int .i64 t203] 66 (0,0)) (by (with_reducible repeat (first|refine blk_drewN ?_ _|refine blk_drew ?_|refine blk_alloc ?_ _));exact BK204.out) hg (Kd.R_ne HO_199000.out BK204.out (by decide)));have n4_:=Aside0.mk (blk_grown (g:=gb208) (o:=.cells #[.int .u8 x209000_72,.string x209001_6,.int .i64 t205,.int .i64 t206,.int .i64 t207,.int .i64 x5_12] 35 (0,0)) (by (with_reducible repeat (first|refine blk_drewN ?_ _|refine blk_drew ?_|refine blk_alloc ?_ _));exact BK208.out) hg (Kd.R_away HO_199000.out (fun _ hk => hk)));have n5_:=Aside0.mk (hb);have n6_:=Aside0.mk (ho);clear BK197;clear BK198;clear BK199;clear BK204;clear BK208;clear HB;clear HO_199000;have BK197:=n0_;have BK198:=n1_;have BK199:=n2_;have BK204:=n3_;have BK208:=n4_;have HB:=n5_;have HO213:=n6_;clear n0_ n1_ n2_ n3_ n4_ n5_ n6_;clear ho hb hg hat;obtain ⟨Ao109,co109,eo109⟩:=Kd.R_slice HO213.out;subst eo109;have hcz110_0 : w108.cell? ⟨gb198,0,none⟩ = some (u199000):=(blk_cell BK198.out 0).trans rfl;have hcz110_1 : w108.cell? ⟨gb198,1,none⟩ = some (.int .i64 x199001_1):=(blk_cell BK198.out 1).trans rfl;have hcz110_2 : w108.cell? ⟨gb198,2,none⟩ = some (.int .i64 x199002_1):=(blk_cell BK198.out 2).trans rfl;have hfz110_0:=blk_frozen BK198.out 0;have hfz110_1:=blk_frozen BK198.out 1;have hfz110_2:=blk_frozen BK198.out 2;have hnb111:=NB204_197.out;have hnc111:=NB197_204.out;have hnb112:=NB204_199.out;have hnc112:=NB199_204.out;have hcz113_0 : w108.cell? ⟨gb204,0,none⟩ = some (.int .i64 t202):=(blk_cell BK204.out 0).trans rfl;have hcz113_1 : w108.cell? ⟨gb204,1,none⟩ = some (.int .i64 t203):=(blk_cell BK204.out 1).trans rfl;have hfz113_0:=blk_frozen BK204.out 0;have hfz113_1:=blk_frozen BK204.out 1))
                             go_roundg k6
                             case measure => have := HK1.out; have := HJ12.out; have := HJ14.out; have := HJ42.out; have := HJ72.out; have := HK6.out; omega
                             case rel => exact ⟨(0),(t202),(x198001_1),(x198002_1),(y211),(x199001_1),(x199002_1),(t205),(t206),(t207),(.slice Ao109 y211.length co109),(by first|rfl|(simp;done)|(simp [*];done)),(by first|rfl|(simp;done)|(simp [*];done)),H',⟨by have:=HK1.out;have:=HJ12.out;have:=HJ14.out;have:=HJ42.out;have:=HJ72.out;have:=HK6.out;omega⟩,⟨by (with_reducible repeat (first|apply Kd.R_alloc|apply Kd.R_drewN|apply Kd.R_drew));exact Kd.R_mono (Kd.R_far (p:=⟨gb198,0,none⟩) (Kd.R_types HO213.out BK198.out (by decide)) (fun _ hk => hk.2) (.slice Ao109 y211.length co109)) (fun _ hk => trivial)⟩,⟨by (with_reducible repeat (first|refine blk_drewN ?_ _|refine blk_drew ?_|refine blk_alloc ?_ _));refine blk_far ?_ NB197_198.out _;(with_reducible repeat (first|refine blk_drewN ?_ _|refine blk_drew ?_|refine blk_alloc ?_ _));exact BK197.out⟩,⟨by (with_reducible repeat (first|refine blk_drewN ?_ _|refine blk_drew ?_|refine blk_alloc ?_ _));refine blk_put (cs:=#[u199000,.int .i64 x199001_1,.int .i64 x199002_1]) ?_ 0 _ rfl;(with_reducible repeat (first|refine blk_drewN ?_ _|refine blk_drew ?_|refine blk_alloc ?_ _));exact BK198.out⟩,⟨by (with_reducible repeat (first|refine blk_drewN ?_ _|refine blk_drew ?_|refine blk_alloc ?_ _));refine blk_far ?_ NB199_198.out _;(with_reducible repeat (first|refine blk_drewN ?_ _|refine blk_drew ?_|refine blk_alloc ?_ _));exact BK199.out⟩,⟨by repeat (first|(with_reducible first|exact HB.out|apply below_alloc|apply pw_below_drewN|apply below_drew1|refine below_set ?_ GE197.out|refine below_set ?_ GE198.out|refine below_set ?_ GE199.out|refine below_set ?_ GE204.out|refine below_set ?_ GE208.out)|exact HB.out)⟩⟩
                            ·rw [if_neg c96] at H
                             exact absurd H (by simp)
                          ·rw [if_neg c83] at H
                           exact absurd H (by simp)
                         ·rw [if_neg c82] at H
                          exact absurd H (by simp)
                        ·rw [if_neg c80] at H
                         have c80b0 : (t201 == 7) = false := beq_eq_false_iff_ne.mpr c80
                         have c80b1 : (t201 != 7) = true := bne_iff_ne.mpr c80
                         by_cases c114 : x199000_1.length < 2513169434916
                         ·rw [if_pos c114] at H
                          have LMc114 := Aside0.mk c114
                          clear c114
                          obtain ⟨y214, hy214⟩ : ∃ y_ : List (S35), y_ = (x199000_1 ++ [(⟨x209000_72, x209001_6, (⟨t205, t206, t207⟩ : S26), x5_12⟩ : S35)]) := ⟨_, rfl⟩
                          replace H : (colophonref10_Find.l0 k6 a0 0 t202 y214 x199001_1 x199002_1 t205 t206 t207) = some (r1, r2, r3) := by first|(rw [hy214]; with_reducible exact H)|(have H2_ := (Option.bind_some _ _).symm.trans H; rw [hy214]; with_reducible exact H2_)|(have H2_ := (Option.bind_some _ _).symm.trans H; with_reducible exact H2_)|with_reducible exact H|(rw [hy214]; exact H)|exact H
                          have Ny214 := Aside0.mk hy214
                          clear hy214
                          have H' := Aside0.mk H
                          clear H
                          have hnb115 := NB198_197.out
                          have hnc115 := NB197_198.out
                          have hnb116 := NB198_199.out
                          have hnc116 := NB199_198.out
                          have hnb117 := NB198_204.out
                          have hnc117 := NB204_198.out
                          have hnb118 := NB198_208.out
                          have hnc118 := NB208_198.out
                          have hcz119_0 : wr.cell? ⟨gb198, 0, none⟩ = some (u199000) := (blk_cell BK198.out 0).trans rfl
                          have hcz119_1 : wr.cell? ⟨gb198, 1, none⟩ = some (.int .i64 x199001_1) := (blk_cell BK198.out 1).trans rfl
                          have hcz119_2 : wr.cell? ⟨gb198, 2, none⟩ = some (.int .i64 x199002_1) := (blk_cell BK198.out 2).trans rfl
                          have hfz119_0 := blk_frozen BK198.out 0
                          have hfz119_1 := blk_frozen BK198.out 1
                          have hfz119_2 := blk_frozen BK198.out 2
                          have hnb120 := NB208_197.out
                          have hnc120 := NB197_208.out
                          have hnb121 := NB208_199.out
                          have hnc121 := NB199_208.out
                          have hnb122 := NB208_204.out
                          have hnc122 := NB204_208.out
                          have hcz123_0 : wr.cell? ⟨gb208, 0, none⟩ = some (.int .u8 x209000_72) := (blk_cell BK208.out 0).trans rfl
                          have hcz123_1 : wr.cell? ⟨gb208, 1, none⟩ = some (.string x209001_6) := (blk_cell BK208.out 1).trans rfl
                          have hcz123_2 : wr.cell? ⟨gb208, 2, none⟩ = some (.int .i64 t205) := (blk_cell BK208.out 2).trans rfl
                          have hcz123_3 : wr.cell? ⟨gb208, 3, none⟩ = some (.int .i64 t206) := (blk_cell BK208.out 3).trans rfl
                          have hcz123_4 : wr.cell? ⟨gb208, 4, none⟩ = some (.int .i64 t207) := (blk_cell BK208.out 4).trans rfl
                          have hcz123_5 : wr.cell? ⟨gb208, 5, none⟩ = some (.int .i64 x5_12) := (blk_cell BK208.out 5).trans rfl
                          have hfz123_0 := blk_frozen BK208.out 0
                          have hfz123_1 := blk_frozen BK208.out 1
                          have hfz123_2 := blk_frozen BK208.out 2
                          have hfz123_3 := blk_frozen BK208.out 3
                          have hfz123_4 := blk_frozen BK208.out 4
                          have hfz123_5 := blk_frozen BK208.out 5
                          go_wp2_with (first|((with_reducible refine gate_builtin (b:=.append) (xs:=#[.tmp 104,.tmp 106]) rfl ?_);(try (refine gate_guard (by rfl) ?_;dsimp only));at_builtin;refine Kd.R_append k35 (w0:=w) w.heap.size rfl (.tmp 104) (.tmp 106) 23 35 (.agg #[(.int .u8 0),(.string ⟨#[]⟩),(.int .i64 0),(.int .i64 0),(.int .i64 0),(.int .i64 0)]) 56 rfl Tryd.underlying23 info35 rfl (by decide) (by omega) u199000 x199000_1 (⟨x209000_72,x209001_6,(⟨t205,t206,t207⟩ : S26),x5_12⟩ : S35) [.int .u8 x209000_72,.string x209001_6,.int .i64 t205,.int .i64 t206,.int .i64 t207,.int .i64 x5_12] (fun k_ => k_ ≠ gb208) (fun _ => False) rfl rfl ?aP (fun _ hk => hk.elim) ?aF ?aO ?aB ?aS ?aL ?_;(case aP => exact k35_mkM _ _ _ (⟨x209000_72,x209001_6,(⟨t205,t206,t207⟩ : S26),x5_12⟩ : S35));(case aB => exact (by repeat (first|(with_reducible first|exact HB.out|apply below_alloc|apply pw_below_drewN|apply below_drew1|refine below_set ?_ GE197.out|refine below_set ?_ GE198.out|refine below_set ?_ GE199.out|refine below_set ?_ GE204.out|refine below_set ?_ GE208.out)|exact HB.out)));(case aF => exact (fun k_ hk => Kd.freshB (g:=gb208) (o:=.cells #[.int .u8 x209000_72,.string x209001_6,.int .i64 t205,.int .i64 t206,.int .i64 t207,.int .i64 x5_12] 35 (0,0)) (by (with_reducible repeat (first|refine blk_drewN ?_ _|refine blk_drew ?_|refine blk_alloc ?_ _));exact BK208.out) k_ hk));(case aO => exact (by (with_reducible repeat (first|apply Kd.R_alloc|apply Kd.R_drewN|apply Kd.R_drew));exact HO_199000.out));(case aS => exact (below_size (by repeat (first|(with_reducible first|exact HB.out|apply below_alloc|apply pw_below_drewN|apply below_drew1|refine below_set ?_ GE197.out|refine below_set ?_ GE198.out|refine below_set ?_ GE199.out|refine below_set ?_ GE204.out|refine below_set ?_ GE208.out)|exact HB.out))));(case aL => have:=LMc114.out;omega);intro v215 w124 ho hb hg hat;rw [← Ny214.out] at ho;have n0_:=Aside0.mk (blk_grown (g:=gb197) (o:=.cells #[.slice none 0 0,.int .i64 x198001_1,.int .i64 x198002_1] 47 (0,0)) (by (with_reducible repeat (first|refine blk_drewN ?_ _|refine blk_drew ?_|refine blk_alloc ?_ _));exact BK197.out) hg (Kd.R_ne HO_199000.out BK197.out (by decide)));have n1_:=Aside0.mk (blk_grown (g:=gb198) (o:=.cells #[u199000,.int .i64 x199001_1,.int .i64 x199002_1] 47 (0,0)) (by (with_reducible repeat (first|refine blk_drewN ?_ _|refine blk_drew ?_|refine blk_alloc ?_ _));exact BK198.out) hg (Kd.R_ne HO_199000.out BK198.out (by decide)));have n2_:=Aside0.mk (blk_grown (g:=gb199) (o:=.cells #[.int .i64 t205,.int .i64 t206,.int .i64 t207] 26 (0,0)) (by (with_reducible repeat (first|refine blk_drewN ?_ _|refine blk_drew ?_|refine blk_alloc ?_ _));exact BK199.out) hg (Kd.R_ne HO_199000.out BK199.out (by decide)));have n3_:=Aside0.mk (blk_grown (g:=gb204) (o:=.cells #[.int .i64 t202,.int .i64 t203] 66 (0,0)) (by (with_reducible repeat (first|refine blk_drewN ?_ _|refine blk_drew ?_|refine blk_alloc ?_ _));exact BK204.out) hg (Kd.R_ne HO_199000.out BK204.out (by decide)));have n4_:=Aside0.mk (blk_grown (g:=gb208) (o:=.cells #[.int .u8 x209000_72,.string x209001_6,.int .i64 t205,.int .i64 t206,.int .i64 t207,.int .i64 x5_12] 35 (0,0)) (by (with_reducible repeat (first|refine blk_drewN ?_ _|refine blk_drew ?_|refine blk_alloc ?_ _));exact BK208.out) hg (Kd.R_away HO_199000.out (fun _ hk => hk)));have n5_:=Aside0.mk (hb);have n6_:=Aside0.mk (ho);clear BK197;clear BK198;clear BK199;clear BK204;clear BK208;clear HB;clear HO_199000;have BK197:=n0_;have BK198:=n1_;have BK199:=n2_;have BK204:=n3_;have BK208:=n4_;have HB:=n5_;have HO216:=n6_;clear n0_ n1_ n2_ n3_ n4_ n5_ n6_;clear ho hb hg hat;obtain ⟨Ao125,co125,eo125⟩:=Kd.R_slice HO216.out;subst eo125;have hcz126_0 : w124.cell? ⟨gb198,0,none⟩ = some (u199000):=(blk_cell BK198.out 0).trans rfl;have hcz126_1 : w124.cell? ⟨gb198,1,none⟩ = some (.int .i64 x199001_1):=(blk_cell BK198.out 1).trans rfl;have hcz126_2 : w124.cell? ⟨gb198,2,none⟩ = some (.int .i64 x199002_1):=(blk_cell BK198.out 2).trans rfl;have hfz126_0:=blk_frozen BK198.out 0;have hfz126_1:=blk_frozen BK198.out 1;have hfz126_2:=blk_frozen BK198.out 2;have hnb127:=NB204_197.out;have hnc127:=NB197_204.out;have hnb128:=NB204_199.out;have hnc128:=NB199_204.out;have hcz129_0 : w124.cell? ⟨gb204,0,none⟩ = some (.int .i64 t202):=(blk_cell BK204.out 0).trans rfl;have hcz129_1 : w124.cell? ⟨gb204,1,none⟩ = some (.int .i64 t203):=(blk_cell BK204.out 1).trans rfl;have hfz129_0:=blk_frozen BK204.out 0;have hfz129_1:=blk_frozen BK204.out 1))
                          go_roundg k6
                          case measure => have := HK1.out; have := HJ12.out; have := HJ14.out; have := HJ42.out; have := HJ72.out; have := HK6.out; omega
                          case rel => exact ⟨(0),(t202),(x198001_1),(x198002_1),(y214),(x199001_1),(x199002_1),(t205),(t206),(t207),(.slice Ao125 y214.length co125),(by first|rfl|(simp;done)|(simp [*];done)),(by first|rfl|(simp;done)|(simp [*];done)),H',⟨by have:=HK1.out;have:=HJ12.out;have:=HJ14.out;have:=HJ42.out;have:=HJ72.out;have:=HK6.out;omega⟩,⟨by (with_reducible repeat (first|apply Kd.R_alloc|apply Kd.R_drewN|apply Kd.R_drew));exact Kd.R_mono (Kd.R_far (p:=⟨gb198,0,none⟩) (Kd.R_types HO216.out BK198.out (by decide)) (fun _ hk => hk.2) (.slice Ao125 y214.length co125)) (fun _ hk => trivial)⟩,⟨by (with_reducible repeat (first|refine blk_drewN ?_ _|refine blk_drew ?_|refine blk_alloc ?_ _));refine blk_far ?_ NB197_198.out _;(with_reducible repeat (first|refine blk_drewN ?_ _|refine blk_drew ?_|refine blk_alloc ?_ _));exact BK197.out⟩,⟨by (with_reducible repeat (first|refine blk_drewN ?_ _|refine blk_drew ?_|refine blk_alloc ?_ _));refine blk_put (cs:=#[u199000,.int .i64 x199001_1,.int .i64 x199002_1]) ?_ 0 _ rfl;(with_reducible repeat (first|refine blk_drewN ?_ _|refine blk_drew ?_|refine blk_alloc ?_ _));exact BK198.out⟩,⟨by (with_reducible repeat (first|refine blk_drewN ?_ _|refine blk_drew ?_|refine blk_alloc ?_ _));refine blk_far ?_ NB199_198.out _;(with_reducible repeat (first|refine blk_drewN ?_ _|refine blk_drew ?_|refine blk_alloc ?_ _));exact BK199.out⟩,⟨by repeat (first|(with_reducible first|exact HB.out|apply below_alloc|apply pw_below_drewN|apply below_drew1|refine below_set ?_ GE197.out|refine below_set ?_ GE198.out|refine below_set ?_ GE199.out|refine below_set ?_ GE204.out|refine below_set ?_ GE208.out)|exact HB.out)⟩⟩
                         ·rw [if_neg c114] at H
                          exact absurd H (by simp)
                 ·rw [if_neg c41] at H
                  exact absurd H (by simp)
                ·rw [if_neg c40] at H
                 exact absurd H (by simp)
               ·rw [if_neg c39] at H
                exact absurd H (by simp)
              ·rw [if_neg c37] at H
               exact absurd H (by simp)
             ·rw [if_neg c36] at H
              exact absurd H (by simp)
            ·rw [if_neg c35] at H
             exact absurd H (by simp)
           ·rw [if_neg c34] at H
            have c34b0 : (t203 == 0) = false := beq_eq_false_iff_ne.mpr c34
            have c34b1 : (t203 != 0) = true := bne_iff_ne.mpr c34
            simp only [Option.some.injEq, Prod.mk.injEq] at H
            obtain ⟨rfl, rfl, rfl⟩ := H
            go_wp2_with (first|((with_reducible refine gate_callee (f:=45) rfl ?_);refine goesL_ (some 37) rfl rfl Tryd.func45 (by kernel_rfl) rfl #[.string a0,.int .i64 x6_1] rfl (by (try simp only [List.map_toArray,List.map_cons,List.map_nil]);first|done|rfl|(simp only [List.length_drop,List.length_take];rfl)) ?_;(with_reducible refine (colophonref10_begins.calls kj14 a0 x6_1 t201 _ A24.out).mono ?_);rintro e w130 ⟨rfl,hb⟩;refine ⟨_,rfl,?_⟩;have n0_:=Aside0.mk (Kd.R_below (by (with_reducible repeat (first|apply Kd.R_alloc|apply Kd.R_drewN|apply Kd.R_drew));exact HO_199000.out) hb);have n1_:=Aside0.mk (blk_below (g:=gb197) (o:=.cells #[.slice none 0 0,.int .i64 x198001_1,.int .i64 x198002_1] 47 (0,0)) (by (with_reducible repeat (first|refine blk_drewN ?_ _|refine blk_drew ?_|refine blk_alloc ?_ _));exact BK197.out) hb);have n2_:=Aside0.mk (blk_below (g:=gb198) (o:=.cells #[u199000,.int .i64 x199001_1,.int .i64 x199002_1] 47 (0,0)) (by (with_reducible repeat (first|refine blk_drewN ?_ _|refine blk_drew ?_|refine blk_alloc ?_ _));exact BK198.out) hb);have n3_:=Aside0.mk (blk_below (g:=gb199) (o:=.cells #[.int .i64 x200000_1,.int .i64 x200001_1,.int .i64 x200002_1] 26 (0,0)) (by (with_reducible repeat (first|refine blk_drewN ?_ _|refine blk_drew ?_|refine blk_alloc ?_ _));exact BK199.out) hb);have n4_:=Aside0.mk (below_step (by repeat (first|(with_reducible first|exact HB.out|apply below_alloc|apply pw_below_drewN|apply below_drew1|refine below_set ?_ GE197.out|refine below_set ?_ GE198.out|refine below_set ?_ GE199.out)|exact HB.out)) hb);clear HO_199000;clear BK197;clear BK198;clear BK199;clear HB;have HO_199000:=n0_;have BK197:=n1_;have BK198:=n2_;have BK199:=n3_;have HB:=n4_;clear n0_ n1_ n2_ n3_ n4_;(try clear hb);(try clear hb2);(try clear hk);(try clear hi))|((with_reducible refine gate_callee (f:=46) rfl ?_);refine goesL_ (some 47) rfl rfl Tryd.func46 (by kernel_rfl) rfl #[.string a0,.int .i64 x6_1,.int .u8 t201] rfl (by (try simp only [List.map_toArray,List.map_cons,List.map_nil]);first|done|rfl|(simp only [List.length_drop,List.length_take];rfl)) ?_;(with_reducible refine (colophonref10_ends.calls kj14 a0 x6_1 t201 t202 t203 _ A33.out).mono ?_);rintro e w131 ⟨rfl,hb⟩;refine ⟨_,rfl,?_⟩;have n0_:=Aside0.mk (Kd.R_below (by (with_reducible repeat (first|apply Kd.R_alloc|apply Kd.R_drewN|apply Kd.R_drew));exact HO_199000.out) hb);have n1_:=Aside0.mk (blk_below (g:=gb197) (o:=.cells #[.slice none 0 0,.int .i64 x198001_1,.int .i64 x198002_1] 47 (0,0)) (by (with_reducible repeat (first|refine blk_drewN ?_ _|refine blk_drew ?_|refine blk_alloc ?_ _));exact BK197.out) hb);have n2_:=Aside0.mk (blk_below (g:=gb198) (o:=.cells #[u199000,.int .i64 x199001_1,.int .i64 x199002_1] 47 (0,0)) (by (with_reducible repeat (first|refine blk_drewN ?_ _|refine blk_drew ?_|refine blk_alloc ?_ _));exact BK198.out) hb);have n3_:=Aside0.mk (blk_below (g:=gb199) (o:=.cells #[.int .i64 x200000_1,.int .i64 x200001_1,.int .i64 x200002_1] 26 (0,0)) (by (with_reducible repeat (first|refine blk_drewN ?_ _|refine blk_drew ?_|refine blk_alloc ?_ _));exact BK199.out) hb);have n4_:=Aside0.mk (below_step (by repeat (first|(with_reducible first|exact HB.out|apply below_alloc|apply pw_below_drewN|apply below_drew1|refine below_set ?_ GE197.out|refine below_set ?_ GE198.out|refine below_set ?_ GE199.out)|exact HB.out)) hb);clear HO_199000;clear BK197;clear BK198;clear BK199;clear HB;have HO_199000:=n0_;have BK197:=n1_;have BK198:=n2_;have BK199:=n3_;have HB:=n4_;clear n0_ n1_ n2_ n3_ n4_;(try clear hb);(try clear hb2);(try clear hk);(try clear hi))|((with_reducible refine gate_dst (N:=8) rfl ?_);(try (refine gate_guard (by rfl) ?_;dsimp only));refine box_event ?hg (N:=8) ?hd (cs:=#[.int .i64 0,.int .i64 0]) (t:=66) ?hr ?_;(case hd => rfl);(case hg => rfl);(case hr => first|(go_simp;done)|(go_simp;rfl));intro gb204 hg w132 hbox hb;have n0_:=Aside0.mk (Kd.R_below (by (with_reducible repeat (first|apply Kd.R_alloc|apply Kd.R_drewN|apply Kd.R_drew));exact HO_199000.out) hb);have n1_:=Aside0.mk (blk_below (g:=gb197) (o:=.cells #[.slice none 0 0,.int .i64 x198001_1,.int .i64 x198002_1] 47 (0,0)) (by (with_reducible repeat (first|refine blk_drewN ?_ _|refine blk_drew ?_|refine blk_alloc ?_ _));exact BK197.out) hb);have n2_:=Aside0.mk (blk_below (g:=gb198) (o:=.cells #[u199000,.int .i64 x199001_1,.int .i64 x199002_1] 47 (0,0)) (by (with_reducible repeat (first|refine blk_drewN ?_ _|refine blk_drew ?_|refine blk_alloc ?_ _));exact BK198.out) hb);have n3_:=Aside0.mk (blk_below (g:=gb199) (o:=.cells #[.int .i64 x200000_1,.int .i64 x200001_1,.int .i64 x200002_1] 26 (0,0)) (by (with_reducible repeat (first|refine blk_drewN ?_ _|refine blk_drew ?_|refine blk_alloc ?_ _));exact BK199.out) hb);have n4_:=Aside0.mk (below_step (by repeat (first|(with_reducible first|exact HB.out|apply below_alloc|apply pw_below_drewN|apply below_drew1|refine below_set ?_ GE197.out|refine below_set ?_ GE198.out|refine below_set ?_ GE199.out)|exact HB.out)) hb);have n5_:=Aside0.mk (hbox);have n6_:=Aside0.mk ((by rw [hg];exact (below_size (by repeat (first|(with_reducible first|exact HB.out|apply below_alloc|apply pw_below_drewN|apply below_drew1|refine below_set ?_ GE197.out|refine below_set ?_ GE198.out|refine below_set ?_ GE199.out)|exact HB.out))) : w.heap.size ≤ gb204));have n7_:=Aside0.mk ((by rw [hg];exact (below_size (by repeat (first|(with_reducible first|exact HB.out|apply below_alloc|apply pw_below_drewN|apply below_drew1|refine below_set ?_ GE197.out|refine below_set ?_ GE198.out|refine below_set ?_ GE199.out)|exact HB.out))) : w.heap.size ≤ gb204));have n8_:=Aside0.mk ((by rw [hg];exact Nat.ne_of_lt (blk_lt (g:=gb197) (o:=.cells #[.slice none 0 0,.int .i64 x198001_1,.int .i64 x198002_1] 47 (0,0)) (by (with_reducible repeat (first|refine blk_drewN ?_ _|refine blk_drew ?_|refine blk_alloc ?_ _));exact BK197.out)) : gb197 ≠ gb204));have n9_:=Aside0.mk ((by rw [hg];exact Nat.ne_of_gt (blk_lt (g:=gb197) (o:=.cells #[.slice none 0 0,.int .i64 x198001_1,.int .i64 x198002_1] 47 (0,0)) (by (with_reducible repeat (first|refine blk_drewN ?_ _|refine blk_drew ?_|refine blk_alloc ?_ _));exact BK197.out)) : gb204 ≠ gb197));have n10_:=Aside0.mk ((by rw [hg];exact Nat.ne_of_lt (blk_lt (g:=gb198) (o:=.cells #[u199000,.int .i64 x199001_1,.int .i64 x199002_1] 47 (0,0)) (by (with_reducible repeat (first|refine blk_drewN ?_ _|refine blk_drew ?_|refine blk_alloc ?_ _));exact BK198.out)) : gb198 ≠ gb204));have n11_:=Aside0.mk ((by rw [hg];exact Nat.ne_of_gt (blk_lt (g:=gb198) (o:=.cells #[u199000,.int .i64 x199001_1,.int .i64 x199002_1] 47 (0,0)) (by (with_reducible repeat (first|refine blk_drewN ?_ _|refine blk_drew ?_|refine blk_alloc ?_ _));exact BK198.out)) : gb204 ≠ gb198));have n12_:=Aside0.mk ((by rw [hg];exact Nat.ne_of_lt (blk_lt (g:=gb199) (o:=.cells #[.int .i64 x200000_1,.int .i64 x200001_1,.int .i64 x200002_1] 26 (0,0)) (by (with_reducible repeat (first|refine blk_drewN ?_ _|refine blk_drew ?_|refine blk_alloc ?_ _));exact BK199.out)) : gb199 ≠ gb204));have n13_:=Aside0.mk ((by rw [hg];exact Nat.ne_of_gt (blk_lt (g:=gb199) (o:=.cells #[.int .i64 x200000_1,.int .i64 x200001_1,.int .i64 x200002_1] 26 (0,0)) (by (with_reducible repeat (first|refine blk_drewN ?_ _|refine blk_drew ?_|refine blk_alloc ?_ _));exact BK199.out)) : gb204 ≠ gb199));clear HO_199000;clear BK197;clear BK198;clear BK199;clear HB;have HO_199000:=n0_;have BK197:=n1_;have BK198:=n2_;have BK199:=n3_;have HB:=n4_;have BK204:=n5_;have GW204:=n6_;have GE204:=n7_;have NB197_204:=n8_;have NB204_197:=n9_;have NB198_204:=n10_;have NB204_198:=n11_;have NB199_204:=n12_;have NB204_199:=n13_;clear n0_ n1_ n2_ n3_ n4_ n5_ n6_ n7_ n8_ n9_ n10_ n11_ n12_ n13_;clear hb hbox hg;have hnb133:=NB204_197.out;have hnc133:=NB197_204.out;have hnb134:=NB204_198.out;have hnc134:=NB198_204.out;have hnb135:=NB204_199.out;have hnc135:=NB199_204.out;have hcz136_0 : w132.cell? ⟨gb204,0,none⟩ = some (.int .i64 0):=(blk_cell BK204.out 0).trans rfl;have hcz136_1 : w132.cell? ⟨gb204,1,none⟩ = some (.int .i64 0):=(blk_cell BK204.out 1).trans rfl;have hfz136_0:=blk_frozen BK204.out 0;have hfz136_1:=blk_frozen BK204.out 1;have hnb137:=NB198_197.out;have hnc137:=NB197_198.out;have hnb138:=NB198_199.out;have hnc138:=NB199_198.out;have hcz139_0 : w132.cell? ⟨gb198,0,none⟩ = some (u199000):=(blk_cell BK198.out 0).trans rfl;have hcz139_1 : w132.cell? ⟨gb198,1,none⟩ = some (.int .i64 x199001_1):=(blk_cell BK198.out 1).trans rfl;have hcz139_2 : w132.cell? ⟨gb198,2,none⟩ = some (.int .i64 x199002_1):=(blk_cell BK198.out 2).trans rfl;have hfz139_0:=blk_frozen BK198.out 0;have hfz139_1:=blk_frozen BK198.out 1;have hfz139_2:=blk_frozen BK198.out 2;obtain ⟨Ao140,co140,eo140⟩:=Kd.R_slice HO_199000.out;subst eo140;have hnb141:=NB197_199.out;have hnc141:=NB199_197.out;have hcz142_0 : w132.cell? ⟨gb197,0,none⟩ = some (.slice none 0 0):=(blk_cell BK197.out 0).trans rfl;have hcz142_1 : w132.cell? ⟨gb197,1,none⟩ = some (.int .i64 x198001_1):=(blk_cell BK197.out 1).trans rfl;have hcz142_2 : w132.cell? ⟨gb197,2,none⟩ = some (.int .i64 x198002_1):=(blk_cell BK197.out 2).trans rfl;have hfz142_0:=blk_frozen BK197.out 0;have hfz142_1:=blk_frozen BK197.out 1;have hfz142_2:=blk_frozen BK197.out 2))
            refine bodyPost_ret (results_cell_row rfl _ _ gb197 47 #[.slice Ao140 x199000_1.length co140, .int .i64 t203, .int .i64 t202] (0, 0) _ rfl (by (with_reducible repeat (first|refine blk_drewN ?_ _|refine blk_drew ?_|refine blk_alloc ?_ _)); refine blk_put (cs := #[.slice Ao140 x199000_1.length co140, .int .i64 t203, .int .i64 x198002_1]) ?_ 2 _ rfl; (with_reducible repeat (first|refine blk_drewN ?_ _|refine blk_drew ?_|refine blk_alloc ?_ _)); refine blk_put (cs := #[.slice Ao140 x199000_1.length co140, .int .i64 x198001_1, .int .i64 x198002_1]) ?_ 1 _ rfl; (with_reducible repeat (first|refine blk_drewN ?_ _|refine blk_drew ?_|refine blk_alloc ?_ _)); refine blk_put (cs := #[.slice none 0 0, .int .i64 x198001_1, .int .i64 x198002_1]) ?_ 0 _ rfl; (with_reducible repeat (first|refine blk_drewN ?_ _|refine blk_drew ?_|refine blk_alloc ?_ _)); refine blk_far ?_ NB197_198.out _; (with_reducible repeat (first|refine blk_drewN ?_ _|refine blk_drew ?_|refine blk_alloc ?_ _)); refine blk_far ?_ NB197_198.out _; (with_reducible repeat (first|refine blk_drewN ?_ _|refine blk_drew ?_|refine blk_alloc ?_ _)); refine blk_far ?_ NB197_204.out _; (with_reducible repeat (first|refine blk_drewN ?_ _|refine blk_drew ?_|refine blk_alloc ?_ _)); refine blk_far ?_ NB197_204.out _; (with_reducible repeat (first|refine blk_drewN ?_ _|refine blk_drew ?_|refine blk_alloc ?_ _)); exact BK197.out) Tryd.underlying47 rfl (by kernel_rfl)) rfl ?_
            exact ⟨_, by first|rfl|(simp [errW_none, errW_some] <;> rfl)|(simp [*, errW_none, errW_some] <;> rfl), by (with_reducible repeat (first|apply Kd.R_alloc|apply Kd.R_drewN|apply Kd.R_drew)); exact Kd.R_mono (Kd.R_far (p := ⟨gb197, 2, none⟩) (Kd.R_far (p := ⟨gb197, 1, none⟩) (Kd.R_far (p := ⟨gb197, 0, none⟩) (Kd.R_far (p := ⟨gb198, 2, none⟩) (Kd.R_far (p := ⟨gb198, 1, none⟩) (Kd.R_far (p := ⟨gb204, 1, none⟩) (Kd.R_far (p := ⟨gb204, 0, none⟩) (Kd.R_types (Kd.R_types (Kd.R_types HO_199000.out BK204.out (by decide)) BK198.out (by decide)) BK197.out (by decide)) (fun _ hk => hk.1.1.2) (.int .i64 t202)) (fun _ hk => hk.1.1.2) (.int .i64 t203)) (fun _ hk => hk.1.2) (.int .i64 t203)) (fun _ hk => hk.1.2) (.int .i64 t202)) (fun _ hk => hk.2) (.slice Ao140 x199000_1.length co140)) (fun _ hk => hk.2) (.int .i64 t203)) (fun _ hk => hk.2) (.int .i64 t202)) (fun _ hk => trivial), by repeat (first|(with_reducible first|exact HB.out|apply below_alloc|apply pw_below_drewN|apply below_drew1|refine below_set ?_ GE197.out|refine below_set ?_ GE198.out|refine below_set ?_ GE199.out|refine below_set ?_ GE204.out)|exact HB.out)⟩
    ·rw [if_neg c11] at H
     exact absurd H (by simp)
   ·rw [if_neg c10] at H
    have c10b0 : decide (x6_1 < (a0.size : Int)) = false := decide_eq_false c10
    clear c10
    simp only [Option.some.injEq, Prod.mk.injEq] at H
    obtain ⟨rfl, rfl, rfl⟩ := H
    have hnb143 := NB198_197.out
    have hnc143 := NB197_198.out
    have hnb144 := NB198_199.out
    have hnc144 := NB199_198.out
    have hcz145_0 : wr.cell? ⟨gb198, 0, none⟩ = some (u199000) := (blk_cell BK198.out 0).trans rfl
    have hcz145_1 : wr.cell? ⟨gb198, 1, none⟩ = some (.int .i64 x199001_1) := (blk_cell BK198.out 1).trans rfl
    have hcz145_2 : wr.cell? ⟨gb198, 2, none⟩ = some (.int .i64 x199002_1) := (blk_cell BK198.out 2).trans rfl
    have hfz145_0 := blk_frozen BK198.out 0
    have hfz145_1 := blk_frozen BK198.out 1
    have hfz145_2 := blk_frozen BK198.out 2
    obtain ⟨Ao146, co146, eo146⟩ := Kd.R_slice HO_199000.out
    subst eo146
    have hnb147 := NB197_199.out
    have hnc147 := NB199_197.out
    have hcz148_0 : wr.cell? ⟨gb197, 0, none⟩ = some (.slice none 0 0) := (blk_cell BK197.out 0).trans rfl
    have hcz148_1 : wr.cell? ⟨gb197, 1, none⟩ = some (.int .i64 x198001_1) := (blk_cell BK197.out 1).trans rfl
    have hcz148_2 : wr.cell? ⟨gb197, 2, none⟩ = some (.int .i64 x198002_1) := (blk_cell BK197.out 2).trans rfl
    have hfz148_0 := blk_frozen BK197.out 0
    have hfz148_1 := blk_frozen BK197.out 1
    have hfz148_2 := blk_frozen BK197.out 2
    go_wp2
    refine bodyPost_ret (results_cell_row rfl _ _ gb197 47 #[.slice Ao146 x199000_1.length co146, .int .i64 x199001_1, .int .i64 x199002_1] (0, 0) _ rfl (by (with_reducible repeat (first|refine blk_drewN ?_ _|refine blk_drew ?_|refine blk_alloc ?_ _)); refine blk_put (cs := #[.slice Ao146 x199000_1.length co146, .int .i64 x199001_1, .int .i64 x198002_1]) ?_ 2 _ rfl; (with_reducible repeat (first|refine blk_drewN ?_ _|refine blk_drew ?_|refine blk_alloc ?_ _)); refine blk_put (cs := #[.slice Ao146 x199000_1.length co146, .int .i64 x198001_1, .int .i64 x198002_1]) ?_ 1 _ rfl; (with_reducible repeat (first|refine blk_drewN ?_ _|refine blk_drew ?_|refine blk_alloc ?_ _)); refine blk_put (cs := #[.slice none 0 0, .int .i64 x198001_1, .int .i64 x198002_1]) ?_ 0 _ rfl; (with_reducible repeat (first|refine blk_drewN ?_ _|refine blk_drew ?_|refine blk_alloc ?_ _)); exact BK197.out) Tryd.underlying47 rfl (by kernel_rfl)) rfl ?_
    exact ⟨_, by first|rfl|(simp [errW_none, errW_some] <;> rfl)|(simp [*, errW_none, errW_some] <;> rfl), by (with_reducible repeat (first|apply Kd.R_alloc|apply Kd.R_drewN|apply Kd.R_drew)); exact Kd.R_mono (Kd.R_far (p := ⟨gb197, 2, none⟩) (Kd.R_far (p := ⟨gb197, 1, none⟩) (Kd.R_far (p := ⟨gb197, 0, none⟩) (Kd.R_types HO_199000.out BK197.out (by decide)) (fun _ hk => hk.2) (.slice Ao146 x199000_1.length co146)) (fun _ hk => hk.2) (.int .i64 x199001_1)) (fun _ hk => hk.2) (.int .i64 x199002_1)) (fun _ hk => trivial), by repeat (first|(with_reducible first|exact HB.out|apply below_alloc|apply pw_below_drewN|apply below_drew1|refine below_set ?_ GE197.out|refine below_set ?_ GE198.out|refine below_set ?_ GE199.out)|exact HB.out)⟩
end Go.Proofs.YtgfloplakjmncaaDoor.PScan
