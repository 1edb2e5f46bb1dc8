/- The printed same and awake: what they come to. By an AI agent; no person has read it. -/
import Derived.Test.YtgfloplakjmncaaDoorPScanx3
set_option linter.unusedSimpArgs false
set_option linter.unusedVariables false
namespace Go.Proofs.YtgfloplakjmncaaDoor.PScan
open Go Go.RowKit Go.Proofs.YtgfloplakjmncaaDoor Go.Proofs.YtgfloplakjmncaaDoorW.PrintWords Go.Proofs.YtgfloplakjmncaaDoorW.PrintLast
theorem same_l0 (l : List S35) (hl : l.length < 4611686018427387904) (d : Nat) : ∀ j : Nat, j ≤ l.length → l.length - j = d → Ev (fun k => colophonlaw10_same.l0 k l l (j : Int)) true := by
  induction d with
  | zero =>
    intro j hj hd
    refine Ev.step (f := fun _ => some true) (fun k => ?_) (Ev.now true)
    simp only [colophonlaw10_same.l0]
    rw [if_neg (by omega)]
  | succ d ih =>
    intro j hj hd
    refine Ev.step (f := fun k => colophonlaw10_same.l0 k l l ((j + 1 : Nat) : Int)) (fun k => ?_) (ih (j + 1) (by omega) (by omega))
    have hw : wrap64 ((j : Int) + 1) = ((j + 1 : Nat) : Int) := by unfold wrap64; omega
    simp only [colophonlaw10_same.l0, hw]
    rw [if_pos (by omega), if_pos (by omega), if_pos (by omega)]
    simp
theorem same_f (l : List S35) (hl : l.length < 4611686018427387904) : Ev (fun k => colophonlaw10_same.f k l l) true := by
  refine Ev.congr (f := fun k => colophonlaw10_same.l0 k l l ((0 : Nat) : Int)) (fun k => ?_) (same_l0 l hl l.length 0 (Nat.zero_le _) rfl)
  unfold colophonlaw10_same.f
  rw [if_pos rfl]; rfl
theorem all_f (s : ByteArray) (hs : s.size < 2147483648) : scan_All.f s = some ((allR s).1.map tkS, ((allR s).2.1 : Int), (allR s).2.2.at_, (allR s).2.2.line, (allR s).2.2.col) := by
  unfold scan_All.f; rw [if_pos hs]
def ex1 : List Tk := [⟨1, ⟨#[97, 49]⟩, ⟨0, 1, 1⟩, 0⟩, ⟨6, ⟨#[58, 61]⟩, ⟨3, 1, 4⟩, 0⟩, ⟨5, ⟨#[39, 98, 39]⟩, ⟨6, 2, 1⟩, 1⟩]
def ex2 : List Tk := [⟨1, ⟨#[97]⟩, ⟨0, 1, 1⟩, 0⟩]
theorem ex1_f : scan_All.f ⟨#[97, 49, 32, 58, 61, 10, 39, 98, 39]⟩ = some (ex1.map tkS, 0, 0, 0, 0) := by
  rw [all_f _ (by decide), show allR ⟨#[97, 49, 32, 58, 61, 10, 39, 98, 39]⟩ = (ex1, 0, ⟨0, 0, 0⟩) from by kernel_rfl]; rfl
theorem ex2_f : scan_All.f ⟨#[97, 10, 32, 63]⟩ = some (ex2.map tkS, 100, 3, 2, 2) := by
  rw [all_f _ (by decide), show allR ⟨#[97, 10, 32, 63]⟩ = (ex2, 100, ⟨3, 2, 2⟩) from by kernel_rfl]; rfl
theorem awake_f : Ev (fun k => colophonlaw10_awake.f k) true := by
  have h := same_f (ex1.map tkS) (by decide)
  refine Ev.congr (f := fun k => (colophonlaw10_same.f k (ex1.map tkS) (ex1.map tkS)).bind fun t => if t = true then some true else some false) (fun k => ?_) (Ev.bind h ?_)
  · unfold colophonlaw10_awake.f
    rw [ex1_f, ex2_f]
    simp only [Option.bind_some]
    rfl
  · simp only [if_true]; exact Ev.now true
end Go.Proofs.YtgfloplakjmncaaDoor.PScan
