/- The iterator of package place's lines: what it does with whatever loop body. By an AI agent; no person has read it. -/
import Derived.Test.YtlglnepfcihhiaaDoorOf
import Derived.RangeFuncNested
import Derived.RangeFuncBound
import Derived.RangeFuncCalls
import Derived.RangeFuncLeaves
import Derived.RangeFuncFrom
import Derived.Shelf.Abstract
import Derived.Shelf.RegionOpen
import Derived.OwnWalkIn
import Derived.TacticsInMore
import Derived.LoopNIn
import Derived.LoopIn
set_option linter.unusedSimpArgs false
set_option linter.unusedVariables false
namespace Go.Proofs.YtlglnepfcihhiaaDoor
open Go Go.RowKit
attribute [local go_sem] Oper.semAt_some

/-- strings.Cut at a line feed. -/
def cut1 (t : ByteArray) : ByteArray := ⟨(Lib.cut t.data.toList [10]).1.toArray⟩
def cut2 (t : ByteArray) : ByteArray := ⟨(Lib.cut t.data.toList [10]).2.1.toArray⟩
def cut3 (t : ByteArray) : Bool := (Lib.cut t.data.toList [10]).2.2
theorem cut2_less (t : ByteArray) (h : cut3 t = true) : (cut2 t).size < t.size := by
  have hl : t.data.toList.length = t.size := by simp
  show (Lib.cut t.data.toList [10]).2.1.toArray.size < t.size
  rw [List.size_toArray]
  unfold cut3 Lib.cut at h
  unfold Lib.cut
  split
  · rename_i h0
    have := Lib.index_room t.data.toList [10] h0
    simp only [List.length_drop, List.length_singleton] at this ⊢
    omega
  · rename_i h0; rw [if_neg h0] at h; cases h
/-- internal/bytealg.MaxLen holds some number. -/
def ML (w : World) : Prop := ∃ m, w.cell? ⟨2, 0, none⟩ = some (.int .i64 m)
theorem ML.kp {w w' : World} (h : ML w) (k : Kp w w') : ML w' := by
  obtain ⟨m, hm⟩ := h
  exact ⟨m, by rw [k.cell (World.block_lt_of_cell? _ _ hm)]; exact hm⟩
theorem cut_calls (t : ByteArray) (w : World) (hs : t.size < 4294967281) (hm : ML w) :
    Calls Tryd.prog 21 #[.string t, .string ⟨#[10]⟩] w fun e w' => e = .returned (.tuple #[.string (cut1 t), .string (cut2 t), .bool (cut3 t)]) ∧ ∃ n, w' = w.drewN n := by
  obtain ⟨m, hm⟩ := hm
  exact Tryd.strings_Cut t ⟨#[10]⟩ m w hs hm
/-- How long the string is that a cell holds. -/
def strAt (w : World) (B : Nat) : Nat := match w.cell? ⟨B, 0, none⟩ with
  | some (.string t) => t.size
  | _ => 0

theorem strAt_set {W : World} {B : Nat} {v : Value} (h : W.cell? ⟨B, 0, none⟩ = some v) (u : ByteArray) : strAt (W.setCell ⟨B, 0, none⟩ (.string u)) B = u.size := by
  unfold strAt
  rw [World.cell?_setCell_same' _ _ _ (by rw [h]; rfl)]

set_option maxRecDepth 100000 in
set_option maxHeartbeats 2000000 in
theorem lines1_in (n l B : Nat) (J : ByteArray → World → Prop) (Jd Jx : World → Prop)
    (hJ : ∀ t W, J t W → W.cell? ⟨B, 0, none⟩ = some (.string t) ∧ t.size < 4294967281 ∧ ML W ∧ ∀ k, J t (W.drewN k))
    (hY : ∀ t W, J t W → YieldAt Fence.wide (n - 1) Tryd.prog l #[.string (cut1 t)] W fun e W' =>
      (e = .returned (.bool true) ∧ W'.cell? ⟨B, 0, none⟩ = some (.string t) ∧ W'.frozen? ⟨B, 0, none⟩ = false ∧ (cut3 t = false → Jd W') ∧ (cut3 t = true → J (cut2 t) (W'.setCell ⟨B, 0, none⟩ (.string (cut2 t))))) ∨ (e = .returned (.bool false) ∧ Jx W'))
    (t : ByteArray) (W : World) (h0 : J t W) :
    CallsIn Fence.wide n Tryd.prog 20 #[.func (.yield l) #[] #[], .pointer (some ⟨B, 0, none⟩)] W fun e W' => (∃ v, e = .returned v) ∧ (Jd W' ∨ Jx W') := by
  refine callsIn_of_wp Tryd.func20 rfl trivial ?_ rfl
  simp only [Tryd.ntmps20, List.size_toArray, List.length_cons, List.length_nil, Nat.reduceAdd, Nat.reduceSub, Array.replicate_succ, Array.replicate_zero, List.push_toArray, List.append_toArray, List.nil_append, List.cons_append]
  gi_wp2
  gi_loopw [] (fun wr => ∃ t, J t wr) (fun wr => strAt wr B)
  case atStart => exact ⟨t, h0⟩
  case round =>
    obtain ⟨t, hJt⟩ := hrel
    obtain ⟨hB, hs, hm, hd⟩ := hJ t wr hJt
    have hc := cut_calls t wr hs hm
    have hst : strAt wr B = t.size := by simp [strAt, hB]
    have HS := Lib.hid hst
    clear hst
    gi_wp2_with fail
    refine ⟨trivial, fun h => by simp [Fence.wide] at h, (callsIn_wide.2 hc).mono ?_⟩
    rintro e w' ⟨rfl, k, rfl⟩
    obtain ⟨fn, tmps, assign, body, hy, hR⟩ := hY t (wr.drewN k) (hd k)
    cases hmo : cut3 t
    · rw [hmo] at hR
      gi_wp2
      refine ⟨fun h => by simp [Fence.wide] at h, hR.mono ?_⟩
      rintro e W3 (⟨rfl, hB3, hf3, hd3, hj3⟩ | ⟨rfl, hx3⟩)
      · gi_wp2
        refine bodyPost_ret (results_none rfl _ _ _) rfl ?_
        exact ⟨⟨_, rfl⟩, .inl (hd3 trivial)⟩
      · gi_wp2
        refine bodyPost_ret (results_none rfl _ _ _) rfl ?_
        exact ⟨⟨_, rfl⟩, .inr hx3⟩
    · have hless := cut2_less t hmo
      rw [hmo] at hR
      gi_wp2
      refine ⟨fun h => by simp [Fence.wide] at h, hR.mono ?_⟩
      rintro e W3 (⟨rfl, hB3, hf3, hd3, hj3⟩ | ⟨rfl, hx3⟩)
      · have hj4 := hj3 trivial
        clear hj3 hd3
        gi_wp2
        go_roundw
        case rel => exact ⟨_, hj4⟩
        case measure =>
          rw [HS.out, strAt_set hB3]
          exact hless
      · gi_wp2
        refine bodyPost_ret (results_none rfl _ _ _) rfl ?_
        exact ⟨⟨_, rfl⟩, .inr hx3⟩
end Go.Proofs.YtlglnepfcihhiaaDoor
