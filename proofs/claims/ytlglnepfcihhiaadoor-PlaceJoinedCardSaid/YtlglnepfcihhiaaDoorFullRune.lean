/- The contract of utf8.FullRuneInString. By an AI agent; no person has read it. -/
import Derived.Test.YtlglnepfcihhiaaDoorFull
set_option linter.unusedSimpArgs false
set_option linter.unusedVariables false
namespace Go.Proofs.YtlglnepfcihhiaaDoor
open Go Go.RowKit Go.Lib

/-- The two tables of unicode/utf8. -/
def U8 (w : World) : Prop := Lib.Utf8Tabs 0 1 w
theorem U8.kp {w w' : World} (h : U8 w) (k : Kp w w') : U8 w' := by
  refine ⟨fun c hc => ?_, fun i hi => ⟨?_, ?_⟩⟩
  · have := h.1 c hc; rw [k.cell (World.block_lt_of_cell? _ _ this)]; exact this
  · have := (h.2 i hi).1; rw [k.cell (World.block_lt_of_cell? _ _ this)]; exact this
  · have := (h.2 i hi).2; rw [k.cell (World.block_lt_of_cell? _ _ this)]; exact this
theorem bn_get (s : ByteArray) (k : Nat) (h : k < s.size) : bn s.data.toList k = (s[k]'h).toNat := by
  unfold bn
  rw [List.getD_eq_getElem?_getD, List.getElem?_eq_getElem (by simpa using h)]
  rfl
theorem fullB_true (s : ByteArray) (h : full s.data.toList) : true = fullB s.data.toList := by unfold fullB; simp [h]
theorem fullB_false (s : ByteArray) (h : ¬ full s.data.toList) : false = fullB s.data.toList := by unfold fullB; simp [h]

theorem fullRune_calls (s : ByteArray) (w : World) (h0 : 0 < s.size) (hT : U8 w) :
    Calls Tryd.prog 7 #[.string s] w fun e w' => e = .returned (.bool (fullB s.data.toList)) ∧ Kp w w' := by
  have hl : s.data.toList.length = s.size := by simp
  obtain ⟨x0, hx0⟩ : ∃ x0, s[0]'h0 = x0 := ⟨_, rfl⟩
  have l0 : x0.toNat < 256 := x0.toNat_lt
  have e0 : bn s.data.toList 0 = x0.toNat := by rw [bn_get s 0 h0, hx0]
  have hc0 := hT.1 x0.toNat l0
  have hX : firstT x0.toNat < 256 := by rcases firstT_spec _ l0 with h | h | h | h | h | h | h | h | h <;> omega
  have hi16 : firstT x0.toNat / 16 < 16 := by omega
  have hlo := (hT.2 _ hi16).1
  have hhi := (hT.2 _ hi16).2
  rw [Nat.mul_comm] at hlo hhi
  by_cases hn : ((firstT x0.toNat : Nat) : Int) % 8 ≤ (s.size : Int)
  · have hf : full s.data.toList := by
      unfold full; left; rw [hl, e0]
      rcases firstT_spec _ l0 with h | h | h | h | h | h | h | h | h <;> rw [h.1] at hn <;> omega
    rw [← fullB_true s hf]
    exact full_any s w x0 _ hX h0 hx0 l0 hc0 hn
  · have hS : firstT x0.toNat % 8 = long x0.toNat ∧ accLo (firstT x0.toNat / 16) = lo2 x0.toNat ∧ accHi (firstT x0.toNat / 16) = hi2 x0.toNat := by
      rcases firstT_spec _ l0 with h | h | h | h | h | h | h | h | h <;> rw [h.1] at hn ⊢
      · omega
      · omega
      all_goals (obtain ⟨_, a, b, c⟩ := h; rw [a, b, c]; decide)
    obtain ⟨hL, hA, hB⟩ := hS
    rw [hA] at hlo
    rw [hB] at hhi
    have hsz : s.size = 1 ∨ s.size = 2 ∨ s.size = 3 := by
      have : long x0.toNat ≤ 4 := by unfold long; split <;> (try split) <;> (try split) <;> (try split) <;> omega
      omega
    have hlong : ¬ long x0.toNat ≤ s.size := by omega
    rcases hsz with hz | hz | hz
    · have hf : ¬ full s.data.toList := by
        unfold full; rw [hl, e0]; omega
      rw [← fullB_false s hf]
      exact full_1 s w x0 _ hX h0 hx0 l0 hc0 _ _ hlo hhi hi16 hz (by omega)
    · obtain ⟨x1, hx1⟩ : ∃ x1, s[1]'(by omega) = x1 := ⟨_, rfl⟩
      have e1 : bn s.data.toList 1 = x1.toNat := by rw [bn_get s 1 (by omega), hx1]
      by_cases c1 : x1.toNat < lo2 x0.toNat
      · have hf : full s.data.toList := by unfold full; rw [hl, e0, e1]; omega
        rw [← fullB_true s hf]
        exact full_2lo s w x0 _ hX h0 hx0 l0 hc0 _ _ hlo hhi hi16 hz (by omega) x1 hx1 x1.toNat_lt (by simpa using c1)
      · by_cases c2 : hi2 x0.toNat < x1.toNat
        · have hf : full s.data.toList := by unfold full; rw [hl, e0, e1]; omega
          rw [← fullB_true s hf]
          exact full_2hi s w x0 _ hX h0 hx0 l0 hc0 _ _ hlo hhi hi16 hz (by omega) x1 hx1 x1.toNat_lt (by simpa using c1) (by simpa using c2)
        · have hf : ¬ full s.data.toList := by unfold full; rw [hl, e0, e1]; omega
          rw [← fullB_false s hf]
          exact full_2no s w x0 _ hX h0 hx0 l0 hc0 _ _ hlo hhi hi16 hz (by omega) x1 hx1 x1.toNat_lt (by simpa using c1) (by simpa using c2)
    · obtain ⟨x1, hx1⟩ : ∃ x1, s[1]'(by omega) = x1 := ⟨_, rfl⟩
      have e1 : bn s.data.toList 1 = x1.toNat := by rw [bn_get s 1 (by omega), hx1]
      obtain ⟨x2, hx2⟩ : ∃ x2, s[2]'(by omega) = x2 := ⟨_, rfl⟩
      have e2 : bn s.data.toList 2 = x2.toNat := by rw [bn_get s 2 (by omega), hx2]
      by_cases c1 : x1.toNat < lo2 x0.toNat
      · have hf : full s.data.toList := by unfold full; rw [hl, e0, e1]; omega
        rw [← fullB_true s hf]
        exact full_3lo s w x0 _ hX h0 hx0 l0 hc0 _ _ hlo hhi hi16 hz (by omega) x1 hx1 x1.toNat_lt (by simpa using c1)
      · by_cases c2 : hi2 x0.toNat < x1.toNat
        · have hf : full s.data.toList := by unfold full; rw [hl, e0, e1]; omega
          rw [← fullB_true s hf]
          exact full_3hi s w x0 _ hX h0 hx0 l0 hc0 _ _ hlo hhi hi16 hz (by omega) x1 hx1 x1.toNat_lt (by simpa using c1) (by simpa using c2)
        · by_cases d1 : (x2.toNat : Int) < 128
          · have hf : full s.data.toList := by unfold full; rw [hl, e0, e1, e2]; omega
            rw [← fullB_true s hf]
            exact full_3rlo s w x0 _ hX h0 hx0 l0 hc0 _ _ hlo hhi hi16 hz (by omega) x1 hx1 x1.toNat_lt (by simpa using c1) (by simpa using c2) x2 hx2 x2.toNat_lt (by simpa using d1)
          · by_cases d2 : (191 : Int) < (x2.toNat : Int)
            · have hf : full s.data.toList := by unfold full; rw [hl, e0, e1, e2]; omega
              rw [← fullB_true s hf]
              exact full_3rhi s w x0 _ hX h0 hx0 l0 hc0 _ _ hlo hhi hi16 hz (by omega) x1 hx1 x1.toNat_lt (by simpa using c1) (by simpa using c2) x2 hx2 x2.toNat_lt (by simpa using d1) (by simpa using d2)
            · have hf : ¬ full s.data.toList := by unfold full; rw [hl, e0, e1, e2]; omega
              rw [← fullB_false s hf]
              exact full_3rno s w x0 _ hX h0 hx0 l0 hc0 _ _ hlo hhi hi16 hz (by omega) x1 hx1 x1.toNat_lt (by simpa using c1) (by simpa using c2) x2 hx2 x2.toNat_lt (by simpa using d1) (by simpa using d2)
end Go.Proofs.YtlglnepfcihhiaaDoor
