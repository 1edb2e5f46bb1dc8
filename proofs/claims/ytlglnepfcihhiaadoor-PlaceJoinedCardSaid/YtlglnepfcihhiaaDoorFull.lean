/- A walk of utf8.FullRuneInString. By an AI agent; no person has read it. -/
import Derived.Test.YtlglnepfcihhiaaDoorWalk1
import Derived.Test.YtlglnepfcihhiaaDoorPlaceLaw
import Derived.Shelf.Unicode.DecodeSlow
import Derived.Deep.QuietTactic
import Derived.BigQuiet
set_option linter.unusedSimpArgs false
set_option linter.unusedVariables false
namespace Go.Proofs.YtlglnepfcihhiaaDoor
open Go Go.RowKit Go.Lib

theorem firstT_spec (b : Nat) (hb : b < 256) : (firstT b = 240 ∧ long b = 1) ∨ (firstT b = 241 ∧ long b = 1) ∨ (firstT b = 2 ∧ long b = 2 ∧ lo2 b = 128 ∧ hi2 b = 191) ∨ (firstT b = 19 ∧ long b = 3 ∧ lo2 b = 160 ∧ hi2 b = 191) ∨ (firstT b = 3 ∧ long b = 3 ∧ lo2 b = 128 ∧ hi2 b = 191) ∨ (firstT b = 35 ∧ long b = 3 ∧ lo2 b = 128 ∧ hi2 b = 159) ∨ (firstT b = 52 ∧ long b = 4 ∧ lo2 b = 144 ∧ hi2 b = 191) ∨ (firstT b = 4 ∧ long b = 4 ∧ lo2 b = 128 ∧ hi2 b = 191) ∨ (firstT b = 68 ∧ long b = 4 ∧ lo2 b = 128 ∧ hi2 b = 143) := by
  unfold firstT long lo2 hi2
  by_cases h1 : b < 128
  · left; rw [if_pos h1, if_pos (by omega)]; exact ⟨rfl, rfl⟩
  by_cases h2 : b < 194
  · right; left; rw [if_neg h1, if_pos h2, if_pos h2]; exact ⟨rfl, rfl⟩
  by_cases h3 : b < 224
  · right; right; left; rw [if_neg h1, if_neg h2, if_pos h3, if_neg h2, if_pos h3, if_neg (by omega), if_neg (by omega), if_neg (by omega), if_neg (by omega)]; exact ⟨rfl, rfl, rfl, rfl⟩
  by_cases h4 : b = 224
  · subst h4; decide
  by_cases h5 : b = 237
  · subst h5; decide
  by_cases h6 : b = 240
  · subst h6; decide
  by_cases h7 : b = 244
  · subst h7; decide
  by_cases h8 : b < 240
  · right; right; right; right; left
    refine ⟨?_, ?_, ?_, ?_⟩
    · rw [if_neg h1, if_neg h2, if_neg h3, if_neg h4]
      split <;> rfl
    · rw [if_neg h2, if_neg h3, if_pos h8]
    · rw [if_neg h4, if_neg h6]
    · rw [if_neg h5, if_neg h7]
  by_cases h9 : b < 244
  · right; right; right; right; right; right; right; left
    refine ⟨?_, ?_, ?_, ?_⟩
    · rw [if_neg h1, if_neg h2, if_neg h3, if_neg h4, if_neg (by omega), if_neg h5, if_neg h8, if_neg h6, if_pos h9]
    · rw [if_neg h2, if_neg h3, if_neg h8, if_pos (by omega)]
    · rw [if_neg h4, if_neg h6]
    · rw [if_neg h5, if_neg h7]
  · right; left
    refine ⟨?_, ?_⟩
    · rw [if_neg h1, if_neg h2, if_neg h3, if_neg h4, if_neg (by omega), if_neg h5, if_neg h8, if_neg h6, if_neg h9, if_neg h7]
    · rw [if_neg h2, if_neg h3, if_neg h8, if_neg (by omega)]

/-- utf8.FullRuneInString's answer. -/
def fullB (l : List UInt8) : Bool := decide (full l)


set_option maxRecDepth 100000 in
set_option maxHeartbeats 1000000 in
theorem full_any (s : ByteArray) (w : World) (x0 : UInt8) (X : Nat) (hX : X < 256) (h0 : 0 < s.size) (hs0 : s[0]'h0 = x0) (l0 : x0.toNat < 256)
    (hc0 : w.cell? ⟨0, x0.toNat, none⟩ = some (.int .u8 X)) (hz : (X : Int) % 8 ≤ (s.size : Int)) :
    Calls Tryd.prog 7 #[.string s] w fun e w' => e = .returned (.bool true) ∧ Kp w w' := by
  have hp : (0 : Int) < (s.size : Int) := by omega
  have hne : ((s.size : Int) == 0) = false := beq_eq_false_iff_ne.2 (by omega)
  go_enter Tryd.func7, Tryd.ntmps7
  go_wp2
  go_ret
  exact ⟨rfl, Kp.refl _⟩
set_option maxRecDepth 100000 in
set_option maxHeartbeats 1000000 in
theorem full_1 (s : ByteArray) (w : World) (x0 : UInt8) (X : Nat) (hX : X < 256) (h0 : 0 < s.size) (hs0 : s[0]'h0 = x0) (l0 : x0.toNat < 256)
    (hc0 : w.cell? ⟨0, x0.toNat, none⟩ = some (.int .u8 X)) (lo hi : Nat) (hl : w.cell? ⟨1, X / 16 * 2, none⟩ = some (.int .u8 lo)) (hh : w.cell? ⟨1, X / 16 * 2 + 1, none⟩ = some (.int .u8 hi)) (hi16 : X / 16 < 16) (hn : s.size = 1) (hz : (1 : Int) < (X : Int) % 8) :
    Calls Tryd.prog 7 #[.string s] w fun e w' => e = .returned (.bool false) ∧ Kp w w' := by
  go_enter Tryd.func7, Tryd.ntmps7
  go_wp2
  go_quiet (fail)
  go_wp2
  go_ret
  exact ⟨rfl, by repeat (first | exact Kp.refl _ | apply Kp.drewN | apply Kp.drew | apply Kp.alloc)⟩
set_option maxRecDepth 100000 in
set_option maxHeartbeats 1000000 in
theorem full_2lo (s : ByteArray) (w : World) (x0 : UInt8) (X : Nat) (hX : X < 256) (h0 : 0 < s.size) (hs0 : s[0]'h0 = x0) (l0 : x0.toNat < 256)
    (hc0 : w.cell? ⟨0, x0.toNat, none⟩ = some (.int .u8 X)) (lo hi : Nat) (hl : w.cell? ⟨1, X / 16 * 2, none⟩ = some (.int .u8 lo)) (hh : w.cell? ⟨1, X / 16 * 2 + 1, none⟩ = some (.int .u8 hi)) (hi16 : X / 16 < 16) (hn : s.size = 2) (hz : (2 : Int) < (X : Int) % 8) (x1 : UInt8) (hs1 : s[1]'(by omega) = x1) (l1 : x1.toNat < 256) (hb : decide (x1.toNat < lo) = true) :
    Calls Tryd.prog 7 #[.string s] w fun e w' => e = .returned (.bool true) ∧ Kp w w' := by
  go_enter Tryd.func7, Tryd.ntmps7
  go_wp2
  go_quiet (fail)
  go_wp2
  go_ret
  exact ⟨rfl, by repeat (first | exact Kp.refl _ | apply Kp.drewN | apply Kp.drew | apply Kp.alloc)⟩
set_option maxRecDepth 100000 in
set_option maxHeartbeats 1000000 in
theorem full_2hi (s : ByteArray) (w : World) (x0 : UInt8) (X : Nat) (hX : X < 256) (h0 : 0 < s.size) (hs0 : s[0]'h0 = x0) (l0 : x0.toNat < 256)
    (hc0 : w.cell? ⟨0, x0.toNat, none⟩ = some (.int .u8 X)) (lo hi : Nat) (hl : w.cell? ⟨1, X / 16 * 2, none⟩ = some (.int .u8 lo)) (hh : w.cell? ⟨1, X / 16 * 2 + 1, none⟩ = some (.int .u8 hi)) (hi16 : X / 16 < 16) (hn : s.size = 2) (hz : (2 : Int) < (X : Int) % 8) (x1 : UInt8) (hs1 : s[1]'(by omega) = x1) (l1 : x1.toNat < 256) (hb0 : decide (x1.toNat < lo) = false) (hb : decide (hi < x1.toNat) = true) :
    Calls Tryd.prog 7 #[.string s] w fun e w' => e = .returned (.bool true) ∧ Kp w w' := by
  go_enter Tryd.func7, Tryd.ntmps7
  go_wp2
  go_quiet (fail)
  go_wp2
  go_ret
  exact ⟨rfl, by repeat (first | exact Kp.refl _ | apply Kp.drewN | apply Kp.drew | apply Kp.alloc)⟩
set_option maxRecDepth 100000 in
set_option maxHeartbeats 1000000 in
theorem full_3lo (s : ByteArray) (w : World) (x0 : UInt8) (X : Nat) (hX : X < 256) (h0 : 0 < s.size) (hs0 : s[0]'h0 = x0) (l0 : x0.toNat < 256)
    (hc0 : w.cell? ⟨0, x0.toNat, none⟩ = some (.int .u8 X)) (lo hi : Nat) (hl : w.cell? ⟨1, X / 16 * 2, none⟩ = some (.int .u8 lo)) (hh : w.cell? ⟨1, X / 16 * 2 + 1, none⟩ = some (.int .u8 hi)) (hi16 : X / 16 < 16) (hn : s.size = 3) (hz : (3 : Int) < (X : Int) % 8) (x1 : UInt8) (hs1 : s[1]'(by omega) = x1) (l1 : x1.toNat < 256) (hb : decide (x1.toNat < lo) = true) :
    Calls Tryd.prog 7 #[.string s] w fun e w' => e = .returned (.bool true) ∧ Kp w w' := by
  go_enter Tryd.func7, Tryd.ntmps7
  go_wp2
  go_quiet (fail)
  go_wp2
  go_ret
  exact ⟨rfl, by repeat (first | exact Kp.refl _ | apply Kp.drewN | apply Kp.drew | apply Kp.alloc)⟩
set_option maxRecDepth 100000 in
set_option maxHeartbeats 1000000 in
theorem full_3hi (s : ByteArray) (w : World) (x0 : UInt8) (X : Nat) (hX : X < 256) (h0 : 0 < s.size) (hs0 : s[0]'h0 = x0) (l0 : x0.toNat < 256)
    (hc0 : w.cell? ⟨0, x0.toNat, none⟩ = some (.int .u8 X)) (lo hi : Nat) (hl : w.cell? ⟨1, X / 16 * 2, none⟩ = some (.int .u8 lo)) (hh : w.cell? ⟨1, X / 16 * 2 + 1, none⟩ = some (.int .u8 hi)) (hi16 : X / 16 < 16) (hn : s.size = 3) (hz : (3 : Int) < (X : Int) % 8) (x1 : UInt8) (hs1 : s[1]'(by omega) = x1) (l1 : x1.toNat < 256) (hb0 : decide (x1.toNat < lo) = false) (hb : decide (hi < x1.toNat) = true) :
    Calls Tryd.prog 7 #[.string s] w fun e w' => e = .returned (.bool true) ∧ Kp w w' := by
  go_enter Tryd.func7, Tryd.ntmps7
  go_wp2
  go_quiet (fail)
  go_wp2
  go_ret
  exact ⟨rfl, by repeat (first | exact Kp.refl _ | apply Kp.drewN | apply Kp.drew | apply Kp.alloc)⟩
set_option maxRecDepth 100000 in
set_option maxHeartbeats 1000000 in
theorem full_2no (s : ByteArray) (w : World) (x0 : UInt8) (X : Nat) (hX : X < 256) (h0 : 0 < s.size) (hs0 : s[0]'h0 = x0) (l0 : x0.toNat < 256)
    (hc0 : w.cell? ⟨0, x0.toNat, none⟩ = some (.int .u8 X)) (lo hi : Nat) (hl : w.cell? ⟨1, X / 16 * 2, none⟩ = some (.int .u8 lo)) (hh : w.cell? ⟨1, X / 16 * 2 + 1, none⟩ = some (.int .u8 hi)) (hi16 : X / 16 < 16) (hn : s.size = 2) (hz : (2 : Int) < (X : Int) % 8) (x1 : UInt8) (hs1 : s[1]'(by omega) = x1) (l1 : x1.toNat < 256) (hb0 : decide (x1.toNat < lo) = false) (hb : decide (hi < x1.toNat) = false) :
    Calls Tryd.prog 7 #[.string s] w fun e w' => e = .returned (.bool false) ∧ Kp w w' := by
  go_enter Tryd.func7, Tryd.ntmps7
  go_wp2
  go_quiet (fail)
  go_wp2
  go_ret
  exact ⟨rfl, by repeat (first | exact Kp.refl _ | apply Kp.drewN | apply Kp.drew | apply Kp.alloc)⟩
set_option maxRecDepth 100000 in
set_option maxHeartbeats 1000000 in
theorem full_3rlo (s : ByteArray) (w : World) (x0 : UInt8) (X : Nat) (hX : X < 256) (h0 : 0 < s.size) (hs0 : s[0]'h0 = x0) (l0 : x0.toNat < 256)
    (hc0 : w.cell? ⟨0, x0.toNat, none⟩ = some (.int .u8 X)) (lo hi : Nat) (hl : w.cell? ⟨1, X / 16 * 2, none⟩ = some (.int .u8 lo)) (hh : w.cell? ⟨1, X / 16 * 2 + 1, none⟩ = some (.int .u8 hi)) (hi16 : X / 16 < 16) (hn : s.size = 3) (hz : (3 : Int) < (X : Int) % 8) (x1 : UInt8) (hs1 : s[1]'(by omega) = x1) (l1 : x1.toNat < 256) (hb0 : decide (x1.toNat < lo) = false) (hb : decide (hi < x1.toNat) = false) (x2 : UInt8) (hs2 : s[2]'(by omega) = x2) (l2 : x2.toNat < 256) (hd : decide ((x2.toNat : Int) < 128) = true) :
    Calls Tryd.prog 7 #[.string s] w fun e w' => e = .returned (.bool true) ∧ Kp w w' := by
  go_enter Tryd.func7, Tryd.ntmps7
  go_wp2
  go_quiet (fail)
  go_wp2
  go_ret
  exact ⟨rfl, by repeat (first | exact Kp.refl _ | apply Kp.drewN | apply Kp.drew | apply Kp.alloc)⟩
set_option maxRecDepth 100000 in
set_option maxHeartbeats 1000000 in
theorem full_3rhi (s : ByteArray) (w : World) (x0 : UInt8) (X : Nat) (hX : X < 256) (h0 : 0 < s.size) (hs0 : s[0]'h0 = x0) (l0 : x0.toNat < 256)
    (hc0 : w.cell? ⟨0, x0.toNat, none⟩ = some (.int .u8 X)) (lo hi : Nat) (hl : w.cell? ⟨1, X / 16 * 2, none⟩ = some (.int .u8 lo)) (hh : w.cell? ⟨1, X / 16 * 2 + 1, none⟩ = some (.int .u8 hi)) (hi16 : X / 16 < 16) (hn : s.size = 3) (hz : (3 : Int) < (X : Int) % 8) (x1 : UInt8) (hs1 : s[1]'(by omega) = x1) (l1 : x1.toNat < 256) (hb0 : decide (x1.toNat < lo) = false) (hb : decide (hi < x1.toNat) = false) (x2 : UInt8) (hs2 : s[2]'(by omega) = x2) (l2 : x2.toNat < 256) (hd0 : decide ((x2.toNat : Int) < 128) = false) (hd : decide ((191 : Int) < (x2.toNat : Int)) = true) :
    Calls Tryd.prog 7 #[.string s] w fun e w' => e = .returned (.bool true) ∧ Kp w w' := by
  go_enter Tryd.func7, Tryd.ntmps7
  go_wp2
  go_quiet (fail)
  go_wp2
  go_ret
  exact ⟨rfl, by repeat (first | exact Kp.refl _ | apply Kp.drewN | apply Kp.drew | apply Kp.alloc)⟩
set_option maxRecDepth 100000 in
set_option maxHeartbeats 1000000 in
theorem full_3rno (s : ByteArray) (w : World) (x0 : UInt8) (X : Nat) (hX : X < 256) (h0 : 0 < s.size) (hs0 : s[0]'h0 = x0) (l0 : x0.toNat < 256)
    (hc0 : w.cell? ⟨0, x0.toNat, none⟩ = some (.int .u8 X)) (lo hi : Nat) (hl : w.cell? ⟨1, X / 16 * 2, none⟩ = some (.int .u8 lo)) (hh : w.cell? ⟨1, X / 16 * 2 + 1, none⟩ = some (.int .u8 hi)) (hi16 : X / 16 < 16) (hn : s.size = 3) (hz : (3 : Int) < (X : Int) % 8) (x1 : UInt8) (hs1 : s[1]'(by omega) = x1) (l1 : x1.toNat < 256) (hb0 : decide (x1.toNat < lo) = false) (hb : decide (hi < x1.toNat) = false) (x2 : UInt8) (hs2 : s[2]'(by omega) = x2) (l2 : x2.toNat < 256) (hd0 : decide ((x2.toNat : Int) < 128) = false) (hd : decide ((191 : Int) < (x2.toNat : Int)) = false) :
    Calls Tryd.prog 7 #[.string s] w fun e w' => e = .returned (.bool false) ∧ Kp w w' := by
  go_enter Tryd.func7, Tryd.ntmps7
  go_wp2
  go_quiet (fail)
  go_wp2
  go_ret
  exact ⟨rfl, by repeat (first | exact Kp.refl _ | apply Kp.drewN | apply Kp.drew | apply Kp.alloc)⟩
end Go.Proofs.YtlglnepfcihhiaaDoor
