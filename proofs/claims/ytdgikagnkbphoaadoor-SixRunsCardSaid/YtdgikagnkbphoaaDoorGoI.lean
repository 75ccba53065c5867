/-
  What the functions compute, part eight: a loose text's address in the reference. No claim by itself.
-/
import Derived.Test.YtdgikagnkbphoaaDoorGoH
namespace Go.Proofs.GoC
open Go Go.Proofs.SL
set_option linter.unusedSimpArgs false
set_option linter.unusedVariables false
set_option maxRecDepth 10000
set_option maxHeartbeats 1000000

theorem room_step (k : Nat) (hk : k < 4) : room k = 256 * room (k + 1) := by
  have hk4 : k = 0 ∨ k = 1 ∨ k = 2 ∨ k = 3 := by omega
  rcases hk4 with rfl | rfl | rfl | rfl <;> rfl

theorem room_top (k : Nat) (hk : k ≤ 4) : 256 ^ k * room k = 4294967296 := by
  have hk4 : k = 0 ∨ k = 1 ∨ k = 2 ∨ k = 3 ∨ k = 4 := by omega
  rcases hk4 with rfl | rfl | rfl | rfl | rfl <;> rfl

theorem room_next {k acc n : Nat} (hk : k < 4) (h : acc * room k < 4294967296) (hn : n ≤ 255) : (acc * 256 + n) * room (k + 1) < 4294967296 := by
  rw [← room_top k (by omega)] at h
  rw [← room_top (k + 1) (by omega)]
  have h1 : acc < 256 ^ k := Nat.lt_of_mul_lt_mul_right h
  have h2 : acc * 256 + n < 256 ^ (k + 1) := by
    rw [Nat.pow_succ]
    generalize 256 ^ k = X at *
    omega
  exact Nat.mul_lt_mul_of_pos_right h2 (by have := (room_in (k + 1)).1; omega)

theorem last_drop (ps : List (List UInt8)) (k : Nat) (h : k + 1 = ps.length) : ps.drop k = [lastF ps] := by
  have hk : k < ps.length := by omega
  rw [List.drop_eq_getElem_cons hk, List.drop_eq_nil_of_le (by omega), ← getDL_of hk]
  unfold lastF
  rw [show ps.length - 1 = k by omega]

end Go.Proofs.GoC
