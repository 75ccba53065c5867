/-
  The laws SixWhole, SixGaps, SixDots. No claim by itself.
-/
import Derived.Test.YtipbijklplfkhaaGreatDoorGoSixF
namespace Go.Proofs.GoC
open Go Go.Proofs.SL
set_option linter.unusedSimpArgs false
set_option linter.unusedVariables false
set_option maxRecDepth 10000
set_option maxHeartbeats 4000000

theorem hexU_str (n : Nat) (h : n < 16) : List.drop n (48 :: List.take n ([49, 50, 51, 52, 53, 54, 55, 56, 57, 65, 66, 67, 68, 69, 70] : List UInt8)) = [hexU n] := by
  have : ∀ n : Fin 16, List.drop n.val (48 :: List.take n.val ([49, 50, 51, 52, 53, 54, 55, 56, 57, 65, 66, 67, 68, 69, 70] : List UInt8)) = [hexU n.val] := by decide +kernel
  exact this ⟨n, h⟩

theorem wholeF_len (gs : List Nat) : (wholeF gs).length ≤ gs.length * 5 := by
  have := joinL_len [58] 4 (gs.map (hexW 4)) (fun p hp => by
    obtain ⟨n, _, rfl⟩ := List.mem_map.mp hp
    rw [hexW_len]; exact Nat.le_refl _)
  simpa [wholeF] using this

def z8 : List Nat := [0, 0, 0, 0, 0, 0, 0, 0]
theorem parseV_none : parseV none = .tup [.agg (u16s z8), .bool false] := rfl
theorem parseV_some (gs : List Nat) : parseV (some gs) = .tup [.agg (u16s gs), .bool true] := rfl
@[go_sem] theorem take_z8 : List.take 8 (u16s z8) = u16s z8 := rfl
@[go_sem] theorem len_z8 : z8.length = 8 := rfl

end Go.Proofs.GoC
