/-
  What the functions compute, part seven: a loose text's address. No claim by itself.
-/
import Derived.Test.YtdgikagnkbphoaaDoorGoG
namespace Go.Proofs.GoC
open Go Go.Proofs.SL
set_option linter.unusedSimpArgs false
set_option linter.unusedVariables false
set_option maxRecDepth 10000

def room : Nat → Nat
  | 0 => 4294967296
  | 1 => 16777216
  | 2 => 65536
  | 3 => 256
  | _ => 1

/-- The number of the parts from the i-th on. -/
def looseGo : List (List UInt8) → Nat → Nat → Option Nat
  | [], acc, _ => some acc
  | [p], acc, i => match partF p with
    | some n => if (room i : Int) ≤ n then none else some (acc * room i + n.toNat)
    | none => none
  | p :: q :: t, acc, i => match partF p with
    | some n => if 255 < n then none else looseGo (q :: t) (acc * 256 + n.toNat) (i + 1)
    | none => none

def looseV (ps : List (List UInt8)) : PV :=
  if endsF ps = true then
    if 4 < ps.length then .tup [.int .u32 0, .int .i64 1] else match looseGo ps 0 0 with
      | some n => .tup [.int .u32 (IntKind.u32.wrap n), .int .i64 2]
      | none => .tup [.int .u32 0, .int .i64 1]
  else .tup [.int .u32 0, .int .i64 0]

theorem room_pow (k : Nat) (hk : k ≤ 4) : room k = 2 ^ (8 * (4 - k)) := by
  have : k = 0 ∨ k = 1 ∨ k = 2 ∨ k = 3 ∨ k = 4 := by omega
  rcases this with rfl | rfl | rfl | rfl | rfl <;> rfl

theorem room_in (k : Nat) : 1 ≤ room k ∧ room k ≤ 4294967296 := by unfold room; split <;> omega

theorem or_room {k acc n : Nat} (hk : k ≤ 4) (h : acc * room k < 4294967296) (hn : n < room k) : bitOp .or .i64 ((acc * room k : Nat) : Int) (n : Int) = ((acc * room k + n : Nat) : Int) := by
  rw [room_pow k hk] at *
  have h2 : 2 ^ (8 * (4 - k)) ≤ 4294967296 := by rw [← room_pow k hk]; exact (room_in k).2
  exact or_add hn (by omega)

theorem shl_room (k : Nat) (hk : k < 4) (n : Int) (h0 : 0 ≤ n) (h1 : n ≤ 255) : IntKind.i64.wrap (n * 2 ^ (min (8 * (3 - k)) 64)) = n * room (k + 1) := by
  have : k = 0 ∨ k = 1 ∨ k = 2 ∨ k = 3 := by omega
  rcases this with rfl | rfl | rfl | rfl <;> simp only [room] <;> rw [w64] <;> simp <;> omega

theorem shl_one (k : Nat) (hk : k < 4) : IntKind.i64.wrap (1 * 2 ^ (min (8 * (4 - k)) 64)) = room k := by
  have : k = 0 ∨ k = 1 ∨ k = 2 ∨ k = 3 := by omega
  rcases this with rfl | rfl | rfl | rfl <;> rfl

end Go.Proofs.GoC
