/-
  What the functions compute, part three: a part's number. No claim by itself.
-/
import Derived.Test.YtdgikagnkbphoaaDoorGoB
namespace Go.Proofs.GoC
open Go Go.Proofs.SL
set_option linter.unusedSimpArgs false
set_option linter.unusedVariables false
set_option maxRecDepth 10000

/-- The number of digits, 2^32 at most; none: there is one that is none. -/
def digF (base : Int) : List UInt8 → Int → Option Int
  | [], n => some n
  | b :: l, n => if digitV b.toNat < 0 ∨ base ≤ digitV b.toNat then none else digF base l (if 4294967296 < n * base + digitV b.toNat then 4294967296 else n * base + digitV b.toNat)

theorem numV_one (base : Int) (b : UInt8) : numV base [b] = if digitV b.toNat < 0 ∨ base ≤ digitV b.toNat then .tup [.int .i64 0, .bool false] else .tup [.int .i64 (digitV b.toNat), .bool true] := by
  have hd := digitV_le b.toNat
  by_cases h : digitV b.toNat < 0 ∨ base ≤ digitV b.toNat
  · rw [if_pos h]; simp [numV, numF, h]
  · rw [if_neg h]
    have : ¬ 1099511627776 < digitV b.toNat := by omega
    simp [numV, numF, h, this]

/-- A number, or none. -/
def resV : Option Int → PV
  | some n => .tup [.int .i64 n, .bool true]
  | none => .tup [.int .i64 0, .bool false]

/-- What stands behind the first of these heads that a part has. -/
def behindF (p : List UInt8) : List (List UInt8) → PV
  | [] => .tup [.str (bs []), .bool false]
  | h :: hs => if p.take h.length = h ∧ 1 < p.length then .tup [.str (bs (p.drop h.length)), .bool true] else behindF p hs

end Go.Proofs.GoC
