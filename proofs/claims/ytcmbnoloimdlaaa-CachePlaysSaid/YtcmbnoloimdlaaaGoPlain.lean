/-
  A plain cell's value. No claim by itself. (Printed by mkcache.py.)
-/
import Derived.Test.YtcmbnoloimdlaaaSlHp
namespace Go.Proofs.GoC
open Go Go.Proofs.SL
set_option linter.unusedSimpArgs false
set_option linter.unusedVariables false
set_option maxRecDepth 10000
set_option maxHeartbeats 4000000
/-- A plain cell's value. -/
def toV : PV → Value
  | .str s => .string s
  | .int k n => .int k n
  | _ => undef
def plainP : PV → Bool
  | .str _ => true
  | .int _ _ => true
  | _ => false
theorem plain_V {p : PV} (h : plainP p = true) (β : Nat → Option Nat) (H : Heap) (w : World) : V β H w (toV p) p := by
  cases p <;> first
    | (cases h; done)
    | exact .str _
    | exact .int _ _
theorem plain_inv {p : PV} (h : plainP p = true) {β : Nat → Option Nat} {H : Heap} {w : World} {v : Value} (hv : V β H w v p) : v = toV p := by
  cases p <;> first
    | (cases h; done)
    | exact hv.str_inv
    | exact hv.int_inv
theorem plain_one {p : PV} (h : plainP p = true) : (toV p).oneCell' = true := by
  cases p <;> first
    | (cases h; done)
    | rfl
end Go.Proofs.GoC
