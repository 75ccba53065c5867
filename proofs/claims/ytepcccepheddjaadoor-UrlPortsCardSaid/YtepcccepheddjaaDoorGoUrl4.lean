/-
  What the document's functions compute: hosts, schemes, addresses of the web. No claim by itself.
-/
import Derived.Test.YtepcccepheddjaaDoorGoUrl3
namespace Go.Proofs.GoC
open Go Go.Proofs.SL
set_option linter.unusedSimpArgs false
set_option linter.unusedVariables false
set_option maxRecDepth 10000
set_option maxHeartbeats 4000000

theorem suffix_one (q : List UInt8) (z c : UInt8) : Lib.hasSuffix (q ++ [z]) [c] = decide (z = c) := by
  simp only [Lib.hasSuffix, List.isSuffixOf, List.reverse_append, List.reverse_cons, List.reverse_nil, List.nil_append, List.cons_append, List.isPrefixOf, Bool.and_true]
  by_cases h : z = c
  · subst h; rw [decide_eq_true rfl]; exact beq_self_eq_true z
  · rw [decide_eq_false h]; exact beq_eq_false_iff_ne.mpr (Ne.symm h)
theorem suffix_nil (c : UInt8) : Lib.hasSuffix [] [c] = false := rfl
theorem okI_byte (b : UInt8) : okI (b.toNat : Nat) = true ∨ okI (b.toNat : Nat) = false := by cases okI (b.toNat : Nat) <;> simp

def sch1 (s : List UInt8) : Prop := 7 ≤ s.length ∧ 0 < portI (lowF (s.take 4)) ∧ (s.take 7).drop 4 = sep3
def sch2 (s : List UInt8) : Prop := 8 ≤ s.length ∧ 0 < portI (lowF (s.take 5)) ∧ (s.take 8).drop 5 = sep3
open Classical in
noncomputable def schemeF (s : List UInt8) : List UInt8 × Nat :=
  if sch1 s then (lowF (s.take 4), 7) else if sch2 s then (lowF (s.take 5), 8) else ([], 0)

end Go.Proofs.GoC
