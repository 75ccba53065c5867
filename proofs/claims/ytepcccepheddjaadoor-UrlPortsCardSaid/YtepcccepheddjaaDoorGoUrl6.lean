/-
  What the document's functions compute: addresses of the web. No claim by itself.
-/
import Derived.Test.YtepcccepheddjaaDoorGoUrl5
namespace Go.Proofs.GoC
open Go Go.Proofs.SL
set_option linter.unusedSimpArgs false
set_option linter.unusedVariables false
set_option maxRecDepth 10000
set_option maxHeartbeats 8000000

theorem suffix_get {A : List UInt8} {k : Nat} (h : k + 1 = A.length) : Lib.hasSuffix A [93] = true ↔ A.getD k 0 = 93 := by
  rcases List.eq_nil_or_concat A with rfl | ⟨q, z, rfl⟩
  · simp at h
  · rw [List.concat_eq_append] at *
    simp at h
    subst h
    rw [suffix_one, decide_eq_true_iff]
    simp [List.getD_eq_getElem?_getD]
def colonF (a : List UInt8) : Int := if Lib.hasSuffix a [93] = true then -1 else lastI 58 a

end Go.Proofs.GoC
