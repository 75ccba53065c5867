/-
  A law's list of numbers; digits read back. No claim by itself.
-/
import Derived.Test.YtcmbnoloimdlaaaGoStd
namespace Go.Proofs.GoC
open Go Go.Proofs.SL
set_option linter.unusedSimpArgs false
set_option linter.unusedVariables false

def intsV (l : List Int) : List PV := l.map fun n => .int .i64 n
@[go_sem] theorem intsV_len {l : List Int} : (intsV l).length = l.length := List.length_map ..
theorem intsV_get {l : List Int} {n : Nat} (h : n < l.length) : (intsV l).getD n .any = .int .i64 (l.getD n 0) := by
  simp [intsV, List.getD_eq_getElem?_getD, h]

/-- What digits read. -/
def valD (l : List UInt8) : Nat := l.foldl (fun a c => a * 10 + (c.toNat - 48)) 0
theorem valD_dec (n : Nat) : valD (decF n) = n := by
  induction n using Nat.strongRecOn with
  | _ n ih =>
    unfold decF
    have hd : (UInt8.ofNat (48 + n % 10)).toNat - 48 = n % 10 := by
      rw [UInt8.toNat_ofNat']; omega
    split
    · show 0 * 10 + ((UInt8.ofNat (48 + n % 10)).toNat - 48) = n
      rw [hd]; omega
    · have h1 := ih (n / 10) (by omega)
      unfold valD at h1 ⊢
      rw [List.foldl_append, h1]
      show n / 10 * 10 + ((UInt8.ofNat (48 + n % 10)).toNat - 48) = n
      rw [hd]; omega
theorem decF_inj {m n : Nat} (h : decF m = decF n) : m = n := by rw [← valD_dec m, h, valD_dec]
end Go.Proofs.GoC
