/-
  What the functions compute: texts compared. No claim by itself.
-/
import Derived.Test.YtcmbnoloimdlaaaGoOrd
import Derived.Test.YtcmbnoloimdlaaaSlHp
namespace Go.Proofs.GoC
open Go Go.Proofs.SL
set_option linter.unusedSimpArgs false
set_option linter.unusedVariables false
set_option maxRecDepth 10000
set_option maxHeartbeats 2000000

/-! Texts. -/
theorem cmpL_eq (a b : List UInt8) : (bs a = bs b) ↔ cmpL a b = 0 := bs_inj.trans (cmpL_ord.zero a b).symm

theorem c_cmp_isNaN_string (x : List UInt8) : PCall Try.prog 51 [.str (bs x)] (.bool false) := by
  intro H
  refine scall_of (ord := fun _ => []) (rs := [2]) Try.func51 rfl (by kernel_rfl) (by kernel_rfl) (by kernel_rfl) Try.ntmps51 fun hb hargs => go 200 (fun _ => false) mixed ?_
  simp (disch := omega) only [↓reduceIte, go_sem] <;> repeat with_reducible refine And.intro (by first | omega | decide) ?_
  exact fin rfl rfl

theorem c_cmp_Compare_string (x y : List UInt8) : PCall Try.prog 45 [.str (bs x), .str (bs y)] (.int .i64 (cmpL x y)) := by
  intro H
  refine scall_of (ord := fun _ => []) (rs := [4]) Try.func45 rfl (by kernel_rfl) (by kernel_rfl) (by kernel_rfl) Try.ntmps45 fun hb hargs => go 200 (fun _ => false) mixed ?_
  simp (disch := omega) only [↓reduceIte, go_sem] <;> repeat with_reducible refine And.intro (by first | omega | decide) ?_
  refine (c_cmp_isNaN_string x).on (go 200 (fun _ => false) mixed ?_)
  simp (disch := omega) only [↓reduceIte, go_sem] <;> repeat with_reducible refine And.intro (by first | omega | decide) ?_
  refine (c_cmp_isNaN_string y).on (go 200 (fun _ => false) mixed ?_)
  have hs := slt_cmp x y
  rcases cmpL_ord.one x y with h | h | h
  · have h1 : Op.bytesLess (bs x).toList (bs y).toList = true := by simpa [slt, h] using hs
    rw [h]
    simp (disch := omega) only [↓reduceIte, go_sem, h1] <;> repeat with_reducible refine And.intro (by first | omega | decide) ?_
    exact fin rfl rfl
  · have h1 : Op.bytesLess (bs x).toList (bs y).toList = false := by simpa [slt, h] using hs
    have h2 : (bs x = bs y) = True := eq_true ((cmpL_eq x y).mpr h)
    rw [h]
    simp (disch := omega) only [↓reduceIte, go_sem, h1, h2] <;> repeat with_reducible refine And.intro (by first | omega | decide) ?_
    exact fin rfl rfl
  · have h1 : Op.bytesLess (bs x).toList (bs y).toList = false := by simpa [slt, h] using hs
    have h2 : (bs x = bs y) = False := eq_false fun e => by have := (cmpL_eq x y).mp e; omega
    rw [h]
    simp (disch := omega) only [↓reduceIte, go_sem, h1, h2] <;> repeat with_reducible refine And.intro (by first | omega | decide) ?_
    exact fin rfl rfl

end Go.Proofs.GoC
