/-
  What the law FourLoose computes: true, for every text. No claim by itself.
-/
import Derived.Test.YtdgikagnkbphoaaDoorGoI
namespace Go.Proofs.GoC
open Go Go.Proofs.SL
set_option linter.unusedSimpArgs false
set_option linter.unusedVariables false
set_option maxRecDepth 10000

theorem c_abatisref01_Few (l : List UInt8) (m : Nat) : PCall Tryd.prog 14 [.str (bs l), .int .i64 m] (.str (bs (l.take m))) := by
  intro H
  refine scall_of (ord := fun _ => []) (rs := [4]) Tryd.func14 rfl (by kernel_rfl) (by kernel_rfl) (by kernel_rfl) Tryd.ntmps14 fun hb _ => go 100 (fun t => false) mixed ?_
  by_cases h : m < l.length
  · have h' : m ≤ l.length := by omega
    simp only [↓reduceIte, go_sem, h, h']
    exact fin rfl rfl
  · simp only [↓reduceIte, go_sem, h]
    exact fin (by simp only [retV, List.getD_cons_succ, List.getD_cons_zero]; rw [List.take_of_length_le (by omega)]) rfl

theorem looseV_two (ps : List (List UInt8)) : ∃ a b, looseV ps = .tup [.int .u32 a, .int .i64 b] := by
  unfold looseV
  split
  · split
    · exact ⟨_, _, rfl⟩
    · split
      · exact ⟨_, _, rfl⟩
      · exact ⟨_, _, rfl⟩
  · exact ⟨_, _, rfl⟩

theorem live_is : looseV (piecesF [48, 120, 55, 102, 46, 49]) = .tup [.int .u32 2130706433, .int .i64 2] := by kernel_rfl

end Go.Proofs.GoC
