/-
  What the law FourLoose computes: true, for every text. No claim by itself.
-/
import Derived.Test.YtdjdhcljdcljoaaTryI
namespace Go.Proofs.TryC
open Go Go.Proofs.SL
set_option linter.unusedSimpArgs false
set_option linter.unusedVariables false
set_option maxRecDepth 10000

theorem c6 (l : List UInt8) (m : Nat) : PCall Try.prog 6 [.str (bs l), .int .i64 m] (.str (bs (l.take m))) := by
  intro H
  refine scall_of (ord := fun _ => []) (rs := [4]) Try.func6 rfl (by kernel_rfl) (by kernel_rfl) (by kernel_rfl) Try.ntmps6 fun hb _ => go 100 (fun t => false) mixed ?_
  by_cases h : m < l.length
  · have h' : m ≤ l.length := by omega
    simp only [↓reduceIte, go_sem, h, h']
    exact fin rfl rfl
  · simp only [↓reduceIte, go_sem, h]
    exact fin (by simp only [retV, List.getD_cons_succ, List.getD_cons_zero]; rw [List.take_of_length_le (by omega)]) rfl

theorem looseV_two (ps : List (List UInt8)) : ∃ a b, looseV ps = .tup [.int .u32 a, .int .i64 b] := by
  unfold looseV
  split
  · split
    · exact ⟨_, _, rfl⟩
    · split
      · exact ⟨_, _, rfl⟩
      · exact ⟨_, _, rfl⟩
  · exact ⟨_, _, rfl⟩

theorem live_is : looseV (piecesF [48, 120, 55, 102, 46, 49]) = .tup [.int .u32 2130706433, .int .i64 2] := by kernel_rfl

theorem c9 : PCall Try.prog 9 [] (.bool true) := by
  intro H
  refine scall_of (ord := fun _ => []) (rs := [0]) Try.func9 rfl (by kernel_rfl) (by kernel_rfl) (by kernel_rfl) Try.ntmps9 fun hb _ => go 100 (fun t => false) mixed ?_
  simp only [↓reduceIte, go_sem]
  refine (c7 [48, 120, 55, 102, 46, 49] (by decide)).on (go 100 (fun t => false) mixed ?_)
  rw [live_is]
  simp only [↓reduceIte, go_sem]
  exact fin rfl rfl

theorem c3 (l : List UInt8) : PCall Try.prog 3 [.str (bs l)] (.bool true) := by
  intro H
  refine scall_of (ord := fun _ => []) (rs := [2]) Try.func3 rfl (by kernel_rfl) (by kernel_rfl) (by kernel_rfl) Try.ntmps3 fun hb _ => go 100 (fun t => false) mixed ?_
  simp only [↓reduceIte, go_sem]
  refine (c6 l 60).on (go 100 (fun t => false) mixed ?_)
  have hl : (l.take 60).length < 900000 := by rw [List.length_take]; omega
  generalize l.take 60 = s at *
  simp only [↓reduceIte, go_sem]
  refine (c7 s hl).on (go 100 (fun t => false) mixed ?_)
  obtain ⟨a, b, hab⟩ := looseV_two (piecesF s)
  rw [hab]
  simp only [↓reduceIte, go_sem]
  refine (c8 s hl).on (go 100 (fun t => false) mixed ?_)
  rw [hab]
  simp only [↓reduceIte, go_sem]
  refine c9.on (go 100 (fun t => false) mixed ?_)
  simp only [↓reduceIte, go_sem]
  exact fin rfl rfl
end Go.Proofs.TryC
