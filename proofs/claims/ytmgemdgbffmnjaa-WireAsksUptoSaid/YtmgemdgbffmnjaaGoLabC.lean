/-
  The laws LabelLoops, LabelRound. No claim by itself.
-/
import Derived.Test.YtmgemdgbffmnjaaGoLabB
namespace Go.Proofs.GoC
open Go Go.Proofs.SL
set_option linter.unusedSimpArgs false
set_option linter.unusedVariables false
set_option maxRecDepth 10000
set_option maxHeartbeats 4000000

theorem view_bys {H : Heap} {i ver : Nat} {tip : Bool} {B : List UInt8} (ho : H[i]? = some (some (.cells ver (bys B)))) : View H (.buf i ver 0 B.length 1 tip) (.sl 1 (bys B)) :=
  .buf ho (by rw [flat_bys, sub_bys]) bys_len bys_cells bys_bdd
theorem rdV_plain (r : RdR) : Plain (rdV r) := by
  cases r <;> refine .tup _ fun p hp => ?_ <;> simp only [List.mem_cons, List.not_mem_nil, or_false] at hp <;> rcases hp with rfl | rfl | rfl <;> constructor

end Go.Proofs.GoC
