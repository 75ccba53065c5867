/-
  The laws LabelNames, LabelUnder, LabelParents, LabelReads, LabelLoops, LabelRound. No claim by itself.
-/
import Derived.Test.YtmgemdgbffmnjaaGoLabA
namespace Go.Proofs.GoC
open Go Go.Proofs.SL
set_option linter.unusedSimpArgs false
set_option linter.unusedVariables false
set_option maxRecDepth 10000
set_option maxHeartbeats 4000000

theorem wr1 : wrN [97, 46, 98] [] [] = ([1, 97, 1, 98, 0], [([97, 46, 98], 0), ([98], 2)]) := by decide +kernel
theorem wr2 : wrN [99, 46, 98] [1, 97, 1, 98, 0] [([97, 46, 98], 0), ([98], 2)] = ([1, 97, 1, 98, 0, 1, 99, 192, 2], [([97, 46, 98], 0), ([98], 2), ([99, 46, 98], 5)]) := by decide +kernel
theorem WAt.fresh {H : Heap} : WAt (H ++ [some (.cells 0 [.nils, .nilm])]) H.length .nils .nilm [] [] :=
  ⟨by rw [get_tail0]; rfl, .inl ⟨rfl, rfl⟩, by simp [bufI], .inl ⟨rfl, rfl⟩, by simp [Far]⟩
theorem WStep.split {H H' : Heap} {x : Option OB} {bv mv : PV} (h : WStep (H ++ [x]) H.length .nils .nilm H' bv mv) : ∃ L, H' = H ++ L := by
  have h1 := (Keeps.app (F := [H.length]) (H := H) (L := [x])).trans (h.1.mono (G := [H.length]) fun j hj => .inl (by simpa [bufI, mapI] using hj))
  exact h1.split fun j hj => by simp only [List.mem_singleton] at hj; omega

end Go.Proofs.GoC
