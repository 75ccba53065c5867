/-
  What a law is handed as a list of deeds. No claim by itself.
-/
import Derived.Test.YtjjkidldccebjaaGoGrantT
import Derived.Test.YtjjkidldccebjaaGoGrantI
import Derived.Test.YtjjkidldccebjaaSlArgS
namespace Go.Proofs.GoC
open Go Go.Proofs.SL
set_option linter.unusedSimpArgs false
set_option linter.unusedVariables false

theorem deeds_of {ys : List (List PV)} (h : ∀ y ∈ ys, y.map tagP = ([.i .i64, .i .i64, .i .i64, .s, .s, .i .i64, .s, .s, .i .i64, .s, .i .i64, .i .u8, .i .u8, .i .u8, .i .u8, .i .u8, .i .u8, .i .u8, .i .u8, .i .u8, .i .u8, .i .u8, .i .u8, .i .u8, .i .u8, .i .u8, .i .u8] : List Tag).map some ∧ ∀ q ∈ y, wfP q) : ∃ l : List Deed, ys.map (wrapE true) = dsV l ∧ l.length = ys.length ∧ ∀ k ∈ l, DeedOk k := by
  induction ys with
  | nil => exact ⟨[], rfl, rfl, by simp⟩
  | cons y ys ih =>
    obtain ⟨l, hB, hl, hm⟩ := ih fun z hz => h z (List.mem_cons_of_mem _ hz)
    obtain ⟨h0, hw⟩ := h y (by simp)
    obtain ⟨q1, x1, rfl, g1, w1, h1, hw1⟩ := cells_cons h0 hw
    obtain ⟨q2, x2, rfl, g2, w2, h2, hw2⟩ := cells_cons h1 hw1
    obtain ⟨q3, x3, rfl, g3, w3, h3, hw3⟩ := cells_cons h2 hw2
    obtain ⟨k, rfl, hk⟩ := key_of h3 hw3
    obtain ⟨n1, rfl, b1⟩ := cell_i64 g1 w1
    obtain ⟨n2, rfl, b2⟩ := cell_i64 g2 w2
    obtain ⟨n3, rfl, b3⟩ := cell_i64 g3 w3
    refine ⟨⟨n1, n2, n3, k⟩ :: l, ?_, by simp [hl], by simp; exact ⟨⟨b2.1, b2.2, b3.1, b3.2, hk⟩, hm⟩⟩
    rw [List.map_cons, hB]; rfl
end Go.Proofs.GoC
