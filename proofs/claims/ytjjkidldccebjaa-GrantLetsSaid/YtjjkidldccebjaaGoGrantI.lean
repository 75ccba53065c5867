/-
  What a law is handed as a list of keys. No claim by itself.
-/
import Derived.Test.YtjjkidldccebjaaGoGrantH
import Derived.Test.YtjjkidldccebjaaSlArgS
namespace Go.Proofs.GoC
open Go Go.Proofs.SL
set_option linter.unusedSimpArgs false
set_option linter.unusedVariables false

/-- What a law is handed as a list of keys. -/
theorem keys_of {ys : List (List PV)} (h : ∀ y ∈ ys, y.map tagP = ([.s, .s, .i .i64, .s, .s, .i .i64, .s, .i .i64, .i .u8, .i .u8, .i .u8, .i .u8, .i .u8, .i .u8, .i .u8, .i .u8, .i .u8, .i .u8, .i .u8, .i .u8, .i .u8, .i .u8, .i .u8, .i .u8] : List Tag).map some ∧ ∀ q ∈ y, wfP q) : ∃ l : List GKey, ys.map (wrapE true) = ksV l ∧ l.length = ys.length ∧ ∀ k ∈ l, KeyOk k := by
  induction ys with
  | nil => exact ⟨[], rfl, rfl, by simp⟩
  | cons y ys ih =>
    obtain ⟨l, hB, hl, hm⟩ := ih fun z hz => h z (List.mem_cons_of_mem _ hz)
    obtain ⟨h1, h2⟩ := h y (by simp)
    obtain ⟨k, rfl, hk⟩ := key_of h1 h2
    refine ⟨k :: l, ?_, by simp [hl], by simp; exact ⟨hk, hm⟩⟩
    rw [List.map_cons, hB]; rfl
theorem org_of {qs : List PV} (h : qs.map tagP = ([.s, .s, .i .i64] : List Tag).map some) (hw : ∀ p ∈ qs, wfP p) : ∃ o : Org, qs = orgC o ∧ True := by
  obtain ⟨q1, x1, rfl, g1, w1, h1, hw1⟩ := cells_cons h hw
  obtain ⟨q2, x2, rfl, g2, w2, h2, hw2⟩ := cells_cons h1 hw1
  obtain ⟨q3, x3, rfl, g3, w3, h3, hw3⟩ := cells_cons h2 hw2
  obtain rfl := cells_nil h3
  obtain ⟨n1, rfl, _⟩ := cell_str g1 w1
  obtain ⟨n2, rfl, _⟩ := cell_str g2 w2
  obtain ⟨n3, rfl, _⟩ := cell_i64 g3 w3
  exact ⟨⟨n1, n2, n3⟩, rfl, trivial⟩
end Go.Proofs.GoC
