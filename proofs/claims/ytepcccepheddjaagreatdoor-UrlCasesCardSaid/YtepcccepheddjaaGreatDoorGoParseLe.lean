/-
  Plain laws of texts of the six kind, apart from the addresses. No claim by itself.
-/
import Derived.Test.YtepcccepheddjaaGreatDoorGoSixF
namespace Go.Proofs.GoC
open Go Go.Proofs.SL
set_option linter.unusedSimpArgs false
set_option linter.unusedVariables false
set_option maxRecDepth 10000
set_option maxHeartbeats 2000000

theorem parseF_le {s : List UInt8} {l : List Nat} (h : parseF s = some l) : ∀ g ∈ l, g ≤ 65535 := by
  unfold parseF at h
  generalize hx : groupsF (!(Lib.cut s [58, 58]).2.2) (Lib.cut s [58, 58]).1 = x at h
  generalize hy : groupsF true (Lib.cut s [58, 58]).2.1 = y at h
  generalize (Lib.cut s [58, 58]).2.2 = c at h
  cases x with
  | none => cases y <;> cases h
  | some a =>
    cases y with
    | none => cases h
    | some b =>
      simp only [parse2] at h
      have ha := groupsF_le _ _ _ hx
      have hb := groupsF_le _ _ _ hy
      have key : ∀ n, a ++ List.replicate n 0 ++ b = l → ∀ g ∈ l, g ≤ 65535 := by
        intro n e g hg
        rw [← e] at hg
        simp only [List.mem_append, List.mem_replicate] at hg
        rcases hg with (hg | hg) | hg
        · exact ha g hg
        · omega
        · exact hb g hg
      split at h
      · split at h
        · exact key _ (Option.some.inj h)
        · cases h
      · split at h
        · exact key _ (Option.some.inj h)
        · cases h

theorem print6_len4 (gs : List Nat) (hl : gs.length = 8) (hle : ∀ g ∈ gs, g ≤ 65535) : (print6 gs).length ≤ 100 := by
  unfold print6
  split
  · have l6 := mem_get hle 6
    have l7 := mem_get hle 7
    have := printF_len (gs.getD 6 0 * 65536 + gs.getD 7 0) (by omega)
    simp only [List.length_append, List.length_cons, List.length_nil]; omega
  · split
    · have := rowF_len gs hle; omega
    · have l1 := rowF_len (gs.take (runF (zeros gs)).1) (fun g hg => hle g (List.mem_of_mem_take hg))
      have l2 := rowF_len (gs.drop ((runF (zeros gs)).1 + (runF (zeros gs)).2)) (fun g hg => hle g (List.mem_of_mem_drop hg))
      rw [List.length_take] at l1
      rw [List.length_drop] at l2
      simp only [List.length_append, List.length_cons, List.length_nil]; omega

end Go.Proofs.GoC
