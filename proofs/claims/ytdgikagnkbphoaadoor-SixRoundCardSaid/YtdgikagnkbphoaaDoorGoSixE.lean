/-
  The law SixRound. No claim by itself.
-/
import Derived.Test.YtdgikagnkbphoaaDoorGoSixD
namespace Go.Proofs.GoC
open Go Go.Proofs.SL
set_option linter.unusedSimpArgs false
set_option linter.unusedVariables false
set_option maxRecDepth 10000
set_option maxHeartbeats 2000000

theorem print6_len (gs : List Nat) (hl : gs.length = 8) (hle : ∀ g ∈ gs, g ≤ 65535) : (print6 gs).length ≤ 100 := by
  unfold print6
  split
  · have l6 := mem_get hle 6
    have l7 := mem_get hle 7
    have := printF_len (gs.getD 6 0 * 65536 + gs.getD 7 0) (by omega)
    simp only [List.length_append, List.length_cons, List.length_nil]; omega
  · split
    · have := rowF_len gs hle; omega
    · have l1 := rowF_len (gs.take (runF (zeros gs)).1) (fun g hg => hle g (List.mem_of_mem_take hg))
      have l2 := rowF_len (gs.drop ((runF (zeros gs)).1 + (runF (zeros gs)).2)) (fun g hg => hle g (List.mem_of_mem_drop hg))
      rw [List.length_take] at l1
      rw [List.length_drop] at l2
      simp only [List.length_append, List.length_cons, List.length_nil]; omega

theorem c_abatislaw03_SixRound (gs : List Nat) (hl : gs.length = 8) (hle : ∀ g ∈ gs, g ≤ 65535) : GCall 6 [.agg (u16s gs)] (.bool true) := by
  intro H hG
  have t8 : List.take 8 (u16s gs) = u16s gs := List.take_of_length_le (by rw [u16s_len]; omega)
  have tg := u16s_tag hl
  have hlen := print6_len gs hl hle
  refine scall_of (ord := fun _ => []) (rs := [2]) Tryd.func6 rfl (by kernel_rfl) (by kernel_rfl) (by kernel_rfl) Tryd.ntmps6 fun hb hargs => go 200 (fun _ => false) mixed ?_
  simp (disch := omega) only [↓reduceIte, go_sem, hl, t8] <;> repeat with_reducible refine And.intro (by first | omega | decide) ?_
  refine (c_six_Print gs hl hle).on hG.app (go 200 (fun _ => false) mixed ?_)
  simp (disch := omega) only [↓reduceIte, go_sem, hl, t8] <;> repeat with_reducible refine And.intro (by first | omega | decide) ?_
  refine (c_six_Parse (print6 gs) (by omega)).on hG.app (go 200 (fun _ => false) mixed ?_)
  rw [parse_print gs hl hle]
  simp only [parseV]
  simp (disch := omega) only [↓reduceIte, go_sem, hl, t8] <;> repeat with_reducible refine And.intro (by first | omega | decide) ?_
  refine (c_six_Run gs hl).on (go 200 (fun _ => false) mixed ?_)
  simp (disch := omega) only [↓reduceIte, go_sem, hl, t8] <;> repeat with_reducible refine And.intro (by first | omega | decide) ?_
  refine (c_abatisref03_Run gs hl).on (go 200 (fun _ => false) mixed ?_)
  simp (disch := omega) only [↓reduceIte, go_sem, hl, t8] <;> repeat with_reducible refine And.intro (by first | omega | decide) ?_
  refine (c_abatisref03_Print gs hl hle).on (go 200 (fun _ => false) mixed ?_)
  simp (disch := omega) only [↓reduceIte, go_sem, hl, t8, tg] <;> repeat with_reducible refine And.intro (by first | omega | decide) ?_
  refine c_abatislaw03_lives.on hG.app (go 200 (fun _ => false) mixed ?_)
  simp (disch := omega) only [↓reduceIte, go_sem] <;> repeat with_reducible refine And.intro (by first | omega | decide) ?_
  exact fin_drop (.inr rfl) hb rfl (by simp)
end Go.Proofs.GoC
