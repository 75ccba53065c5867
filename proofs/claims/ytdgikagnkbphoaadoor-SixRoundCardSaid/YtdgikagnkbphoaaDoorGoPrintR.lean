/-
  What the functions compute: the document's text of an address of 128 bits. No claim by itself.
-/
import Derived.Test.YtdgikagnkbphoaaDoorGoM4
namespace Go.Proofs.GoC
open Go Go.Proofs.SL
set_option linter.unusedSimpArgs false
set_option linter.unusedVariables false
set_option maxRecDepth 10000
set_option maxHeartbeats 2000000

theorem mapd_no {gs : List Nat} (hl : gs.length = 8) {k : Nat} (hk : k < 5) (h : gs.getD k 0 ≠ 0) : mapd gs = false := by
  obtain ⟨a, b, c, d, e, f, g, i, rfl⟩ := len8 hl
  rcases k with _ | _ | _ | _ | _ | k
  · simp at h; simp [mapd, h]
  · simp at h; simp [mapd, h]
  · simp at h; simp [mapd, h]
  · simp at h; simp [mapd, h]
  · simp at h; simp [mapd, h]
  · omega
theorem mapd_end {gs : List Nat} (hl : gs.length = 8) (h : ∀ j, j < 5 → gs.getD j 0 = 0) : mapd gs = decide (gs.getD 5 0 = 65535) := by
  obtain ⟨a, b, c, d, e, f, g, i, rfl⟩ := len8 hl
  have h0 := h 0 (by omega); have h1 := h 1 (by omega); have h2 := h 2 (by omega); have h3 := h 3 (by omega); have h4 := h 4 (by omega)
  simp at h0 h1 h2 h3 h4
  subst h0 h1 h2 h3 h4
  simp [mapd]
  rfl

theorem c_abatisref03_Mapped (gs : List Nat) (hl : gs.length = 8) : PCall Tryd.prog 29 [.agg (u16s gs)] (.bool (mapd gs)) := by
  intro H
  have g5 := u16s_get (ns := gs) (k := 5) (by omega)
  refine scall_of (ord := fun _ => []) (rs := [2]) Tryd.func29 rfl (by kernel_rfl) (by kernel_rfl) (by kernel_rfl) Tryd.ntmps29 fun hb hargs => go 200 (fun _ => false) mixed ?_
  simp (disch := omega) only [↓reduceIte, go_sem] <;> repeat with_reducible refine And.intro (by first | omega | decide) ?_
  refine runs_loopA (fun k : Nat => k ≤ 5 ∧ ∀ j, j < k → gs.getD j 0 = 0) (fun k => 5 - k) [false, true, false, true]
    (fun k => slots 15 [.any, .ptr H.length 0 0, .any, .int .i64 k])
    (fun k => H ++ [some (.cells 0 (u16s gs))]) (by rfl) 0 ⟨Nat.zero_le _, fun j hj => absurd hj (Nat.not_lt_zero _)⟩ rfl rfl ?_
  rintro k ⟨hk, hno⟩
  refine go 200 (fun _ => false) mixed ?_
  by_cases hlt : k < 5
  · have g := u16s_get (ns := gs) (k := k) (by omega)
    have hlk : k < 8 := by omega
    by_cases h0 : gs.getD k 0 = 0
    · simp (disch := omega) only [↓reduceIte, go_sem, hlt, hl, hlk, g, h0] <;> repeat with_reducible refine And.intro (by first | omega | decide) ?_
      refine rnd_next (k + 1) ⟨by omega, fun j hj => ?_⟩ (by show 5 - (k + 1) < 5 - k; omega) rfl rfl
      rcases Nat.lt_or_ge j k with h | h
      · exact hno j h
      · obtain rfl : j = k := by omega
        exact h0
    · simp (disch := omega) only [↓reduceIte, go_sem, hlt, hl, hlk, g, h0] <;> repeat with_reducible refine And.intro (by first | omega | decide) ?_
      exact fin_drop (.inr rfl) hb (by simp [retV, mapd_no hl hlt h0]) (by simp)
  · simp (disch := omega) only [↓reduceIte, go_sem, hlt] <;> repeat with_reducible refine And.intro (by first | omega | decide) ?_
    have hk5 : k = 5 := by omega
    subst hk5
    refine go 200 (fun _ => false) mixed ?_
    simp (disch := omega) only [↓reduceIte, go_sem, hl, g5] <;> repeat with_reducible refine And.intro (by first | omega | decide) ?_
    exact fin_drop (.inr rfl) hb (by simp [retV, mapd_end hl hno]) (by simp)

theorem c_abatisref03_Print (gs : List Nat) (hl : gs.length = 8) (hle : ∀ g ∈ gs, g ≤ 65535) : PCall Tryd.prog 19 [.agg (u16s gs)] (.str (bs (print6 gs))) := by
  intro H
  have g6 := u16s_get (ns := gs) (k := 6) (by omega)
  have g7 := u16s_get (ns := gs) (k := 7) (by omega)
  have t8 : List.take 8 (u16s gs) = u16s gs := List.take_of_length_le (by rw [u16s_len]; omega)
  refine scall_of (ord := fun _ => []) (rs := [2]) Tryd.func19 rfl (by kernel_rfl) (by kernel_rfl) (by kernel_rfl) Tryd.ntmps19 fun hb hargs => go 200 (fun _ => false) mixed ?_
  simp (disch := omega) only [↓reduceIte, go_sem, hl, t8] <;> repeat with_reducible refine And.intro (by first | omega | decide) ?_
  refine (c_abatisref03_Mapped gs hl).on (go 200 (fun _ => false) mixed ?_)
  have hr8 := run_in _ (zeros_len.trans hl)
  unfold print6
  have l6 := mem_get hle 6
  have l7 := mem_get hle 7
  generalize gs.getD 6 0 = x6 at *
  generalize gs.getD 7 0 = x7 at *
  cases hm : mapd gs with
  | true =>
    simp (disch := omega) only [↓reduceIte, go_sem, hl, g6, g7, t8] <;> repeat with_reducible refine And.intro (by first | omega | decide) ?_
    refine (c_abatisref02_Print (x6 * 65536 + x7) (by omega)).on (go 200 (fun _ => false) mixed ?_)
    have := printF_len (x6 * 65536 + x7) (by omega)
    simp (disch := omega) only [↓reduceIte, go_sem, List.length_cons, List.length_nil] <;> repeat with_reducible refine And.intro (by first | omega | decide) ?_
    exact fin_drop (.inr rfl) hb (by simp [retV]) (by simp)
  | false =>
    simp only [Bool.false_eq_true, if_false]
    simp (disch := omega) only [↓reduceIte, go_sem, hl, g6, g7, t8] <;> repeat with_reducible refine And.intro (by first | omega | decide) ?_
    refine (c_abatisref03_Run gs hl).on (go 200 (fun _ => false) mixed ?_)
    obtain ⟨r, hr⟩ : ∃ r, r = runF (zeros gs) := ⟨_, rfl⟩
    rw [← hr] at hr8 ⊢
    by_cases h0 : r.2 = 0
    · rw [if_pos h0]
      simp (disch := omega) only [↓reduceIte, go_sem, hl, g6, g7, t8, h0] <;> repeat with_reducible refine And.intro (by first | omega | decide) ?_
      have hx := c_abatisref03_row (H := H ++ [some (.cells 0 (u16s gs))]) (grp_all hl hle)
      rw [hl] at hx
      refine hx.mono ?_
      rintro r' H' ⟨rfl, rfl⟩
      refine go 200 (fun _ => false) mixed ?_
      simp (disch := omega) only [↓reduceIte, go_sem] <;> repeat with_reducible refine And.intro (by first | omega | decide) ?_
      exact fin_drop (.inr rfl) hb rfl (by simp)
    · rw [if_neg h0]
      have hx := c_abatisref03_row (H := H ++ [some (.cells 0 (u16s gs))]) (grp_take hl hle r.1)
      rw [List.length_take, hl, Nat.min_eq_left (by omega)] at hx
      have hy := c_abatisref03_row (H := H ++ [some (.cells 0 (u16s gs))]) (grp_drop hl hle (r.1 + r.2) hr8)
      rw [List.length_drop, hl] at hy
      have l1 := rowF_len (gs.take r.1) (fun g hg => hle g (List.mem_of_mem_take hg))
      have l2 := rowF_len (gs.drop (r.1 + r.2)) (fun g hg => hle g (List.mem_of_mem_drop hg))
      rw [List.length_take, hl] at l1
      rw [List.length_drop, hl] at l2
      simp (disch := omega) only [↓reduceIte, go_sem, hl, g6, g7, t8, h0, Nat.sub_zero] <;> repeat with_reducible refine And.intro (by first | omega | decide) ?_
      refine ⟨_, hx, go 200 (fun _ => false) mixed ?_⟩
      simp (disch := omega) only [↓reduceIte, go_sem, List.length_append, List.length_cons, List.length_nil] <;> repeat with_reducible refine And.intro (by first | omega | decide) ?_
      refine ⟨_, hy, go 200 (fun _ => false) mixed ?_⟩
      simp (disch := omega) only [↓reduceIte, go_sem, List.length_append, List.length_cons, List.length_nil] <;> repeat with_reducible refine And.intro (by first | omega | decide) ?_
      exact fin_drop (.inr rfl) hb rfl (by simp)
end Go.Proofs.GoC
