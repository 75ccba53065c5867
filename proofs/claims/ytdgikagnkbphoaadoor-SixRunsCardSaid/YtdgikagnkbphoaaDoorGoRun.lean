/-
  What the functions compute: an address's row of zeros. No claim by itself.
-/
import Derived.Test.YtdgikagnkbphoaaDoorGoHex
namespace Go.Proofs.GoC
open Go Go.Proofs.SL
set_option linter.unusedSimpArgs false
set_option linter.unusedVariables false
set_option maxRecDepth 10000
set_option maxHeartbeats 2000000

def u16s (ns : List Nat) : List PV := ns.map fun n => .int .u16 (n : Nat)
@[go_sem] theorem u16s_len {ns : List Nat} : (u16s ns).length = ns.length := List.length_map ..
theorem u16s_get {ns : List Nat} {k : Nat} (h : k < ns.length) : (u16s ns).getD k .any = .int .u16 (ns.getD k 0 : Nat) := by
  simp [u16s, List.getD_eq_getElem?_getD, h]

/-- The row of zeros, group by group: from place i on, so many zeros just ahead, and the longest row so far. -/
def runGo : List Bool → Nat → Nat → Nat → Nat → Nat × Nat
  | [], _, _, at', most => (at', most)
  | z :: zs, i, n, at', most =>
    let n := if z then n + 1 else 0
    if most < n then runGo zs (i + 1) n (i + 1 - n) n else runGo zs (i + 1) n at' most

/-- Where the row of zeros stands that is two colons, and how many groups it has. -/
def runF (zs : List Bool) : Nat × Nat :=
  let r := runGo zs 0 0 0 1
  if r.2 < 2 then (0, 0) else r

def zeros (gs : List Nat) : List Bool := gs.map (· == 0)

theorem runGo_in : ∀ (zs : List Bool) (i n at' most : Nat), n ≤ i → at' + most ≤ i + 1 → (runGo zs i n at' most).1 + (runGo zs i n at' most).2 ≤ i + zs.length + 1
  | [], i, n, at', most, _, h => by simp only [runGo, List.length_nil]; omega
  | z :: zs, i, n, at', most, hn, h => by
    have h1 : (if z then n + 1 else 0) ≤ i + 1 := by split <;> omega
    simp only [runGo, List.length_cons]
    generalize (if z then n + 1 else 0) = m at *
    split
    · have := runGo_in zs (i + 1) m (i + 1 - m) m h1 (by omega)
      omega
    · have := runGo_in zs (i + 1) m at' most h1 (by omega)
      omega

@[go_sem] theorem u16s_one {gs : List Nat} : (u16s gs).all PV.one = true := by simp [u16s, PV.one]

theorem c_six_Run (gs : List Nat) (hl : gs.length = 8) : PCall Tryd.prog 10 [.agg (u16s gs)] (.tup [.int .i64 (runF (zeros gs)).1, .int .i64 (runF (zeros gs)).2]) := by
  intro H
  refine scall_of (ord := fun _ => []) (rs := [2, 3]) Tryd.func10 rfl (by kernel_rfl) (by kernel_rfl) (by kernel_rfl) Tryd.ntmps10 fun hb hargs => go 200 (fun _ => false) mixed ?_
  simp (disch := omega) only [↓reduceIte, go_sem] <;> repeat with_reducible refine And.intro (by first | omega | decide) ?_
  obtain ⟨R, hR⟩ : ∃ R, R = runGo (zeros gs) 0 0 0 1 := ⟨_, rfl⟩
  have hR8 : R.1 ≤ 9 ∧ R.2 ≤ 9 := by have := runGo_in (zeros gs) 0 0 0 1 (by omega) (by omega); rw [← hR] at this; simp only [zeros, List.length_map, hl] at this; omega
  unfold runF
  rw [← hR]
  refine runs_loopA (fun x : Nat × Nat × Nat × Nat => x.1 ≤ 8 ∧ x.2.1 ≤ x.1 ∧ x.2.2.1 + x.2.2.2 ≤ x.1 + 1 ∧ runGo ((zeros gs).drop x.1) x.1 x.2.1 x.2.2.1 x.2.2.2 = R) (fun x => 8 - x.1)
    [true, true, true, true, true, true, true, false, true]
    (fun x => slots 30 [.agg (u16s gs), .ptr H.length 0 0, .int .i64 0, .int .i64 0, .int .i64 x.2.2.1, .int .i64 x.2.2.2, .int .i64 x.2.1, .any, .int .i64 x.1])
    (fun x => H ++ [some (.cells 0 (u16s gs))]) (by rfl) (0, 0, 0, 1) ⟨by decide, by decide, by decide, hR.symm⟩ rfl rfl ?_
  rintro ⟨k, n, at', most⟩ ⟨hk, hn, hm, hgo⟩
  dsimp only at hk hn hm hgo
  refine go 200 (fun _ => false) mixed ?_
  by_cases hlt : k < 8
  · have g := u16s_get (ns := gs) (k := k) (by omega)
    have hkz : k < (zeros gs).length := by simp [zeros]; omega
    have hz : (zeros gs)[k] = (gs.getD k 0 == 0) := by simp [zeros, List.getD_eq_getElem?_getD, show k < gs.length by omega]
    rw [List.drop_eq_getElem_cons hkz, hz] at hgo
    unfold runGo at hgo
    have hn0 : ¬ most < 0 := by omega
    by_cases h0 : gs.getD k 0 = 0
    · rw [h0] at hgo
      simp only [beq_self_eq_true, if_true] at hgo
      by_cases hmo : most < n + 1
      · rw [if_pos hmo] at hgo
        simp (disch := omega) only [↓reduceIte, go_sem, hlt, hl, g, h0, hmo] <;> repeat with_reducible refine And.intro (by first | omega | decide) ?_
        exact rnd_next (k + 1, n + 1, k + 1 - (n + 1), n + 1) ⟨by show k + 1 ≤ 8; omega, by show n + 1 ≤ k + 1; omega, by show k + 1 - (n + 1) + (n + 1) ≤ k + 1 + 1; omega, hgo⟩ (by show 8 - (k + 1) < 8 - k; omega) rfl rfl
      · rw [if_neg hmo] at hgo
        simp (disch := omega) only [↓reduceIte, go_sem, hlt, hl, g, h0, hmo] <;> repeat with_reducible refine And.intro (by first | omega | decide) ?_
        exact rnd_next (k + 1, n + 1, at', most) ⟨by show k + 1 ≤ 8; omega, by show n + 1 ≤ k + 1; omega, by show at' + most ≤ k + 1 + 1; omega, hgo⟩ (by show 8 - (k + 1) < 8 - k; omega) rfl rfl
    · have h0' : (gs.getD k 0 == 0) = false := by simpa using h0
      rw [h0'] at hgo
      simp only [Bool.false_eq_true, if_false] at hgo
      rw [if_neg hn0] at hgo
      simp (disch := omega) only [↓reduceIte, go_sem, hlt, hl, g, h0, hn0] <;> repeat with_reducible refine And.intro (by first | omega | decide) ?_
      exact rnd_next (k + 1, 0, at', most) ⟨by show k + 1 ≤ 8; omega, by show 0 ≤ k + 1; omega, by show at' + most ≤ k + 1 + 1; omega, hgo⟩ (by show 8 - (k + 1) < 8 - k; omega) rfl rfl
  · simp (disch := omega) only [↓reduceIte, go_sem, hlt] <;> repeat with_reducible refine And.intro (by first | omega | decide) ?_
    have hk8 : k = 8 := by omega
    rw [List.drop_eq_nil_of_le (by simp [zeros]; omega)] at hgo
    unfold runGo at hgo
    subst hgo
    refine go 200 (fun _ => false) mixed ?_
    by_cases h2 : most < 2
    · simp (disch := omega) only [↓reduceIte, go_sem, h2] <;> repeat with_reducible refine And.intro (by first | omega | decide) ?_
      exact fin_drop (.inr rfl) hb rfl (by simp)
    · simp (disch := omega) only [↓reduceIte, go_sem, h2] <;> repeat with_reducible refine And.intro (by first | omega | decide) ?_
      exact fin_drop (.inr rfl) hb rfl (by simp)
end Go.Proofs.GoC
