/-
  What the functions compute: the document's row of zeros. No claim by itself.
-/
import Derived.Test.YtdgikagnkbphoaaDoorGoRun
namespace Go.Proofs.GoC
open Go Go.Proofs.SL
set_option linter.unusedSimpArgs false
set_option linter.unusedVariables false
set_option maxRecDepth 10000
set_option maxHeartbeats 2000000

def lead : List Bool → Nat
  | true :: zs => lead zs + 1
  | _ => 0

def refRunGo : List Bool → Nat → Nat → Nat → Nat × Nat
  | [], _, at', most => (at', most)
  | z :: zs, i, at', most => if 2 ≤ lead (z :: zs) ∧ most < lead (z :: zs) then refRunGo zs (i + 1) i (lead (z :: zs)) else refRunGo zs (i + 1) at' most

theorem len8 {α : Type} {l : List α} (h : l.length = 8) : ∃ a b c d e f g i, l = [a, b, c, d, e, f, g, i] := by
  match l, h with
  | [a, b, c, d, e, f, g, i], _ => exact ⟨a, b, c, d, e, f, g, i, rfl⟩

theorem run_eq8 : ∀ a b c d e f g h : Bool, refRunGo [a, b, c, d, e, f, g, h] 0 0 0 = runF [a, b, c, d, e, f, g, h] := by decide +kernel

theorem run_eq (zs : List Bool) (hl : zs.length = 8) : refRunGo zs 0 0 0 = runF zs := by
  obtain ⟨a, b, c, d, e, f, g, h, rfl⟩ := len8 hl
  exact run_eq8 a b c d e f g h

theorem lead_step {zs : List Bool} {k : Nat} (hk : k < zs.length) : lead (zs.drop k) = if zs.getD k false then lead (zs.drop (k + 1)) + 1 else 0 := by
  rw [List.drop_eq_getElem_cons hk]
  have : zs.getD k false = zs[k] := by simp [List.getD_eq_getElem?_getD, hk]
  rw [this]
  cases zs[k] <;> rfl

theorem lead_le : ∀ zs : List Bool, lead zs ≤ zs.length
  | [] => by simp [lead]
  | true :: zs => by have := lead_le zs; simp only [lead, List.length_cons]; omega
  | false :: zs => by simp [lead]

theorem zeros_get {gs : List Nat} {k : Nat} (h : k < gs.length) : (zeros gs).getD k false = (gs.getD k 0 == 0) := by
  simp [zeros, List.getD_eq_getElem?_getD, h]
theorem zeros_len {gs : List Nat} : (zeros gs).length = gs.length := List.length_map ..

theorem c_abatisref03_Run (gs : List Nat) (hl : gs.length = 8) : PCall Tryd.prog 18 [.agg (u16s gs)] (.tup [.int .i64 (runF (zeros gs)).1, .int .i64 (runF (zeros gs)).2]) := by
  intro H
  refine scall_of (ord := fun _ => []) (rs := [2, 3]) Tryd.func18 rfl (by kernel_rfl) (by kernel_rfl) (by kernel_rfl) Tryd.ntmps18 fun hb hargs => go 200 (fun _ => false) mixed ?_
  simp (disch := omega) only [↓reduceIte, go_sem] <;> repeat with_reducible refine And.intro (by first | omega | decide) ?_
  rw [← run_eq _ (zeros_len.trans hl)]
  obtain ⟨R, hR⟩ : ∃ R, R = refRunGo (zeros gs) 0 0 0 := ⟨_, rfl⟩
  rw [← hR]
  refine runs_loopA (fun x : Nat × Nat × Nat => x.1 ≤ 8 ∧ x.2.1 ≤ 8 ∧ x.2.2 ≤ 8 ∧ refRunGo ((zeros gs).drop x.1) x.1 x.2.1 x.2.2 = R) (fun x => 8 - x.1)
    [true, true, true, true, true, true, true]
    (fun x => slots 37 [.agg (u16s gs), .ptr H.length 0 0, .int .i64 0, .int .i64 0, .int .i64 x.2.1, .int .i64 x.2.2, .int .i64 x.1])
    (fun x => H ++ [some (.cells 0 (u16s gs))]) (by rfl) (0, 0, 0) ⟨by decide, by decide, by decide, hR.symm⟩ rfl rfl ?_
  rintro ⟨i, at', most⟩ ⟨hi, ha, hm, hgo⟩
  dsimp only at hi ha hm hgo
  refine go 200 (fun _ => false) mixed ?_
  by_cases hlt : i < 8
  · simp (disch := omega) only [↓reduceIte, go_sem, hlt] <;> repeat with_reducible refine And.intro (by first | omega | decide) ?_
    obtain ⟨n, hn⟩ : ∃ n, n = lead ((zeros gs).drop i) := ⟨_, rfl⟩
    have hn8 : n ≤ 8 - i := by have := lead_le ((zeros gs).drop i); rw [List.length_drop, zeros_len, hl] at this; omega
    have hstep : refRunGo ((zeros gs).drop i) i at' most = if 2 ≤ n ∧ most < n then refRunGo ((zeros gs).drop (i + 1)) (i + 1) i n else refRunGo ((zeros gs).drop (i + 1)) (i + 1) at' most := by
      rw [hn, List.drop_eq_getElem_cons (show i < (zeros gs).length by rw [zeros_len]; omega)]; rfl
    rw [hstep] at hgo
    refine runs_loopA (fun k : Nat => i + k ≤ 8 ∧ n = k + lead ((zeros gs).drop (i + k))) (fun k => 8 - (i + k))
      [true, true, true, true, true, true, true, true]
      (fun k => slots 37 [.agg (u16s gs), .ptr H.length 0 0, .int .i64 0, .int .i64 0, .int .i64 at', .int .i64 most, .int .i64 i, .int .i64 k])
      (fun _ => H ++ [some (.cells 0 (u16s gs))]) (by rfl) 0 ⟨by omega, by simp [hn]⟩ rfl rfl ?_
    rintro k ⟨hk, hnk⟩
    refine go 200 (fun _ => false) mixed ?_
    have fin1 : lead ((zeros gs).drop (i + k)) = 0 → n = k := fun h => by omega
    by_cases hik : i + k < 8
    · have g := u16s_get (ns := gs) (k := i + k) (by omega)
      have hst := lead_step (zs := zeros gs) (k := i + k) (by rw [zeros_len]; omega)
      rw [zeros_get (by omega)] at hst
      by_cases h0 : gs.getD (i + k) 0 = 0
      · rw [h0] at hst
        simp only [beq_self_eq_true, if_true] at hst
        simp (disch := omega) only [↓reduceIte, go_sem, hik, hl, g, h0] <;> repeat with_reducible refine And.intro (by first | omega | decide) ?_
        exact rnd_next (k + 1) ⟨by omega, by rw [hnk, hst, show i + (k + 1) = i + k + 1 by omega]; omega⟩ (by show 8 - (i + (k + 1)) < 8 - (i + k); omega) rfl rfl
      · have h0' : (gs.getD (i + k) 0 == 0) = false := by simpa using h0
        rw [h0'] at hst
        simp only [Bool.false_eq_true, if_false] at hst
        obtain rfl := fin1 hst
        simp (disch := omega) only [↓reduceIte, go_sem, hik, hl, g, h0] <;> repeat with_reducible refine And.intro (by first | omega | decide) ?_
        refine go 200 (fun _ => false) mixed ?_
        by_cases h2 : 2 ≤ n
        · by_cases hmo : most < n
          · rw [if_pos ⟨h2, hmo⟩] at hgo
            simp (disch := omega) only [↓reduceIte, go_sem, h2, hmo] <;> repeat with_reducible refine And.intro (by first | omega | decide) ?_
            exact rnd_next (i + 1, i, n) ⟨by show i + 1 ≤ 8; omega, hi, by show n ≤ 8; omega, hgo⟩ (by show 8 - (i + 1) < 8 - i; omega) rfl rfl
          · rw [if_neg (fun h => hmo h.2)] at hgo
            simp (disch := omega) only [↓reduceIte, go_sem, h2, hmo] <;> repeat with_reducible refine And.intro (by first | omega | decide) ?_
            exact rnd_next (i + 1, at', most) ⟨by show i + 1 ≤ 8; omega, ha, hm, hgo⟩ (by show 8 - (i + 1) < 8 - i; omega) rfl rfl
        · rw [if_neg (fun h => h2 h.1)] at hgo
          simp (disch := omega) only [↓reduceIte, go_sem, h2] <;> repeat with_reducible refine And.intro (by first | omega | decide) ?_
          exact rnd_next (i + 1, at', most) ⟨by show i + 1 ≤ 8; omega, ha, hm, hgo⟩ (by show 8 - (i + 1) < 8 - i; omega) rfl rfl
    · have hst : lead ((zeros gs).drop (i + k)) = 0 := by rw [List.drop_eq_nil_of_le (by rw [zeros_len]; omega)]; rfl
      obtain rfl := fin1 hst
      simp (disch := omega) only [↓reduceIte, go_sem, hik] <;> repeat with_reducible refine And.intro (by first | omega | decide) ?_
      refine go 200 (fun _ => false) mixed ?_
      by_cases h2 : 2 ≤ n
      · by_cases hmo : most < n
        · rw [if_pos ⟨h2, hmo⟩] at hgo
          simp (disch := omega) only [↓reduceIte, go_sem, h2, hmo] <;> repeat with_reducible refine And.intro (by first | omega | decide) ?_
          exact rnd_next (i + 1, i, n) ⟨by show i + 1 ≤ 8; omega, hi, by show n ≤ 8; omega, hgo⟩ (by show 8 - (i + 1) < 8 - i; omega) rfl rfl
        · rw [if_neg (fun h => hmo h.2)] at hgo
          simp (disch := omega) only [↓reduceIte, go_sem, h2, hmo] <;> repeat with_reducible refine And.intro (by first | omega | decide) ?_
          exact rnd_next (i + 1, at', most) ⟨by show i + 1 ≤ 8; omega, ha, hm, hgo⟩ (by show 8 - (i + 1) < 8 - i; omega) rfl rfl
      · rw [if_neg (fun h => h2 h.1)] at hgo
        simp (disch := omega) only [↓reduceIte, go_sem, h2] <;> repeat with_reducible refine And.intro (by first | omega | decide) ?_
        exact rnd_next (i + 1, at', most) ⟨by show i + 1 ≤ 8; omega, ha, hm, hgo⟩ (by show 8 - (i + 1) < 8 - i; omega) rfl rfl
  · simp (disch := omega) only [↓reduceIte, go_sem, hlt] <;> repeat with_reducible refine And.intro (by first | omega | decide) ?_
    have hk8 : i = 8 := by omega
    rw [List.drop_eq_nil_of_le (by rw [zeros_len]; omega)] at hgo
    unfold refRunGo at hgo
    subst hgo
    refine go 200 (fun _ => false) mixed ?_
    simp (disch := omega) only [↓reduceIte, go_sem] <;> repeat with_reducible refine And.intro (by first | omega | decide) ?_
    exact fin_drop (.inr rfl) hb rfl (by simp)
end Go.Proofs.GoC
