/-
  The law SixRuns; the document's text of an address of 128 bits. No claim by itself.
-/
import Derived.Test.YtdgikagnkbphoaaDoorGoPrint
namespace Go.Proofs.GoC
open Go Go.Proofs.SL
set_option linter.unusedSimpArgs false
set_option linter.unusedVariables false
set_option maxRecDepth 10000
set_option maxHeartbeats 2000000

theorem lives_print : print6 [8193, 3512, 0, 0, 1, 0, 0, 1] = [50, 48, 48, 49, 58, 100, 98, 56, 58, 58, 49, 58, 48, 58, 48, 58, 49] := by decide +kernel

theorem c_abatislaw03_lives : GCall 11 [] (.bool true) := by
  intro H hG
  refine scall_of (ord := fun _ => []) (rs := [0]) Tryd.func11 rfl (by kernel_rfl) (by kernel_rfl) (by kernel_rfl) Tryd.ntmps11 fun hb hargs => go 200 (fun _ => false) mixed ?_
  simp (disch := omega) only [↓reduceIte, go_sem] <;> repeat with_reducible refine And.intro (by first | omega | decide) ?_
  have h := c_six_Print [8193, 3512, 0, 0, 1, 0, 0, 1] rfl (by decide)
  rw [lives_print] at h
  refine h.on hG (go 200 (fun _ => false) mixed ?_)
  simp (disch := omega) only [↓reduceIte, go_sem] <;> repeat with_reducible refine And.intro (by first | omega | decide) ?_
  exact fin rfl rfl

@[go_sem] theorem up_max1 {a : Nat} : max (a : Int) 1 = ((max a 1 : Nat) : Int) := by omega

theorem m10 : (if (1 : Int) > 0 then (1 : Int) else 0) = 1 := rfl

def runsOk : List Bool → Nat → Nat → Nat → Nat → Bool
  | [], _, _, _, _ => true
  | z :: zs, i, run, at', n =>
    let run := if z then run + 1 else 0
    if max n 1 < run ∨ (run = n ∧ 0 < n ∧ i + 1 - run < at') then false
    else if at' ≤ i ∧ i < at' + n ∧ z = false then false
    else runsOk zs (i + 1) run at' n

def runsLaw (zs : List Bool) : Bool :=
  let r := runF zs
  decide (r.2 ≠ 1 ∧ r.2 ≤ 8 ∧ r.1 + r.2 ≤ 8 ∧ ¬ (r.2 = 0 ∧ r.1 ≠ 0)) && runsOk zs 0 0 r.1 r.2
theorem runs_law8 : ∀ a b c d e f g h : Bool, runsLaw [a, b, c, d, e, f, g, h] = true := by decide +kernel
theorem runs_law (zs : List Bool) (hl : zs.length = 8) : ((runF zs).2 ≠ 1 ∧ (runF zs).2 ≤ 8 ∧ (runF zs).1 + (runF zs).2 ≤ 8 ∧ ¬ ((runF zs).2 = 0 ∧ (runF zs).1 ≠ 0)) ∧ runsOk zs 0 0 (runF zs).1 (runF zs).2 = true := by
  obtain ⟨a, b, c, d, e, f, g, h, rfl⟩ := len8 hl
  have := runs_law8 a b c d e f g h
  simpa only [runsLaw, Bool.and_eq_true, decide_eq_true_eq] using this

theorem c_abatislaw03_SixRuns (gs : List Nat) (hl : gs.length = 8) (hle : ∀ g ∈ gs, g ≤ 65535) : GCall 3 [.agg (u16s gs)] (.bool true) := by
  intro H hG
  have t8 : List.take 8 (u16s gs) = u16s gs := List.take_of_length_le (by rw [u16s_len]; omega)
  refine scall_of (ord := fun _ => []) (rs := [2]) Tryd.func3 rfl (by kernel_rfl) (by kernel_rfl) (by kernel_rfl) Tryd.ntmps3 fun hb hargs => go 200 (fun _ => false) mixed ?_
  simp (disch := omega) only [↓reduceIte, go_sem, hl, t8] <;> repeat with_reducible refine And.intro (by first | omega | decide) ?_
  refine (c_six_Run gs hl).on (go 200 (fun _ => false) mixed ?_)
  obtain ⟨⟨h1, h2, h3, h4⟩, hok⟩ := runs_law (zeros gs) (zeros_len.trans hl)
  generalize runF (zeros gs) = r at *
  have h2' : ¬ 8 < r.2 := by omega
  have h3' : ¬ 8 < r.1 + r.2 := by omega
  by_cases h0 : r.2 = 0
  · have h5 : r.1 = 0 := by omega
    rw [h0, h5] at hok
    simp (disch := omega) only [↓reduceIte, go_sem, h0, h5] <;> repeat with_reducible refine And.intro (by first | omega | decide) ?_
    refine runs_loopA (fun x : Nat × Nat => x.1 ≤ 8 ∧ x.2 ≤ x.1 ∧ runsOk ((zeros gs).drop x.1) x.1 x.2 0 0 = true) (fun x => 8 - x.1)
      [false, true, true, true, true, true, true]
      (fun x => slots 88 [.any, .ptr H.length 0 0, .bool false, .int .i64 0, .int .i64 0, .int .i64 x.2, .int .i64 x.1])
      (fun x => H ++ [some (.cells 0 (u16s gs))]) (by rfl) (0, 0) ⟨by decide, by decide, hok⟩ rfl rfl ?_
    rintro ⟨k, run⟩ ⟨hk, hr, hgo⟩
    dsimp only at hk hr hgo
    refine go 200 (fun _ => false) mixed ?_
    by_cases hlt : k < 8
    · have g := u16s_get (ns := gs) (k := k) (by omega)
      have hz := zeros_get (gs := gs) (k := k) (by omega)
      have hkz : k < (zeros gs).length := by rw [zeros_len]; omega
      rw [List.drop_eq_getElem_cons hkz, show (zeros gs)[k] = (zeros gs).getD k false by simp [List.getD_eq_getElem?_getD, hkz], hz] at hgo
      unfold runsOk at hgo
      by_cases g0 : gs.getD k 0 = 0
      · rw [g0] at hgo
        simp only [beq_self_eq_true, if_true] at hgo
        have c1 : ¬ max 0 1 < run + 1 := fun h => by rw [if_pos (.inl h)] at hgo; cases hgo
        have c2 : ¬ (run + 1 = 0 ∧ 0 < 0 ∧ k + 1 - (run + 1) < 0) := fun h => by rw [if_pos (.inr h)] at hgo; cases hgo
        rw [if_neg (fun h => h.elim c1 c2), if_neg (fun h => by cases h.2.2)] at hgo
        have c4 : ¬ 1 < run + 1 := by omega
        simp (disch := omega) only [↓reduceIte, go_sem, hlt, hl, g, g0, c4, m10] <;> repeat with_reducible refine And.intro (by first | omega | decide) ?_
        exact rnd_next (k + 1, run + 1) ⟨by show k + 1 ≤ 8; omega, by show run + 1 ≤ k + 1; omega, hgo⟩ (by show 8 - (k + 1) < 8 - k; omega) rfl rfl
      · have h0' : (gs.getD k 0 == 0) = false := by simpa using g0
        rw [h0'] at hgo
        simp only [Bool.false_eq_true, if_false] at hgo
        rw [if_neg (by omega), if_neg (by omega)] at hgo
        simp (disch := omega) only [↓reduceIte, go_sem, hlt, hl, g, g0, m10] <;> repeat with_reducible refine And.intro (by first | omega | decide) ?_
        exact rnd_next (k + 1, 0) ⟨by show k + 1 ≤ 8; omega, by show 0 ≤ k + 1; omega, hgo⟩ (by show 8 - (k + 1) < 8 - k; omega) rfl rfl
    · simp (disch := omega) only [↓reduceIte, go_sem, hlt] <;> repeat with_reducible refine And.intro (by first | omega | decide) ?_
      refine go 200 (fun _ => false) mixed ?_
      simp (disch := omega) only [↓reduceIte, go_sem] <;> repeat with_reducible refine And.intro (by first | omega | decide) ?_
      refine c_abatislaw03_lives.on hG.app (go 200 (fun _ => false) mixed ?_)
      simp (disch := omega) only [↓reduceIte, go_sem] <;> repeat with_reducible refine And.intro (by first | omega | decide) ?_
      exact fin_drop (.inr rfl) hb rfl (by simp)
  · have hn1 : ¬ r.2 < 1 := by omega
    simp (disch := omega) only [↓reduceIte, go_sem, h1, h2', h3', h0] <;> repeat with_reducible refine And.intro (by first | omega | decide) ?_
    refine runs_loopA (fun x : Nat × Nat => x.1 ≤ 8 ∧ x.2 ≤ x.1 ∧ runsOk ((zeros gs).drop x.1) x.1 x.2 r.1 r.2 = true) (fun x => 8 - x.1)
      [false, true, true, true, true, true, true]
      (fun x => slots 88 [.any, .ptr H.length 0 0, .bool false, .int .i64 r.1, .int .i64 r.2, .int .i64 x.2, .int .i64 x.1])
      (fun x => H ++ [some (.cells 0 (u16s gs))]) (by rfl) (0, 0) ⟨by decide, by decide, hok⟩ rfl rfl ?_
    rintro ⟨k, run⟩ ⟨hk, hr, hgo⟩
    dsimp only at hk hr hgo
    refine go 200 (fun _ => false) mixed ?_
    by_cases hlt : k < 8
    · have g := u16s_get (ns := gs) (k := k) (by omega)
      have hz := zeros_get (gs := gs) (k := k) (by omega)
      have hkz : k < (zeros gs).length := by rw [zeros_len]; omega
      rw [List.drop_eq_getElem_cons hkz, show (zeros gs)[k] = (zeros gs).getD k false by simp [List.getD_eq_getElem?_getD, hkz], hz] at hgo
      unfold runsOk at hgo
      by_cases g0 : gs.getD k 0 = 0
      · rw [g0] at hgo
        simp only [beq_self_eq_true, if_true] at hgo
        have c1 : ¬ max r.2 1 < run + 1 := fun h => by rw [if_pos (.inl h)] at hgo; cases hgo
        have c2 : ¬ (run + 1 = r.2 ∧ 0 < r.2 ∧ k + 1 - (run + 1) < r.1) := fun h => by rw [if_pos (.inr h)] at hgo; cases hgo
        rw [if_neg (fun h => h.elim c1 c2), if_neg (fun h => by cases h.2.2)] at hgo
        have c4 : ¬ r.2 < run + 1 := by omega
        by_cases e1 : run + 1 = r.2
        · have c3 : ¬ k + 1 - r.2 < r.1 := fun h => c2 ⟨e1, by omega, by rw [e1]; exact h⟩
          have c0 : 0 < r.2 := by omega
          have c5 : ¬ r.2 < r.2 := by omega
          by_cases e2 : r.1 ≤ k
          · by_cases e3 : k < r.1 + r.2
            · simp (disch := omega) only [↓reduceIte, go_sem, hlt, hl, g, g0, hn1, c5, c0, c3, e1, e2, e3] <;> repeat with_reducible refine And.intro (by first | omega | decide) ?_
              exact rnd_next (k + 1, run + 1) ⟨by show k + 1 ≤ 8; omega, by show run + 1 ≤ k + 1; omega, hgo⟩ (by show 8 - (k + 1) < 8 - k; omega) (by rw [e1]; rfl) rfl
            · simp (disch := omega) only [↓reduceIte, go_sem, hlt, hl, g, g0, hn1, c5, c0, c3, e1, e2, e3] <;> repeat with_reducible refine And.intro (by first | omega | decide) ?_
              exact rnd_next (k + 1, run + 1) ⟨by show k + 1 ≤ 8; omega, by show run + 1 ≤ k + 1; omega, hgo⟩ (by show 8 - (k + 1) < 8 - k; omega) (by rw [e1]; rfl) rfl
          · simp (disch := omega) only [↓reduceIte, go_sem, hlt, hl, g, g0, hn1, c5, c0, c3, e1, e2] <;> repeat with_reducible refine And.intro (by first | omega | decide) ?_
            exact rnd_next (k + 1, run + 1) ⟨by show k + 1 ≤ 8; omega, by show run + 1 ≤ k + 1; omega, hgo⟩ (by show 8 - (k + 1) < 8 - k; omega) (by rw [e1]; rfl) rfl
        · by_cases e2 : r.1 ≤ k
          · by_cases e3 : k < r.1 + r.2
            · simp (disch := omega) only [↓reduceIte, go_sem, hlt, hl, g, g0, hn1, c4, e1, e2, e3] <;> repeat with_reducible refine And.intro (by first | omega | decide) ?_
              exact rnd_next (k + 1, run + 1) ⟨by show k + 1 ≤ 8; omega, by show run + 1 ≤ k + 1; omega, hgo⟩ (by show 8 - (k + 1) < 8 - k; omega) rfl rfl
            · simp (disch := omega) only [↓reduceIte, go_sem, hlt, hl, g, g0, hn1, c4, e1, e2, e3] <;> repeat with_reducible refine And.intro (by first | omega | decide) ?_
              exact rnd_next (k + 1, run + 1) ⟨by show k + 1 ≤ 8; omega, by show run + 1 ≤ k + 1; omega, hgo⟩ (by show 8 - (k + 1) < 8 - k; omega) rfl rfl
          · simp (disch := omega) only [↓reduceIte, go_sem, hlt, hl, g, g0, hn1, c4, e1, e2] <;> repeat with_reducible refine And.intro (by first | omega | decide) ?_
            exact rnd_next (k + 1, run + 1) ⟨by show k + 1 ≤ 8; omega, by show run + 1 ≤ k + 1; omega, hgo⟩ (by show 8 - (k + 1) < 8 - k; omega) rfl rfl
      · have h0' : (gs.getD k 0 == 0) = false := by simpa using g0
        rw [h0'] at hgo
        simp only [Bool.false_eq_true, if_false] at hgo
        rw [if_neg (by omega)] at hgo
        have c2 : ¬ (r.1 ≤ k ∧ k < r.1 + r.2) := fun h => by rw [if_pos ⟨h.1, h.2, by decide⟩] at hgo; cases hgo
        rw [if_neg (fun h => c2 ⟨h.1, h.2.1⟩)] at hgo
        have c6 : ¬ 0 = r.2 := by omega
        have c7 : ¬ r.2 < 0 := by omega
        by_cases e2 : r.1 ≤ k
        · have e3 : ¬ k < r.1 + r.2 := fun h => c2 ⟨e2, h⟩
          simp (disch := omega) only [↓reduceIte, go_sem, hlt, hl, g, g0, hn1, c6, c7, e2, e3] <;> repeat with_reducible refine And.intro (by first | omega | decide) ?_
          exact rnd_next (k + 1, 0) ⟨by show k + 1 ≤ 8; omega, by show 0 ≤ k + 1; omega, hgo⟩ (by show 8 - (k + 1) < 8 - k; omega) rfl rfl
        · simp (disch := omega) only [↓reduceIte, go_sem, hlt, hl, g, g0, hn1, c6, c7, e2] <;> repeat with_reducible refine And.intro (by first | omega | decide) ?_
          exact rnd_next (k + 1, 0) ⟨by show k + 1 ≤ 8; omega, by show 0 ≤ k + 1; omega, hgo⟩ (by show 8 - (k + 1) < 8 - k; omega) rfl rfl
    · simp (disch := omega) only [↓reduceIte, go_sem, hlt] <;> repeat with_reducible refine And.intro (by first | omega | decide) ?_
      refine go 200 (fun _ => false) mixed ?_
      simp (disch := omega) only [↓reduceIte, go_sem] <;> repeat with_reducible refine And.intro (by first | omega | decide) ?_
      refine c_abatislaw03_lives.on hG.app (go 200 (fun _ => false) mixed ?_)
      simp (disch := omega) only [↓reduceIte, go_sem] <;> repeat with_reducible refine And.intro (by first | omega | decide) ?_
      exact fin_drop (.inr rfl) hb rfl (by simp)
end Go.Proofs.GoC
