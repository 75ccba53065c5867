/-
  Plain facts: what a writer wrote is read as it was. No claim by itself.
-/
import Derived.Test.YtmgemdgbffmnjaaGoLabC
namespace Go.Proofs.GoC
open Go Go.Proofs.SL
set_option linter.unusedSimpArgs false
set_option linter.unusedVariables false
set_option maxRecDepth 10000
set_option maxHeartbeats 4000000

/-- These labels are read at i, of labels that began there. -/
inductive Rd (B : List UInt8) : Nat → Nat → List (List UInt8) → Prop
  | fin {i began : Nat} (h : i < B.length) (h0 : atB B i = 0) : Rd B i began []
  | lab {i began : Nat} {a : List UInt8} {ls : List (List UInt8)} (hg : Gd a) (hl : i + 1 + a.length ≤ B.length) (h0 : atB B i = a.length) (ho : ownB B i a.length = a) (t : Rd B (i + 1 + a.length) began ls) : Rd B i began (a :: ls)
  | ptr {i began : Nat} {ls : List (List UInt8)} (hl : i + 1 < B.length) (h0 : 192 ≤ atB B i) (hp : ptrB B i < began) (t : Rd B (ptrB B i) (ptrB B i) ls) : Rd B i began ls

theorem Rd.read {B : List UInt8} {i began : Nat} {ls : List (List UInt8)} (h : Rd B i began ls) : ∀ (next : Nat) (acc : List (List UInt8)), 1 + sumL acc + sumL ls ≤ 255 → ∃ n, rdF B i began next acc = .ok (acc ++ ls) n := by
  induction h with
  | @fin i began h h0 =>
    intro next acc hs
    rw [rdF, dif_neg (by omega), if_pos h0, List.append_nil]
    exact ⟨_, rfl⟩
  | @lab i began a ls hg hl h0 ho t ih =>
    intro next acc hs
    rw [sumL_cons] at hs
    have hn0 : a.length ≠ 0 := fun e => hg.1 (List.eq_nil_of_length_eq_zero e)
    obtain ⟨g1, g2, g3⟩ := hg
    rw [rdF, dif_neg (by omega), if_neg (by omega), if_neg (by omega), if_neg (by omega), h0, ho, if_neg g3, if_neg (by omega)]
    obtain ⟨n, hn⟩ := ih next (acc ++ [a]) (by rw [sumL_snoc]; omega)
    exact ⟨n, by rw [hn, List.append_assoc]; rfl⟩
  | @ptr i began ls hl h0 hp t ih =>
    intro next acc hs
    rw [rdF, dif_neg (by omega), if_neg (by omega), if_pos h0, if_neg (by omega), dif_neg (by omega)]
    exact ih _ acc hs

theorem atB_app {B C : List UInt8} {i : Nat} (h : i < B.length) : atB (B ++ C) i = atB B i := by
  unfold atB
  rw [List.getD_eq_getElem?_getD, List.getElem?_append_left h, ← List.getD_eq_getElem?_getD]
theorem ownB_app {B C : List UInt8} {i n : Nat} (h : i + 1 + n ≤ B.length) : ownB (B ++ C) i n = ownB B i n := by
  unfold ownB
  rw [List.drop_append_of_le_length (by omega), List.take_append_of_le_length (by rw [List.length_drop]; omega)]
theorem Rd.app {B : List UInt8} {i began : Nat} {ls : List (List UInt8)} (h : Rd B i began ls) (C : List UInt8) : Rd (B ++ C) i began ls := by
  induction h with
  | fin h h0 => exact .fin (by simp; omega) (by rw [atB_app h]; exact h0)
  | lab hg hl h0 ho t ih => exact .lab hg (by simp; omega) (by rw [atB_app (by omega)]; exact h0) (by rw [ownB_app hl]; exact ho) ih
  | @ptr i began ls hl h0 hp t ih =>
    have e : ptrB (B ++ C) i = ptrB B i := by unfold ptrB; rw [atB_app (by omega), atB_app hl]
    exact .ptr (by simp; omega) (by rw [atB_app (by omega)]; exact h0) (by rw [e]; exact hp) (by rw [e]; exact ih)
theorem Rd.began {B : List UInt8} {i b b' : Nat} {ls : List (List UInt8)} (h : Rd B i b ls) (hb : b ≤ b') : Rd B i b' ls := by
  induction h with
  | fin h h0 => exact .fin h h0
  | lab hg hl h0 ho t ih => exact .lab hg hl h0 ho (ih hb)
  | ptr hl h0 hp t _ => exact .ptr hl h0 (by omega) t

theorem findN_mem {s : List UInt8} {n : Nat} : ∀ {es : Names}, findN s es = some n → (s, n) ∈ es
  | [], h => by cases h
  | e :: es, h => by
    rw [findN_cons] at h
    split at h
    · rename_i he
      cases h
      obtain ⟨a, b⟩ := e
      simp only at he
      subst he; simp
    · exact List.mem_cons_of_mem _ (findN_mem h)

/-- All that is known of names is read as they are. -/
def OkW (B : List UInt8) (es : Names) : Prop := ∀ e ∈ es, e.2 < B.length ∧ Rd B e.2 e.2 (labF e.1)
theorem OkW.app {B : List UInt8} {es : Names} (h : OkW B es) (C : List UInt8) : OkW (B ++ C) es := fun e he => ⟨by have := (h e he).1; simp; omega, (h e he).2.app C⟩

theorem lab_step {s : List UInt8} (hmay : mayN s = true) (hs : s ≠ []) : labF s = dotL s :: labF (dotR s) := by
  obtain ⟨h0, h1⟩ := lab_first hs
  have h2 := lab_dotN hmay 1
  rw [show dotN 1 s = dotR s from rfl] at h2
  rw [h2]
  cases hl : labF s with
  | nil => rw [hl] at h1; simp at h1
  | cons a l => rw [hl] at h0; simp at h0; rw [h0]; rfl

theorem wr_ok : ∀ (n : Nat) (s B : List UInt8) (es : Names) (b0 : Nat), s.length = n → mayN s = true → b0 ≤ B.length → (∀ e ∈ es, e.1.length ≤ s.length → e.2 < b0 ∧ Rd B e.2 e.2 (labF e.1)) → Far es →
    (∃ X, (wrN s B es).1 = B ++ X) ∧ Rd (wrN s B es).1 B.length b0 (labF s) ∧ ∃ new, (wrN s B es).2 = es ++ new ∧ ∀ e ∈ new, e.2 < (wrN s B es).1.length ∧ Rd (wrN s B es).1 e.2 e.2 (labF e.1) := by
  intro n
  induction n using Nat.strongRecOn with
  | _ n ih =>
    intro s B es b0 hn hmay hb hes hF
    by_cases hs : s = []
    · subst hs
      rw [wrN_nil]
      refine ⟨⟨[0], rfl⟩, .fin (by simp) ?_, [], by simp, by simp⟩
      unfold atB
      rw [List.getD_eq_getElem?_getD, List.getElem?_append_right (Nat.le_refl _), Nat.sub_self]; rfl
    · cases hf : findN s es with
      | some p =>
        rw [wrN_some hs hf]
        have hp := findN_far hF hf
        obtain ⟨h1, h2⟩ := hes _ (findN_mem hf) (Nat.le_refl _)
        simp only at h1 h2
        have a1 : atB (B ++ [UInt8.ofNat (192 + p / 256), UInt8.ofNat (p % 256)]) B.length = 192 + p / 256 := by
          unfold atB
          rw [List.getD_eq_getElem?_getD, List.getElem?_append_right (Nat.le_refl _), Nat.sub_self]
          simp only [List.getElem?_cons_zero, Option.getD_some, UInt8.toNat_ofNat']
          omega
        have a2 : atB (B ++ [UInt8.ofNat (192 + p / 256), UInt8.ofNat (p % 256)]) (B.length + 1) = p % 256 := by
          unfold atB
          rw [List.getD_eq_getElem?_getD, List.getElem?_append_right (by omega), Nat.add_sub_cancel_left]
          simp only [List.getElem?_cons_succ, List.getElem?_cons_zero, Option.getD_some, UInt8.toNat_ofNat']
          omega
        have hpt : ptrB (B ++ [UInt8.ofNat (192 + p / 256), UInt8.ofNat (p % 256)]) B.length = p := by unfold ptrB; rw [a1, a2]; omega
        refine ⟨⟨_, rfl⟩, .ptr (by simp) (by rw [a1]; omega) (by rw [hpt]; exact h1) (by rw [hpt]; exact h2.app _), [], by simp, by simp⟩
      | none =>
        rw [wrN_none hs hf]
        have hdr := dotR_lt hs
        have hls := lab_step hmay hs
        have hgd := may_gd hmay (dotL s) (by rw [hls]; simp)
        have hn0 : (dotL s).length ≠ 0 := fun e => hgd.1 (List.eq_nil_of_length_eq_zero e)
        have hmr := may_dotN hmay 1
        rw [show dotN 1 s = dotR s from rfl] at hmr
        have hl1 : (B ++ lab1 (dotL s)).length = B.length + 1 + (dotL s).length := by simp [lab1]; omega
        have hF' := hF.step s B
        obtain ⟨⟨X, hX⟩, hR, new, hnew, hok⟩ := ih _ (by omega) (dotR s) (B ++ lab1 (dotL s)) (if B.length < 16384 then es ++ [(s, B.length)] else es) b0 rfl hmr (by omega) (fun e he hle => by
          have : e ∈ es := by
            split at he
            · rcases List.mem_append.mp he with h | h
              · exact h
              · simp only [List.mem_singleton] at h; subst h; simp only at hle; omega
            · exact he
          obtain ⟨a, b⟩ := hes e this (by omega)
          exact ⟨a, b.app _⟩) hF'
        generalize hW : wrN (dotR s) (B ++ lab1 (dotL s)) (if B.length < 16384 then es ++ [(s, B.length)] else es) = W at *
        have hW1 : W.1 = B ++ (lab1 (dotL s) ++ X) := by rw [hX, List.append_assoc]
        have h63 := hgd.2.1
        have h0 : atB W.1 B.length = (dotL s).length := by
          rw [hW1]
          unfold atB
          rw [List.getD_eq_getElem?_getD, List.getElem?_append_right (Nat.le_refl _), Nat.sub_self]
          simp only [lab1, List.cons_append, List.getElem?_cons_zero, Option.getD_some, UInt8.toNat_ofNat']
          omega
        have hlen : B.length + 1 + (dotL s).length ≤ W.1.length := by rw [hX, List.length_append, hl1]; omega
        have hown : ownB W.1 B.length (dotL s).length = dotL s := by
          rw [hW1]
          unfold ownB
          rw [← List.drop_drop]
          simp [lab1]
        have hRd : Rd W.1 B.length b0 (labF s) := by
          rw [hls]
          rw [hl1] at hR
          exact .lab hgd hlen h0 hown hR
        refine ⟨⟨_, hW1⟩, hRd, ?_⟩
        by_cases h16 : B.length < 16384
        · rw [if_pos h16] at hnew
          refine ⟨(s, B.length) :: new, by rw [hnew]; simp, fun e he => ?_⟩
          rcases List.mem_cons.mp he with rfl | he
          · exact ⟨by simp only; omega, hRd.began hb⟩
          · exact hok e he
        · rw [if_neg h16] at hnew
          exact ⟨new, hnew, hok⟩

theorem wr_okW {s B : List UInt8} {es : Names} (hmay : mayN s = true) (h : OkW B es) (hF : Far es) : (∃ X, (wrN s B es).1 = B ++ X) ∧ Rd (wrN s B es).1 B.length B.length (labF s) ∧ OkW (wrN s B es).1 (wrN s B es).2 := by
  obtain ⟨⟨X, hX⟩, hR, new, hnew, hok⟩ := wr_ok _ s B es B.length rfl hmay (Nat.le_refl _) (fun e he _ => h e he) hF
  refine ⟨⟨X, hX⟩, hR, fun e he => ?_⟩
  rw [hnew] at he
  rcases List.mem_append.mp he with he | he
  · have := (h.app X) e he
    rwa [← hX] at this
  · exact hok e he
theorem wrN_es : ∀ (n : Nat) (s B : List UInt8) (es : Names), s.length = n → (wrN s B es).2.length ≤ es.length + s.length := by
  intro n
  induction n using Nat.strongRecOn with
  | _ n ih =>
    intro s B es hn
    by_cases hs : s = []
    · subst hs; rw [wrN_nil]; simp
    · cases hf : findN s es with
      | some p => rw [wrN_some hs hf]; simp
      | none =>
        rw [wrN_none hs hf]
        have h1 := dotR_lt hs
        have h2 := ih _ (by omega) (dotR s) (B ++ lab1 (dotL s)) (if B.length < 16384 then es ++ [(s, B.length)] else es) rfl
        have h3 : (if B.length < 16384 then es ++ [(s, B.length)] else es).length ≤ es.length + 1 := by split <;> simp
        omega
end Go.Proofs.GoC
