/-
  Plain facts on names: of labels that are good, and how they are read. No claim by itself.
-/
import Derived.Test.YtmgemdgbffmnjaaGoWrite4
import Derived.Test.YtmgemdgbffmnjaaSlView
namespace Go.Proofs.GoC
open Go Go.Proofs.SL
set_option linter.unusedSimpArgs false
set_option linter.unusedVariables false
set_option maxRecDepth 10000
set_option maxHeartbeats 4000000

def Gd (a : List UInt8) : Prop := a ≠ [] ∧ a.length ≤ 63 ∧ (46 : UInt8) ∉ a
theorem lab_join {l : List (List UInt8)} (h : ∀ a ∈ l, Gd a) : labF (joinL [46] l) = l := by
  cases l with
  | nil => simp [joinL, labF]
  | cons a l =>
    have key : ∀ (l : List (List UInt8)) (a : List UInt8) (acc : List (List UInt8)), (∀ b ∈ a :: l, (46 : UInt8) ∉ b) → splitA 46 (joinL [46] (a :: l)) acc [] = acc ++ (a :: l) := by
      intro l
      induction l with
      | nil => intro a acc h; rw [show joinL [46] [a] = a by simp [joinL], splitA_no 46 a acc [] (h a (by simp))]; simp
      | cons b l ih =>
        intro a acc h
        rw [joinL_cons _ _ _ (by simp), List.append_assoc, List.singleton_append, split_pc 46 a _ acc [] (h a (by simp)), ih b _ fun c hc => h c (List.mem_cons_of_mem _ hc)]
        simp
    have hne : joinL [46] (a :: l) ≠ [] := by
      intro e
      have h1 := (h a (by simp)).1
      cases l with
      | nil => simp [joinL] at e; exact h1 e
      | cons b l => rw [joinL_cons _ _ _ (by simp)] at e; simp at e
    unfold labF
    rw [if_neg hne, key l a [] fun b hb => (h b hb).2.2]
    simp
theorem join_len {l : List (List UInt8)} (h : l ≠ []) : (joinL [46] l).length + 1 = sumL l := by
  induction l with
  | nil => exact absurd rfl h
  | cons a l ih =>
    cases l with
    | nil => simp [joinL, sumL]; omega
    | cons b l =>
      rw [joinL_cons _ _ _ (by simp), sumL_cons]
      have := ih (by simp)
      simp only [List.length_append, List.length_cons, List.length_nil]
      omega
theorem may_join {l : List (List UInt8)} (h : ∀ a ∈ l, Gd a) (hs : 1 + sumL l ≤ 255) : mayN (joinL [46] l) = true := by
  unfold mayN
  rw [lab_join h]
  have h1 : (joinL [46] l).length ≤ 253 := by
    by_cases hl : l = []
    · subst hl; simp [joinL]
    · have := join_len hl; omega
  rw [decide_eq_true h1, Bool.true_and, Bool.not_eq_true', List.any_eq_false]
  intro a ha
  obtain ⟨a1, a2, _⟩ := h a ha
  simp [oddL, a1]; omega
theorem may_gd {s : List UInt8} (h : mayN s = true) : ∀ a ∈ labF s, Gd a := fun a ha => ⟨(may_labs h a ha).1, (may_labs h a ha).2, lab_nodot ha⟩
theorem may_sum {s : List UInt8} (h : mayN s = true) : 1 + sumL (labF s) ≤ 255 := by
  have := may_len h
  have := sumL_lab_le s
  omega
theorem lab_dotN {s : List UInt8} (h : mayN s = true) (n : Nat) : labF (dotN n s) = (labF s).drop n := by
  rw [← rest_eq, lab_join fun a ha => may_gd h a (List.mem_of_mem_drop ha)]
theorem may_dotN {s : List UInt8} (h : mayN s = true) (n : Nat) : mayN (dotN n s) = true := by
  rw [← rest_eq]
  refine may_join (fun a ha => may_gd h a (List.mem_of_mem_drop ha)) ?_
  have := may_sum h
  have := sumL_le (l := labF s) (k := n)
  omega

theorem goodL_gd : ∀ (l out : List (List UInt8)), (∀ a ∈ l, (46 : UInt8) ∉ a) → (∀ a ∈ out, Gd a ∧ a.length ≤ 12) → ∀ a ∈ goodL l out, Gd a ∧ a.length ≤ 12
  | [], out, _, h2, a, ha => h2 a ha
  | b :: l, out, h1, h2, a, ha => by
    rw [goodL_cons] at ha
    split at ha
    · refine goodL_gd l _ (fun c hc => h1 c (List.mem_cons_of_mem _ hc)) ?_ a ha
      split
      · exact h2
      · rename_i hb
        intro c hc
        rcases List.mem_append.mp hc with hc | hc
        · exact h2 c hc
        · simp only [List.mem_singleton] at hc
          subst hc
          have : (b.take 12).length ≤ 12 := by rw [List.length_take]; omega
          exact ⟨⟨hb, by omega, fun hm => h1 b (by simp) (List.mem_of_mem_take hm)⟩, this⟩
    · exact h2 a ha
theorem good_gd (s : List UInt8) : ∀ a ∈ goodL (labF s) [], Gd a ∧ a.length ≤ 12 := goodL_gd _ _ (fun a ha => lab_nodot ha) (by simp)
theorem sum_bound {l : List (List UInt8)} {m : Nat} (h : ∀ a ∈ l, a.length ≤ m) : sumL l ≤ l.length * (m + 1) := by
  induction l with
  | nil => simp [sumL]
  | cons a l ih =>
    have h1 := h a (by simp)
    have h2 := ih fun b hb => h b (List.mem_cons_of_mem _ hb)
    rw [sumL_cons, List.length_cons, Nat.succ_mul]; omega
theorem good_sum (s : List UInt8) : sumL (goodL (labF s) []) ≤ 78 := by
  have h1 := sum_bound (m := 12) fun a ha => (good_gd s a ha).2
  have h2 := (goodL_len (labF s) [] (by simp) (by simp)).1
  have : (goodL (labF s) []).length * (12 + 1) ≤ 6 * 13 := Nat.mul_le_mul h2 (Nat.le_refl _)
  omega
theorem good_may (s : List UInt8) : mayN (goodN s) = true := may_join (fun a ha => (good_gd s a ha).1) (by have := good_sum s; omega)
theorem good_lab (s : List UInt8) : labF (goodN s) = goodL (labF s) [] := lab_join fun a ha => (good_gd s a ha).1

/-! Which is under which. -/
theorem like_refl (a : List UInt8) : likeF a a = true := by simp [likeF]
theorem under_self (a : List UInt8) : underF a a = true := by
  by_cases h : a = []
  · subst h; rfl
  · rw [underF_step a h, like_refl]; rfl
theorem underN_dot : ∀ (n : Nat) (s : List UInt8), underN n s (dotN n s) = true
  | 0, s => like_refl s
  | n + 1, s => by
    show (likeF s _ || underN n (dotR s) (dotN n (dotR s))) = true
    rw [underN_dot n (dotR s), Bool.or_true]
theorem underN_mono : ∀ (n k : Nat) (s o : List UInt8), underN n s o = true → underN (n + k) s o = true
  | 0, 0, _, _, h => h
  | 0, k + 1, s, o, h => by
    show underN (0 + k + 1) s o = true
    show (likeF s o || _) = true
    have : likeF s o = true := h
    rw [this]; rfl
  | n + 1, k, s, o, h => by
    rw [show n + 1 + k = (n + k) + 1 by omega]
    show (likeF s o || underN (n + k) (dotR s) o) = true
    have h : (likeF s o || underN n (dotR s) o) = true := h
    cases hl : likeF s o with
    | true => rfl
    | false => rw [hl, Bool.false_or] at h; rw [Bool.false_or]; exact underN_mono n k _ _ h
theorem under_dot (s : List UInt8) (n : Nat) : underF s (dotN n s) = true := by
  have h := underN_mono n s.length s _ (underN_dot n s)
  rw [Nat.add_comm] at h
  unfold underF
  rwa [underN_le _ _ _ _ (dotN_length s.length s (Nat.le_refl _))] at h
theorem under_nil (s : List UInt8) : underF s [] = true := by
  have := under_dot s s.length
  rwa [dotN_length s.length s (Nat.le_refl _)] at this
theorem underN_short : ∀ (n : Nat) (s o : List UInt8), s.length < o.length → underN n s o = false
  | 0, s, o, h => by
    show likeF s o = false
    unfold likeF
    rw [decide_eq_false]
    intro e
    have := congrArg List.length e
    rw [lowF_len, lowF_len] at this
    omega
  | n + 1, s, o, h => by
    show (likeF s o || underN n (dotR s) o) = false
    have h1 : likeF s o = false := underN_short 0 s o h
    have := dotR_len s
    rw [h1, underN_short n (dotR s) o (by omega)]; rfl
theorem under_short {s o : List UInt8} (h : s.length < o.length) : underF s o = false := underN_short _ s o h

/-! What is read. -/
theorem rdF_ok (B : List UInt8) : ∀ (b k i began next : Nat) (acc : List (List UInt8)), began = b → B.length - i = k → (∀ a ∈ acc, Gd a) → 1 + sumL acc ≤ 255 → ∀ {l : List (List UInt8)} {n : Nat}, rdF B i began next acc = .ok l n →
    (∀ a ∈ l, Gd a) ∧ 1 + sumL l ≤ 255 ∧ (next = 0 → i < n ∧ n ≤ B.length) ∧ (next ≠ 0 → n = next) := by
  intro b
  induction b using Nat.strongRecOn with
  | _ b ihb =>
    intro k
    induction k using Nat.strongRecOn with
    | _ k ihk =>
      intro i began next acc hb hk hacc hsum l n h
      rw [rdF] at h
      split at h
      · cases h
      · rename_i h1
        split at h
        · cases h
          refine ⟨hacc, hsum, fun h0 => ?_, fun h0 => if_neg h0⟩
          rw [if_pos h0]; omega
        · rename_i h2
          split at h
          · split at h
            · cases h
            · rename_i h4
              split at h
              · cases h
              · rename_i h5
                obtain ⟨a1, a2, a3, a4⟩ := ihb (ptrB B i) (by omega) _ _ _ _ _ rfl rfl hacc hsum h
                refine ⟨a1, a2, fun h0 => ?_, fun h0 => ?_⟩
                · have := a4 (by rw [if_pos h0]; omega)
                  rw [if_pos h0] at this; omega
                · have := a4 (by rw [if_neg h0]; exact h0)
                  rwa [if_neg h0] at this
          · rename_i h3
            split at h
            · cases h
            · rename_i h4
              split at h
              · cases h
              · rename_i h5
                split at h
                · cases h
                · rename_i h6
                  have hol := ownB_len (B := B) (i := i) (n := atB B i) (by omega)
                  have hsn := sumL_snoc acc (ownB B i (atB B i))
                  obtain ⟨a1, a2, a3, a4⟩ := ihk _ (by omega) _ _ _ _ hb rfl (fun a ha => by
                    rcases List.mem_append.mp ha with ha | ha
                    · exact hacc a ha
                    · simp only [List.mem_singleton] at ha
                      subst ha
                      exact ⟨fun e => by rw [e] at hol; simp at hol; omega, by omega, h5⟩) (by omega) h
                  exact ⟨a1, a2, fun h0 => by obtain ⟨x, y⟩ := a3 h0; exact ⟨by omega, y⟩, a4⟩

/-- A name's bytes, wherever they stand. -/
theorem rd_labs {B : List UInt8} (began next : Nat) : ∀ (l : List (List UInt8)) (i : Nat) (acc : List (List UInt8)) (C : List UInt8), B.drop i = l.flatMap lab1 ++ C → (∀ a ∈ l, Gd a) → 1 + sumL acc + sumL l ≤ 255 →
    rdF B i began next acc = rdF B (i + sumL l) began next (acc ++ l)
  | [], i, acc, C, _, _, _ => by simp [sumL]
  | a :: l, i, acc, C, hB, hg, hs => by
    obtain ⟨g1, g2, g3⟩ := hg a (by simp)
    rw [sumL_cons] at hs
    simp only [List.flatMap_cons, lab1, List.cons_append, List.append_assoc] at hB
    have hil : i < B.length := by
      rcases Nat.lt_or_ge i B.length with h | h
      · exact h
      · rw [List.drop_eq_nil_of_le h] at hB; cases hB
    have hn0 : a.length ≠ 0 := fun e => g1 (List.eq_nil_of_length_eq_zero e)
    have hat : atB B i = a.length := by
      unfold atB
      rw [List.drop_eq_getElem_cons hil] at hB
      injection hB with e1 e2
      rw [getD_of hil, e1, UInt8.toNat_ofNat']
      omega
    have hd1 : B.drop (i + 1) = a ++ (l.flatMap lab1 ++ C) := by
      rw [List.drop_eq_getElem_cons hil] at hB
      injection hB with e1 e2
    have hlen : a.length ≤ B.length - (i + 1) := by
      have := congrArg List.length hd1
      rw [List.length_drop, List.length_append] at this
      omega
    have hown : ownB B i (atB B i) = a := by
      unfold ownB; rw [hat, hd1]; simp
    have hd2 : B.drop (i + 1 + a.length) = l.flatMap lab1 ++ C := by
      rw [← List.drop_drop, hd1]; simp
    rw [rdF, dif_neg (by omega), if_neg (by omega), if_neg (by omega), if_neg (by omega), if_neg (by rw [hown]; exact g3), if_neg (by omega), hown, hat]
    rw [rd_labs began next l (i + 1 + a.length) (acc ++ [a]) C hd2 (fun b hb => hg b (List.mem_cons_of_mem _ hb)) (by rw [sumL_snoc]; omega), sumL_cons, List.append_assoc]
    congr 1
    omega
theorem rd_bytes {A C : List UInt8} {l : List (List UInt8)} (hg : ∀ a ∈ l, Gd a) (hs : 1 + sumL l ≤ 255) : rdF (A ++ (bytesN l ++ C)) A.length A.length 0 [] = .ok l (A.length + (bytesN l).length) := by
  have hd : (A ++ (bytesN l ++ C)).drop A.length = l.flatMap lab1 ++ (0 :: C) := by simp [bytesN]
  rw [rd_labs A.length 0 l A.length [] (0 :: C) hd hg (by simp [sumL] at hs ⊢; omega)]
  have hd2 : (A ++ (bytesN l ++ C)).drop (A.length + sumL l) = 0 :: C := by
    rw [← List.drop_drop, hd, ← labs_len]; simp
  have hlt : A.length + sumL l < (A ++ (bytesN l ++ C)).length := by
    rcases Nat.lt_or_ge (A.length + sumL l) (A ++ (bytesN l ++ C)).length with h | h
    · exact h
    · rw [List.drop_eq_nil_of_le h] at hd2; cases hd2
  have h0 : atB (A ++ (bytesN l ++ C)) (A.length + sumL l) = 0 := by
    unfold atB
    rw [List.drop_eq_getElem_cons hlt] at hd2
    injection hd2 with e1 e2
    rw [getD_of hlt, e1]; rfl
  rw [rdF, dif_neg (by omega), if_pos h0, if_pos rfl, bytesN_len]
  rfl
end Go.Proofs.GoC
