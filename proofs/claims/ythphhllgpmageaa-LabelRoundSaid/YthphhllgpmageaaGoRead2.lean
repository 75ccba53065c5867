/-
  What the functions compute: the document's name at a place of any bytes. No claim by itself.
-/
import Derived.Test.YthphhllgpmageaaGoRead1
namespace Go.Proofs.GoC
open Go Go.Proofs.SL
set_option linter.unusedSimpArgs false
set_option linter.unusedVariables false
set_option maxRecDepth 10000
set_option maxHeartbeats 4000000

inductive RunR where
  | ok (l : List (List UInt8)) (fin : Nat) (points : Bool)
  | form
  | long
def runF (B : List UInt8) (i had : Nat) (acc : List (List UInt8)) : RunR :=
  if h1 : B.length ≤ i then .form
  else if atB B i = 0 then .ok acc i false
  else if 192 ≤ atB B i then .ok acc i true
  else if 63 < atB B i ∨ B.length < i + 1 + atB B i then .form
  else if 46 ∈ ownB B i (atB B i) then .form
  else if 255 < had + (1 + sumL (acc ++ [ownB B i (atB B i)])) then .long
  else runF B (i + 1 + atB B i) had (acc ++ [ownB B i (atB B i)])
termination_by B.length - i
def runV : RunR → PV
  | .ok l n p => .tup [.sl 1 (strs l), .int .i64 (n : Nat), .bool p, .int .i64 0]
  | .form => .tup [.nils, .int .i64 0, .bool false, .int .i64 2]
  | .long => .tup [.nils, .int .i64 0, .bool false, .int .i64 3]

theorem rd_run (B : List UInt8) (began next : Nat) (acc : List (List UInt8)) : ∀ (k i : Nat) (racc : List (List UInt8)), B.length - i = k → rdF B i began next (acc ++ racc) = match runF B i (sumL acc) racc with
    | .form => .form
    | .long => .long
    | .ok own e points => if points = false then .ok (acc ++ own) (if next = 0 then e + 1 else next)
      else if B.length ≤ e + 1 then .form else if began ≤ ptrB B e then .form
      else rdF B (ptrB B e) (ptrB B e) (if next = 0 then e + 2 else next) (acc ++ own) := by
  intro k
  induction k using Nat.strongRecOn with
  | _ k ih =>
    intro i racc hk
    rw [rdF, runF]
    by_cases h1 : B.length ≤ i
    · rw [dif_pos h1, dif_pos h1]
    · rw [dif_neg h1, dif_neg h1]
      by_cases h2 : atB B i = 0
      · rw [if_pos h2, if_pos h2]; simp
      · rw [if_neg h2, if_neg h2]
        by_cases h3 : 192 ≤ atB B i
        · rw [if_pos h3, if_pos h3]; simp
        · rw [if_neg h3, if_neg h3]
          by_cases h4 : 63 < atB B i ∨ B.length - (i + 1) < atB B i
          · rw [if_pos h4, if_pos (show 63 < atB B i ∨ B.length < i + 1 + atB B i by omega)]
          · rw [if_neg h4, if_neg (show ¬ (63 < atB B i ∨ B.length < i + 1 + atB B i) by omega)]
            by_cases h5 : 46 ∈ ownB B i (atB B i)
            · rw [if_pos h5, if_pos h5]
            · rw [if_neg h5, if_neg h5]
              have hol := ownB_len (B := B) (i := i) (n := atB B i) (by omega)
              have es : 1 + sumL (acc ++ racc) + (atB B i + 1) = sumL acc + (1 + sumL (racc ++ [ownB B i (atB B i)])) := by
                rw [sumL_app, sumL_snoc, hol]; omega
              rw [es]
              by_cases h6 : 255 < sumL acc + (1 + sumL (racc ++ [ownB B i (atB B i)]))
              · rw [if_pos h6, if_pos h6]
              · rw [if_neg h6, if_neg h6, List.append_assoc, ih _ (by omega) (i + 1 + atB B i) (racc ++ [ownB B i (atB B i)]) rfl]

/-- The size of a slice of labels that grows. -/
theorem size_buf {H : Heap} (l : List (List UInt8)) (i ver : Nat) (tip : Bool) (hi : H[i]? = some (some (.cells ver (strs l)))) (hl : sumL l < 2000000) :
    SCall Try.prog 34 [.buf i ver 0 l.length 1 tip] H fun r' H' => r' = .int .i64 (1 + sumL l : Nat) ∧ H' = H := by
  have ho := obj_of hi
  have hn := len_sum l
  refine scall_of (ord := fun _ => []) (rs := [2]) Try.func34 rfl (by kernel_rfl) (by kernel_rfl) (by kernel_rfl) Try.ntmps34 fun hb hargs => go 200 (fun _ => false) mixed ?_
  simp (disch := omega) only [↓reduceIte, go_sem] <;> repeat with_reducible refine And.intro (by first | omega | decide) ?_
  refine runs_loopA (fun x : Nat × Nat => x.1 ≤ l.length ∧ x.2 + sumL (l.drop x.1) = 1 + sumL l) (fun x => l.length - x.1) [true, false, false, true, true]
    (fun x => slots 20 [.buf i ver 0 l.length 1 tip, .any, .any, .int .i64 x.2, .int .i64 x.1]) (fun k => H) (by rfl) (0, 1) ⟨Nat.zero_le _, rfl⟩ rfl rfl ?_
  rintro ⟨k, n⟩ ⟨hk, hall⟩
  have hk : k ≤ l.length := hk
  have hall : n + sumL (l.drop k) = 1 + sumL l := hall
  refine go 200 (fun _ => false) mixed ?_
  by_cases hlt : k < l.length
  · rw [List.drop_eq_getElem_cons hlt, ← getDL_of hlt, sumL_cons] at hall
    have hget := strs_getD hlt
    simp (disch := omega) only [↓reduceIte, go_sem, hlt, hget, ho] <;> repeat with_reducible refine And.intro (by first | omega | decide) ?_
    exact rnd_next (k + 1, n + 1 + (l.getD k []).length) ⟨by omega, by simp only; omega⟩ (by show l.length - (k + 1) < l.length - k; omega) rfl rfl
  · rw [List.drop_eq_nil_of_le (by omega), show sumL [] = 0 from rfl, Nat.add_zero] at hall
    subst hall
    simp (disch := omega) only [↓reduceIte, go_sem, hlt] <;> repeat with_reducible refine And.intro (by first | omega | decide) ?_
    refine go 200 (fun _ => false) mixed ?_
    simp (disch := omega) only [↓reduceIte, go_sem] <;> repeat with_reducible refine And.intro (by first | omega | decide) ?_
    exact fin rfl rfl

theorem c_abatisref08_Run (B : List UInt8) (at0 had : Nat) (hat : at0 ≤ B.length) (hhad : had ≤ 255) (hB : B.length < 1000000) : PCall Try.prog 45 [.sl 1 (bys B), .int .i64 at0, .int .i64 had] (runV (runF B at0 had [])) := by
  intro H
  obtain ⟨R, hR⟩ : ∃ R, runF B at0 had [] = R := ⟨_, rfl⟩
  rw [hR]
  refine scall_of (ord := fun _ => []) (rs := [6, 7, 8, 9]) Try.func45 rfl (by kernel_rfl) (by kernel_rfl) (by kernel_rfl) Try.ntmps45 fun hb hargs => go 200 (fun _ => false) mixed ?_
  simp (disch := omega) only [↓reduceIte, go_sem] <;> repeat with_reducible refine And.intro (by first | omega | decide) ?_
  refine Runs.ghost (by rfl) (Ghost.grow (t := 10) (m := 1) rfl) ?_
  refine runs_loopA (fun x : Nat × List (List UInt8) × Nat => x.1 ≤ B.length ∧ sumL x.2.1 ≤ 255 ∧ runF B x.1 had x.2.1 = R) (fun x => B.length - x.1)
    [true, false, true, false, false, false, false, false, false, false, true, true]
    (fun x => slots 69 [.sl 1 (bys B), .any, .int .i64 had, .any, .any, .any, .any, .any, .any, .any, .buf H.length x.2.2 0 x.2.1.length 1 true, .int .i64 x.1])
    (fun x => H ++ [some (.cells x.2.2 (strs x.2.1))]) (by rfl) (at0, [], 0) ⟨hat, by simp [sumL], hR⟩ rfl rfl ?_
  rintro ⟨i, acc, ver⟩ ⟨hi, hsz, hall⟩
  have hi : i ≤ B.length := hi
  have hsz : sumL acc ≤ 255 := hsz
  have hall : runF B i had acc = R := hall
  rw [runF] at hall
  have hal := len_sum acc
  refine go 200 (fun _ => false) mixed ?_
  by_cases h1 : B.length ≤ i
  · rw [dif_pos h1] at hall
    subst hall
    simp (disch := omega) only [↓reduceIte, go_sem, h1] <;> repeat with_reducible refine And.intro (by first | omega | decide) ?_
    exact fin_drop (.inr rfl) hb rfl (by simp [runV])
  · rw [dif_neg h1] at hall
    have hlt : i < B.length := by omega
    have g : (bys B).getD i .any = .int .u8 (atB B i : Nat) := bys_getD hlt
    have hn := atB_lt B i
    by_cases h2 : atB B i = 0
    · rw [if_pos h2] at hall
      subst hall
      simp (disch := omega) only [↓reduceIte, go_sem, h1, hlt, g, h2] <;> repeat with_reducible refine And.intro (by first | omega | decide) ?_
      exact fin_frz 6 (strs acc) (.inr rfl) hb rfl (Nat.le_refl _) (by rw [get_tail0]; rfl) (by rw [flat_strs, sub_strs]) strs_len strs_cells (by simp [strs]) ⟨rfl, rfl⟩
    · rw [if_neg h2] at hall
      by_cases h3 : 192 ≤ atB B i
      · rw [if_pos h3] at hall
        subst hall
        simp (disch := omega) only [↓reduceIte, go_sem, h1, hlt, g, h2, h3] <;> repeat with_reducible refine And.intro (by first | omega | decide) ?_
        exact fin_frz 6 (strs acc) (.inr rfl) hb rfl (Nat.le_refl _) (by rw [get_tail0]; rfl) (by rw [flat_strs, sub_strs]) strs_len strs_cells (by simp [strs]) ⟨rfl, rfl⟩
      · rw [if_neg h3] at hall
        by_cases h4 : 63 < atB B i
        · rw [if_pos (.inl h4)] at hall
          subst hall
          simp (disch := omega) only [↓reduceIte, go_sem, h1, hlt, g, h2, h3, h4] <;> repeat with_reducible refine And.intro (by first | omega | decide) ?_
          exact fin_drop (.inr rfl) hb rfl (by simp [runV])
        · by_cases h5 : B.length < i + 1 + atB B i
          · rw [if_pos (.inr h5)] at hall
            subst hall
            simp (disch := omega) only [↓reduceIte, go_sem, h1, hlt, g, h2, h3, h4, h5] <;> repeat with_reducible refine And.intro (by first | omega | decide) ?_
            exact fin_drop (.inr rfl) hb rfl (by simp [runV])
          · rw [if_neg (fun h => h.elim h4 h5)] at hall
            have h6 : i + 1 + atB B i ≤ B.length := by omega
            have hol := ownB_len (B := B) (i := i) (n := atB B i) (by omega)
            have hH : (ownB B i (atB B i)).contains 46 = decide (46 ∈ ownB B i (atB B i)) := by simp
            have hlen : (ownB B i (atB B i)).length < 1000000 := by omega
            have hHas := c_abatisref01_Has (ownB B i (atB B i)) 46 hlen
            rw [hH] at hHas
            by_cases h7 : 46 ∈ ownB B i (atB B i)
            · rw [if_pos h7] at hall
              subst hall
              simp (disch := omega) only [↓reduceIte, go_sem, h1, hlt, g, h2, h3, h4, h5, h6, bys_take, bys_drop, own_take] <;> repeat with_reducible refine And.intro (by first | omega | decide) ?_
              refine hHas.on (go 200 (fun _ => false) mixed ?_)
              simp (disch := omega) only [↓reduceIte, go_sem, h7] <;> repeat with_reducible refine And.intro (by first | omega | decide) ?_
              exact fin_drop (.inr rfl) hb rfl (by simp [runV])
            · rw [if_neg h7] at hall
              have es : strs acc ++ [PV.str (bs (ownB B i (atB B i)))] = strs (acc ++ [ownB B i (atB B i)]) := by simp [strs]
              have e9 := sumL_snoc acc (ownB B i (atB B i))
              rw [hol] at e9
              have hS := size_buf (H := H ++ [some (.cells (ver + 1) (strs (acc ++ [ownB B i (atB B i)])))]) (acc ++ [ownB B i (atB B i)]) H.length (ver + 1) true (by rw [get_tail0]; rfl) (by omega)
              rw [List.length_append] at hS
              simp (disch := omega) only [↓reduceIte, go_sem, h1, hlt, g, h2, h3, h4, h5, h6, bys_take, bys_drop, own_take] <;> repeat with_reducible refine And.intro (by first | omega | decide) ?_
              refine hHas.on (go 200 (fun _ => false) mixed ?_)
              simp (disch := omega) only [↓reduceIte, go_sem, h7, most, es] <;> repeat with_reducible refine And.intro (by first | omega | decide) ?_
              refine hS.mono fun r' H' ⟨e1, e2⟩ => ?_
              subst e1 e2
              refine go 200 (fun _ => false) mixed ?_
              by_cases h8 : 255 < had + (1 + sumL (acc ++ [ownB B i (atB B i)]))
              · rw [if_pos h8] at hall
                subst hall
                simp (disch := omega) only [↓reduceIte, go_sem, h8] <;> repeat with_reducible refine And.intro (by first | omega | decide) ?_
                exact fin_drop (.inr rfl) hb rfl (by simp [runV])
              · rw [if_neg h8] at hall
                simp (disch := omega) only [↓reduceIte, go_sem, h8] <;> repeat with_reducible refine And.intro (by first | omega | decide) ?_
                exact rnd_next (i + 1 + atB B i, acc ++ [ownB B i (atB B i)], ver + 1) ⟨h6, by show sumL (acc ++ [ownB B i (atB B i)]) ≤ 255; omega, hall⟩ (by show (B.length - (i + 1 + atB B i)) < (B.length - i); omega)
                  (by simp [slots, keepB]) rfl

theorem runF_ok {B : List UInt8} {had : Nat} : ∀ (k i : Nat) (acc : List (List UInt8)), B.length - i = k → had + (1 + sumL acc) ≤ 255 → ∀ {l : List (List UInt8)} {e : Nat} {p : Bool}, runF B i had acc = .ok l e p → i ≤ e ∧ e < B.length ∧ had + (1 + sumL l) ≤ 255 ∧ (p = true → 192 ≤ atB B e) := by
  intro k
  induction k using Nat.strongRecOn with
  | _ k ih =>
    intro i acc hk hs l e p h
    rw [runF] at h
    split at h
    · cases h
    · rename_i h1
      split at h
      · cases h; exact ⟨Nat.le_refl _, by omega, hs, by simp⟩
      · split at h
        · rename_i h3; cases h; exact ⟨Nat.le_refl _, by omega, hs, fun _ => h3⟩
        · split at h
          · cases h
          · rename_i h4
            split at h
            · cases h
            · split at h
              · cases h
              · rename_i h6
                obtain ⟨a, b, c⟩ := ih _ (by omega) _ _ rfl (by omega) h
                exact ⟨by omega, b, c⟩

theorem c_abatisref08_Read (B : List UInt8) (at0 : Nat) (hat : at0 ≤ B.length) (hB : B.length < 1000000) : PCall Try.prog 28 [.sl 1 (bys B), .int .i64 at0] (rdV (rdF B at0 at0 0 [])) := by
  intro H
  obtain ⟨R, hR⟩ : ∃ R, rdF B at0 at0 0 [] = R := ⟨_, rfl⟩
  rw [hR]
  refine scall_of (ord := fun _ => []) (rs := [4, 5, 6]) Try.func28 rfl (by kernel_rfl) (by kernel_rfl) (by kernel_rfl) Try.ntmps28 fun hb hargs => go 200 (fun _ => false) mixed ?_
  simp (disch := omega) only [↓reduceIte, go_sem] <;> repeat with_reducible refine And.intro (by first | omega | decide) ?_
  refine Runs.ghost (by rfl) (Ghost.grow (t := 7) (m := 1) rfl) ?_
  refine runs_loopA (fun x : Nat × Nat × List (List UInt8) × Nat => x.1 ≤ B.length ∧ x.2.1 ≤ B.length + 2 ∧ 1 + sumL x.2.2.1 ≤ 255 ∧ rdF B x.1 x.1 x.2.1 x.2.2.1 = R) (fun x => x.1)
    [true, true, false, false, false, false, false, true, true]
    (fun x => slots 67 [.sl 1 (bys B), .int .i64 x.1, .any, .any, .any, .any, .any, .buf H.length x.2.2.2 0 x.2.2.1.length 1 true, .int .i64 (if x.2.1 = 0 then -1 else (x.2.1 : Int))])
    (fun x => H ++ [some (.cells x.2.2.2 (strs x.2.2.1))]) (by rfl) (at0, 0, [], 0) ⟨hat, Nat.zero_le _, by simp [sumL], hR⟩ rfl rfl ?_
  rintro ⟨began, next, acc, ver⟩ ⟨hbg, hnx, hsz, hall⟩
  have hbg : began ≤ B.length := hbg
  have hnx : next ≤ B.length + 2 := hnx
  have hsz : 1 + sumL acc ≤ 255 := hsz
  have hall : rdF B began began next acc = R := hall
  have hal := len_sum acc
  have hrr := rd_run B began next acc _ began [] rfl
  rw [List.append_nil, hall] at hrr
  have hS := size_buf (H := H ++ [some (.cells ver (strs acc))]) acc H.length ver true (by rw [get_tail0]; rfl) (by omega)
  have hRun := c_abatisref08_Run B began (sumL acc) hbg (by omega) hB
  have hok := fun l e p h => runF_ok (B := B) (had := sumL acc) _ began [] rfl (by simpa [sumL, Nat.add_comm] using hsz) (l := l) (e := e) (p := p) h
  have hsub : ((1 + sumL acc : Nat) : Int) - 1 = (sumL acc : Nat) := by omega
  have hsub2 : 1 + sumL acc - 1 = sumL acc := by omega
  refine go 200 (fun _ => false) mixed ?_
  simp (disch := omega) only [↓reduceIte, go_sem] <;> repeat with_reducible refine And.intro (by first | omega | decide) ?_
  refine hS.mono fun r' H' ⟨e1, e2⟩ => ?_
  subst e1 e2
  refine go 200 (fun _ => false) mixed ?_
  simp (disch := omega) only [↓reduceIte, go_sem, hsub2] <;> repeat with_reducible refine And.intro (by first | omega | decide) ?_
  refine hRun.on (go 200 (fun _ => false) mixed ?_)
  cases hr : runF B began (sumL acc) [] with
  | form =>
    rw [hr] at hrr
    subst hrr
    simp (disch := omega) only [↓reduceIte, go_sem, runV] <;> repeat with_reducible refine And.intro (by first | omega | decide) ?_
    exact fin_drop (.inr rfl) hb rfl (by simp [rdV])
  | long =>
    rw [hr] at hrr
    subst hrr
    simp (disch := omega) only [↓reduceIte, go_sem, runV] <;> repeat with_reducible refine And.intro (by first | omega | decide) ?_
    exact fin_drop (.inr rfl) hb rfl (by simp [rdV])
  | ok own e p =>
    rw [hr] at hrr
    simp only at hrr
    obtain ⟨ho1, ho2, ho3, ho4⟩ := hok own e p hr
    have hol := len_sum own
    have es : strs acc ++ strs own = strs (acc ++ own) := by simp [strs]
    have hsum := sumL_app acc own
    have g : (bys B).getD e .any = .int .u8 (atB B e : Nat) := bys_getD ho2
    have hn := atB_lt B e
    cases p with
    | false =>
      rw [if_pos rfl] at hrr
      subst hrr
      have hJ := c_abatisref01_Join (H := H ++ [some (.cells (ver + 1) (strs (acc ++ own)))]) (acc ++ own) [46] H.length (ver + 1) true (acc ++ own) (by rw [get_tail0]; rfl) (Nat.le_refl _) (fun _ _ => rfl) (by have := joinL_sum (acc ++ own); omega) (by rw [List.length_append]; omega)
      rw [List.length_append] at hJ
      by_cases h6 : next = 0
      · simp (disch := omega) only [↓reduceIte, go_sem, runV, most, es, h6, strs_len] <;> repeat with_reducible refine And.intro (by first | omega | decide) ?_
        refine hJ.mono fun r' H' ⟨e1, e2⟩ => ?_
        subst e1 e2
        refine go 200 (fun _ => false) mixed ?_
        simp (disch := omega) only [↓reduceIte, go_sem] <;> repeat with_reducible refine And.intro (by first | omega | decide) ?_
        exact fin_drop (.inr rfl) hb rfl (by simp [rdV])
      · simp (disch := omega) only [↓reduceIte, go_sem, runV, most, es, h6, strs_len] <;> repeat with_reducible refine And.intro (by first | omega | decide) ?_
        refine hJ.mono fun r' H' ⟨e1, e2⟩ => ?_
        subst e1 e2
        refine go 200 (fun _ => false) mixed ?_
        simp (disch := omega) only [↓reduceIte, go_sem] <;> repeat with_reducible refine And.intro (by first | omega | decide) ?_
        exact fin_drop (.inr rfl) hb rfl (by simp [rdV])
    | true =>
      rw [if_neg (by simp)] at hrr
      have h3 := ho4 rfl
      by_cases h4 : B.length ≤ e + 1
      · rw [if_pos h4] at hrr
        subst hrr
        simp (disch := omega) only [↓reduceIte, go_sem, runV, most, es, h4, strs_len] <;> repeat with_reducible refine And.intro (by first | omega | decide) ?_
        exact fin_drop (.inr rfl) hb rfl (by simp [rdV])
      · rw [if_neg h4] at hrr
        have hlt2 : e + 1 < B.length := by omega
        have g2 : (bys B).getD (e + 1) .any = .int .u8 (atB B (e + 1) : Nat) := bys_getD hlt2
        have hn2 := atB_lt B (e + 1)
        have hptr : (atB B e - 192) * 256 + atB B (e + 1) = ptrB B e := rfl
        by_cases h5 : began ≤ ptrB B e
        · rw [if_pos h5] at hrr
          subst hrr
          by_cases h6 : next = 0
          · simp (disch := omega) only [↓reduceIte, go_sem, runV, most, es, h4, h6, h5, g, g2, ho2, hlt2, hptr, strs_len] <;> repeat with_reducible refine And.intro (by first | omega | decide) ?_
            exact fin_drop (.inr rfl) hb rfl (by simp [rdV])
          · simp (disch := omega) only [↓reduceIte, go_sem, runV, most, es, h4, h6, h5, g, g2, ho2, hlt2, hptr, strs_len] <;> repeat with_reducible refine And.intro (by first | omega | decide) ?_
            exact fin_drop (.inr rfl) hb rfl (by simp [rdV])
        · rw [if_neg h5] at hrr
          by_cases h6 : next = 0
          · rw [if_pos h6] at hrr
            simp (disch := omega) only [↓reduceIte, go_sem, runV, most, es, h4, h6, h5, g, g2, ho2, hlt2, hptr, strs_len] <;> repeat with_reducible refine And.intro (by first | omega | decide) ?_
            exact rnd_next (ptrB B e, e + 2, acc ++ own, ver + 1) ⟨by show ptrB B e ≤ _; omega, by show e + 2 ≤ _; omega, by show 1 + sumL (acc ++ own) ≤ 255; omega, hrr.symm⟩ (by show ptrB B e < began; omega) (by simp [slots, keepB]) rfl
          · rw [if_neg h6] at hrr
            simp (disch := omega) only [↓reduceIte, go_sem, runV, most, es, h4, h6, h5, g, g2, ho2, hlt2, hptr, strs_len] <;> repeat with_reducible refine And.intro (by first | omega | decide) ?_
            exact rnd_next (ptrB B e, next, acc ++ own, ver + 1) ⟨by show ptrB B e ≤ _; omega, hnx, by show 1 + sumL (acc ++ own) ≤ 255; omega, hrr.symm⟩ (by show ptrB B e < began; omega) (by simp [slots, keepB, h6]) rfl
end Go.Proofs.GoC
