/-
  What the functions compute: the document's name at a place of any bytes. No claim by itself.
-/
import Derived.Test.YtmgemdgbffmnjaaGoRead1
namespace Go.Proofs.GoC
open Go Go.Proofs.SL
set_option linter.unusedSimpArgs false
set_option linter.unusedVariables false
set_option maxRecDepth 10000
set_option maxHeartbeats 4000000

inductive RunR where
  | ok (l : List (List UInt8)) (fin : Nat) (points : Bool)
  | form
  | long
def runF (B : List UInt8) (i had : Nat) (acc : List (List UInt8)) : RunR :=
  if h1 : B.length ≤ i then .form
  else if atB B i = 0 then .ok acc i false
  else if 192 ≤ atB B i then .ok acc i true
  else if 63 < atB B i ∨ B.length < i + 1 + atB B i then .form
  else if 46 ∈ ownB B i (atB B i) then .form
  else if 255 < had + (1 + sumL (acc ++ [ownB B i (atB B i)])) then .long
  else runF B (i + 1 + atB B i) had (acc ++ [ownB B i (atB B i)])
termination_by B.length - i
def runV : RunR → PV
  | .ok l n p => .tup [.sl 1 (strs l), .int .i64 (n : Nat), .bool p, .int .i64 0]
  | .form => .tup [.nils, .int .i64 0, .bool false, .int .i64 2]
  | .long => .tup [.nils, .int .i64 0, .bool false, .int .i64 3]

theorem rd_run (B : List UInt8) (began next : Nat) (acc : List (List UInt8)) : ∀ (k i : Nat) (racc : List (List UInt8)), B.length - i = k → rdF B i began next (acc ++ racc) = match runF B i (sumL acc) racc with
    | .form => .form
    | .long => .long
    | .ok own e points => if points = false then .ok (acc ++ own) (if next = 0 then e + 1 else next)
      else if B.length ≤ e + 1 then .form else if began ≤ ptrB B e then .form
      else rdF B (ptrB B e) (ptrB B e) (if next = 0 then e + 2 else next) (acc ++ own) := by
  intro k
  induction k using Nat.strongRecOn with
  | _ k ih =>
    intro i racc hk
    rw [rdF, runF]
    by_cases h1 : B.length ≤ i
    · rw [dif_pos h1, dif_pos h1]
    · rw [dif_neg h1, dif_neg h1]
      by_cases h2 : atB B i = 0
      · rw [if_pos h2, if_pos h2]; simp
      · rw [if_neg h2, if_neg h2]
        by_cases h3 : 192 ≤ atB B i
        · rw [if_pos h3, if_pos h3]; simp
        · rw [if_neg h3, if_neg h3]
          by_cases h4 : 63 < atB B i ∨ B.length - (i + 1) < atB B i
          · rw [if_pos h4, if_pos (show 63 < atB B i ∨ B.length < i + 1 + atB B i by omega)]
          · rw [if_neg h4, if_neg (show ¬ (63 < atB B i ∨ B.length < i + 1 + atB B i) by omega)]
            by_cases h5 : 46 ∈ ownB B i (atB B i)
            · rw [if_pos h5, if_pos h5]
            · rw [if_neg h5, if_neg h5]
              have hol := ownB_len (B := B) (i := i) (n := atB B i) (by omega)
              have es : 1 + sumL (acc ++ racc) + (atB B i + 1) = sumL acc + (1 + sumL (racc ++ [ownB B i (atB B i)])) := by
                rw [sumL_app, sumL_snoc, hol]; omega
              rw [es]
              by_cases h6 : 255 < sumL acc + (1 + sumL (racc ++ [ownB B i (atB B i)]))
              · rw [if_pos h6, if_pos h6]
              · rw [if_neg h6, if_neg h6, List.append_assoc, ih _ (by omega) (i + 1 + atB B i) (racc ++ [ownB B i (atB B i)]) rfl]

/-- The size of a slice of labels that grows. -/
theorem size_buf {H : Heap} (l : List (List UInt8)) (i ver : Nat) (tip : Bool) (hi : H[i]? = some (some (.cells ver (strs l)))) (hl : sumL l < 2000000) :
    SCall Try.prog 61 [.buf i ver 0 l.length 1 tip] H fun r' H' => r' = .int .i64 (1 + sumL l : Nat) ∧ H' = H := by
  have ho := obj_of hi
  have hn := len_sum l
  refine scall_of (ord := fun _ => []) (rs := [2]) Try.func61 rfl (by kernel_rfl) (by kernel_rfl) (by kernel_rfl) Try.ntmps61 fun hb hargs => go 200 (fun _ => false) mixed ?_
  simp (disch := omega) only [↓reduceIte, go_sem] <;> repeat with_reducible refine And.intro (by first | omega | decide) ?_
  refine runs_loopA (fun x : Nat × Nat => x.1 ≤ l.length ∧ x.2 + sumL (l.drop x.1) = 1 + sumL l) (fun x => l.length - x.1) [true, false, false, true, true]
    (fun x => slots 20 [.buf i ver 0 l.length 1 tip, .any, .any, .int .i64 x.2, .int .i64 x.1]) (fun k => H) (by rfl) (0, 1) ⟨Nat.zero_le _, rfl⟩ rfl rfl ?_
  rintro ⟨k, n⟩ ⟨hk, hall⟩
  have hk : k ≤ l.length := hk
  have hall : n + sumL (l.drop k) = 1 + sumL l := hall
  refine go 200 (fun _ => false) mixed ?_
  by_cases hlt : k < l.length
  · rw [List.drop_eq_getElem_cons hlt, ← getDL_of hlt, sumL_cons] at hall
    have hget := strs_getD hlt
    simp (disch := omega) only [↓reduceIte, go_sem, hlt, hget, ho] <;> repeat with_reducible refine And.intro (by first | omega | decide) ?_
    exact rnd_next (k + 1, n + 1 + (l.getD k []).length) ⟨by omega, by simp only; omega⟩ (by show l.length - (k + 1) < l.length - k; omega) rfl rfl
  · rw [List.drop_eq_nil_of_le (by omega), show sumL [] = 0 from rfl, Nat.add_zero] at hall
    subst hall
    simp (disch := omega) only [↓reduceIte, go_sem, hlt] <;> repeat with_reducible refine And.intro (by first | omega | decide) ?_
    refine go 200 (fun _ => false) mixed ?_
    simp (disch := omega) only [↓reduceIte, go_sem] <;> repeat with_reducible refine And.intro (by first | omega | decide) ?_
    exact fin rfl rfl

theorem runF_ok {B : List UInt8} {had : Nat} : ∀ (k i : Nat) (acc : List (List UInt8)), B.length - i = k → had + (1 + sumL acc) ≤ 255 → ∀ {l : List (List UInt8)} {e : Nat} {p : Bool}, runF B i had acc = .ok l e p → i ≤ e ∧ e < B.length ∧ had + (1 + sumL l) ≤ 255 ∧ (p = true → 192 ≤ atB B e) := by
  intro k
  induction k using Nat.strongRecOn with
  | _ k ih =>
    intro i acc hk hs l e p h
    rw [runF] at h
    split at h
    · cases h
    · rename_i h1
      split at h
      · cases h; exact ⟨Nat.le_refl _, by omega, hs, by simp⟩
      · split at h
        · rename_i h3; cases h; exact ⟨Nat.le_refl _, by omega, hs, fun _ => h3⟩
        · split at h
          · cases h
          · rename_i h4
            split at h
            · cases h
            · split at h
              · cases h
              · rename_i h6
                obtain ⟨a, b, c⟩ := ih _ (by omega) _ _ rfl (by omega) h
                exact ⟨by omega, b, c⟩

end Go.Proofs.GoC
