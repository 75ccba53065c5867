/-
  What the functions compute: the name at a place of any bytes. No claim by itself.
-/
import Derived.Test.YtmgemdgbffmnjaaGoName2
namespace Go.Proofs.GoC
open Go Go.Proofs.SL
set_option linter.unusedSimpArgs false
set_option linter.unusedVariables false
set_option maxRecDepth 10000
set_option maxHeartbeats 4000000

inductive RdR where
  | ok (l : List (List UInt8)) (next : Nat)
  | form
  | long
def atB (B : List UInt8) (i : Nat) : Nat := (B.getD i 0).toNat
theorem atB_lt (B : List UInt8) (i : Nat) : atB B i < 256 := (B.getD i 0).toNat_lt
/-- The own bytes of a label that has so many, behind its length. -/
def ownB (B : List UInt8) (i n : Nat) : List UInt8 := (B.drop (i + 1)).take n
def ptrB (B : List UInt8) (i : Nat) : Nat := (atB B i - 192) * 256 + atB B (i + 1)

/-- Reading goes on: at i, of labels that began there, with what stands behind known or not (0), and labels so far. -/
def rdF (B : List UInt8) (i began next : Nat) (acc : List (List UInt8)) : RdR :=
  if h1 : B.length ≤ i then .form
  else if atB B i = 0 then .ok acc (if next = 0 then i + 1 else next)
  else if 192 ≤ atB B i then
    if B.length ≤ i + 1 then .form
    else if h2 : began ≤ ptrB B i then .form
    else rdF B (ptrB B i) (ptrB B i) (if next = 0 then i + 2 else next) acc
  else if 63 < atB B i ∨ B.length - (i + 1) < atB B i then .form
  else if 46 ∈ ownB B i (atB B i) then .form
  else if 255 < 1 + sumL acc + (atB B i + 1) then .long
  else rdF B (i + 1 + atB B i) began next (acc ++ [ownB B i (atB B i)])
termination_by (began, B.length - i)
decreasing_by
  · exact Prod.Lex.left _ _ (by omega)
  · exact Prod.Lex.right _ (by omega)

def rdV : RdR → PV
  | .ok l n => .tup [.str (bs (joinL [46] l)), .int .i64 (n : Nat), .int .i64 0]
  | .form => .tup [.str (bs []), .int .i64 0, .int .i64 2]
  | .long => .tup [.str (bs []), .int .i64 0, .int .i64 3]

theorem ownB_len {B : List UInt8} {i n : Nat} (h : ¬ B.length - (i + 1) < n) : (ownB B i n).length = n := by
  unfold ownB; rw [List.length_take, List.length_drop]; omega
theorem sumL_snoc (l : List (List UInt8)) (a : List UInt8) : sumL (l ++ [a]) = sumL l + (1 + a.length) := by rw [sumL_app]; simp [sumL]
theorem joinL_sum : ∀ l : List (List UInt8), (joinL [46] l).length ≤ sumL l
  | [] => by simp [joinL]
  | [a] => by simp [joinL, sumL]
  | a :: b :: l => by
    rw [joinL_cons _ _ _ (by simp), sumL_cons]
    have := joinL_sum (b :: l)
    simp only [List.length_append, List.length_cons, List.length_nil]
    omega
theorem len_sum (l : List (List UInt8)) : l.length ≤ sumL l := by
  induction l with
  | nil => exact Nat.le_refl _
  | cons a l ih => rw [sumL_cons, List.length_cons]; omega
theorem or8 (a b : Nat) (ha : a < 64) (hb : b < 256) : bitOp .or .i64 ((a : Int) * 256) (b : Int) = ((a * 256 + b : Nat) : Int) := by
  have := or_add (a := a) (b := b) (s := 8) (by omega) (by omega)
  have e : ((a * 2 ^ 8 : Nat) : Int) = (a : Int) * 256 := by omega
  rw [e] at this
  exact this

theorem own_take {B : List UInt8} {i n : Nat} : (B.take (i + 1 + n)).drop (i + 1) = ownB B i n := by
  unfold ownB; rw [List.drop_take, Nat.add_sub_cancel_left]

theorem c_label_Read (B : List UInt8) (at0 : Nat) (hat : at0 ≤ B.length) (hB : B.length < 1100000) : PCall Try.prog 78 [.sl 1 (bys B), .int .i64 at0] (rdV (rdF B at0 at0 0 [])) := by
  intro H
  obtain ⟨R, hR⟩ : ∃ R, rdF B at0 at0 0 [] = R := ⟨_, rfl⟩
  rw [hR]
  refine scall_of (ord := fun _ => []) (rs := [4, 5, 6]) Try.func78 rfl (by kernel_rfl) (by kernel_rfl) (by kernel_rfl) Try.ntmps78 fun hb hargs => go 200 (fun _ => false) mixed ?_
  simp (disch := omega) only [↓reduceIte, go_sem] <;> repeat with_reducible refine And.intro (by first | omega | decide) ?_
  refine Runs.ghost (by rfl) (Ghost.grow (t := 7) (m := 1) rfl) ?_
  refine runs_loopA (fun x : Nat × Nat × Nat × List (List UInt8) × Nat => x.1 ≤ B.length ∧ x.2.1 ≤ B.length ∧ x.2.2.1 ≤ B.length + 2 ∧ 1 + sumL x.2.2.2.1 ≤ 255 ∧ rdF B x.1 x.2.1 x.2.2.1 x.2.2.2.1 = R) (fun x => x.2.1 * (B.length + 1) + (B.length - x.1))
    [true, false, false, false, false, false, false, true, true, true, true, true]
    (fun x => slots 95 [.sl 1 (bys B), .any, .any, .any, .any, .any, .any, .buf H.length x.2.2.2.2 0 x.2.2.2.1.length 1 true, .int .i64 (1 + sumL x.2.2.2.1 : Nat), .int .i64 x.2.2.1, .int .i64 x.1, .int .i64 x.2.1])
    (fun x => H ++ [some (.cells x.2.2.2.2 (strs x.2.2.2.1))]) (by rfl) (at0, at0, 0, [], 0) ⟨hat, hat, Nat.zero_le _, by simp [sumL], hR⟩ rfl rfl ?_
  rintro ⟨i, began, next, acc, ver⟩ ⟨hi, hbg, hnx, hsz, hall⟩
  have hi : i ≤ B.length := hi
  have hbg : began ≤ B.length := hbg
  have hnx : next ≤ B.length + 2 := hnx
  have hsz : 1 + sumL acc ≤ 255 := hsz
  have hall : rdF B i began next acc = R := hall
  rw [rdF] at hall
  have hal := len_sum acc
  refine go 200 (fun _ => false) mixed ?_
  by_cases h1 : B.length ≤ i
  · rw [dif_pos h1] at hall
    subst hall
    simp (disch := omega) only [↓reduceIte, go_sem, h1] <;> repeat with_reducible refine And.intro (by first | omega | decide) ?_
    exact fin_drop (.inr rfl) hb rfl (by simp [rdV])
  · rw [dif_neg h1] at hall
    have hlt : i < B.length := by omega
    have g : (bys B).getD i .any = .int .u8 (atB B i : Nat) := bys_getD hlt
    have hn := atB_lt B i
    by_cases h2 : atB B i = 0
    · rw [if_pos h2] at hall
      subst hall
      have hJ := c_strings_Join (H := H ++ [some (.cells ver (strs acc))]) acc [46] (.buf H.length ver 0 acc.length 1 true) (.inr (.inr ⟨_, _, _, rfl, by rw [get_tail0]; rfl⟩)) (by omega) (by have := joinL_sum acc; omega)
      by_cases h3 : next = 0
      · rw [if_pos h3]
        simp (disch := omega) only [↓reduceIte, go_sem, h1, hlt, g, h2, h3] <;> repeat with_reducible refine And.intro (by first | omega | decide) ?_
        refine go 200 (fun _ => false) mixed ?_
        simp (disch := omega) only [↓reduceIte, go_sem, h3] <;> repeat with_reducible refine And.intro (by first | omega | decide) ?_
        refine hJ.mono fun r' H' ⟨e1, e2⟩ => ?_
        subst e1 e2
        refine go 200 (fun _ => false) mixed ?_
        simp (disch := omega) only [↓reduceIte, go_sem] <;> repeat with_reducible refine And.intro (by first | omega | decide) ?_
        exact fin_drop (.inr rfl) hb rfl (by simp [rdV])
      · rw [if_neg h3]
        simp (disch := omega) only [↓reduceIte, go_sem, h1, hlt, g, h2, h3] <;> repeat with_reducible refine And.intro (by first | omega | decide) ?_
        refine go 200 (fun _ => false) mixed ?_
        simp (disch := omega) only [↓reduceIte, go_sem, h3] <;> repeat with_reducible refine And.intro (by first | omega | decide) ?_
        refine hJ.mono fun r' H' ⟨e1, e2⟩ => ?_
        subst e1 e2
        refine go 200 (fun _ => false) mixed ?_
        simp (disch := omega) only [↓reduceIte, go_sem] <;> repeat with_reducible refine And.intro (by first | omega | decide) ?_
        exact fin_drop (.inr rfl) hb rfl (by simp [rdV])
    · rw [if_neg h2] at hall
      by_cases h3 : 192 ≤ atB B i
      · rw [if_pos h3] at hall
        by_cases h4 : B.length ≤ i + 1
        · rw [if_pos h4] at hall
          subst hall
          simp (disch := omega) only [↓reduceIte, go_sem, h1, hlt, g, h2, h3, h4] <;> repeat with_reducible refine And.intro (by first | omega | decide) ?_
          exact fin_drop (.inr rfl) hb rfl (by simp [rdV])
        · rw [if_neg h4] at hall
          have hlt2 : i + 1 < B.length := by omega
          have g2 : (bys B).getD (i + 1) .any = .int .u8 (atB B (i + 1) : Nat) := bys_getD hlt2
          have hn2 := atB_lt B (i + 1)
          have hor : bitOp .or .i64 (((atB B i - 192) * 256 : Nat) : Int) ((atB B (i + 1) : Nat) : Int) = ((ptrB B i : Nat) : Int) := or_add (s := 8) (by omega) (by omega)
          by_cases h5 : began ≤ ptrB B i
          · rw [dif_pos h5] at hall
            subst hall
            by_cases h6 : next = 0
            · simp (disch := omega) only [↓reduceIte, go_sem, h1, hlt, g, h2, h3, h4, hlt2, g2, hor, h5, h6] <;> repeat with_reducible refine And.intro (by first | omega | decide) ?_
              exact fin_drop (.inr rfl) hb rfl (by simp [rdV])
            · simp (disch := omega) only [↓reduceIte, go_sem, h1, hlt, g, h2, h3, h4, hlt2, g2, hor, h5, h6] <;> repeat with_reducible refine And.intro (by first | omega | decide) ?_
              exact fin_drop (.inr rfl) hb rfl (by simp [rdV])
          · rw [dif_neg h5] at hall
            have hm : ptrB B i * (B.length + 1) + (B.length - ptrB B i) < began * (B.length + 1) + (B.length - i) := by
              have : (ptrB B i + 1) * (B.length + 1) ≤ began * (B.length + 1) := Nat.mul_le_mul_right _ (by omega)
              rw [Nat.succ_mul] at this
              omega
            by_cases h6 : next = 0
            · rw [if_pos h6] at hall
              simp (disch := omega) only [↓reduceIte, go_sem, h1, hlt, g, h2, h3, h4, hlt2, g2, hor, h5, h6] <;> repeat with_reducible refine And.intro (by first | omega | decide) ?_
              exact rnd_next (ptrB B i, ptrB B i, i + 2, acc, ver) ⟨by show ptrB B i ≤ _; omega, by show ptrB B i ≤ _; omega, by show i + 2 ≤ _; omega, hsz, hall⟩ hm rfl rfl
            · rw [if_neg h6] at hall
              simp (disch := omega) only [↓reduceIte, go_sem, h1, hlt, g, h2, h3, h4, hlt2, g2, hor, h5, h6] <;> repeat with_reducible refine And.intro (by first | omega | decide) ?_
              exact rnd_next (ptrB B i, ptrB B i, next, acc, ver) ⟨by show ptrB B i ≤ _; omega, by show ptrB B i ≤ _; omega, hnx, hsz, hall⟩ hm rfl rfl
      · rw [if_neg h3] at hall
        by_cases h4 : 63 < atB B i
        · rw [if_pos (.inl h4)] at hall
          subst hall
          simp (disch := omega) only [↓reduceIte, go_sem, h1, hlt, g, h2, h3, h4] <;> repeat with_reducible refine And.intro (by first | omega | decide) ?_
          exact fin_drop (.inr rfl) hb rfl (by simp [rdV])
        · by_cases h5 : B.length - (i + 1) < atB B i
          · rw [if_pos (.inr h5)] at hall
            subst hall
            simp (disch := omega) only [↓reduceIte, go_sem, h1, hlt, g, h2, h3, h4, h5] <;> repeat with_reducible refine And.intro (by first | omega | decide) ?_
            exact fin_drop (.inr rfl) hb rfl (by simp [rdV])
          · rw [if_neg (fun h => h.elim h4 h5)] at hall
            have h6 : i + 1 + atB B i ≤ B.length := by omega
            have hol := ownB_len h5
            by_cases h7 : 46 ∈ ownB B i (atB B i)
            · rw [if_pos h7] at hall
              subst hall
              simp (disch := omega) only [↓reduceIte, go_sem, h1, hlt, g, h2, h3, h4, h5, h6, bys_take, bys_drop, own_take] <;> repeat with_reducible refine And.intro (by first | omega | decide) ?_
              refine (c_strings_Contains _ 46).on (go 200 (fun _ => false) mixed ?_)
              simp (disch := omega) only [↓reduceIte, go_sem, h7] <;> repeat with_reducible refine And.intro (by first | omega | decide) ?_
              exact fin_drop (.inr rfl) hb rfl (by simp [rdV])
            · rw [if_neg h7] at hall
              by_cases h8 : 255 < 1 + sumL acc + (atB B i + 1)
              · rw [if_pos h8] at hall
                subst hall
                simp (disch := omega) only [↓reduceIte, go_sem, h1, hlt, g, h2, h3, h4, h5, h6, bys_take, bys_drop, own_take] <;> repeat with_reducible refine And.intro (by first | omega | decide) ?_
                refine (c_strings_Contains _ 46).on (go 200 (fun _ => false) mixed ?_)
                simp (disch := omega) only [↓reduceIte, go_sem, h7, h8] <;> repeat with_reducible refine And.intro (by first | omega | decide) ?_
                exact fin_drop (.inr rfl) hb rfl (by simp [rdV])
              · rw [if_neg h8] at hall
                have es : strs acc ++ [PV.str (bs (ownB B i (atB B i)))] = strs (acc ++ [ownB B i (atB B i)]) := by simp [strs]
                have e9 := sumL_snoc acc (ownB B i (atB B i))
                rw [hol] at e9
                simp (disch := omega) only [↓reduceIte, go_sem, h1, hlt, g, h2, h3, h4, h5, h6, bys_take, bys_drop, own_take] <;> repeat with_reducible refine And.intro (by first | omega | decide) ?_
                refine (c_strings_Contains _ 46).on (go 200 (fun _ => false) mixed ?_)
                simp (disch := omega) only [↓reduceIte, go_sem, h7, h8, most, es] <;> repeat with_reducible refine And.intro (by first | omega | decide) ?_
                exact rnd_next (i + 1 + atB B i, began, next, acc ++ [ownB B i (atB B i)], ver + 1) ⟨h6, hbg, hnx, by show 1 + sumL (acc ++ [ownB B i (atB B i)]) ≤ 255; omega, hall⟩ (by show began * (B.length + 1) + (B.length - (i + 1 + atB B i)) < began * (B.length + 1) + (B.length - i); omega)
                  (by simp [slots, keepB, e9]; omega) rfl
end Go.Proofs.GoC
