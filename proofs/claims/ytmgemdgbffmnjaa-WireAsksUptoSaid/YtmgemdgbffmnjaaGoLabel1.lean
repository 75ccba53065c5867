/-
  What the functions compute: names of hosts, and which may be. No claim by itself.
-/
import Derived.Test.YtmgemdgbffmnjaaGoText1
namespace Go.Proofs.GoC
open Go Go.Proofs.SL
set_option linter.unusedSimpArgs false
set_option linter.unusedVariables false
set_option maxRecDepth 10000
set_option maxHeartbeats 2000000

/-- Where the first one is for which a function is true. -/
def idxF (p : List UInt8 → Bool) : List (List UInt8) → Int → Int
  | [], _ => -1
  | a :: l, i => if p a then i else idxF p l (i + 1)
theorem idxF_any (p : List UInt8 → Bool) : ∀ (l : List (List UInt8)) (i : Int), 0 ≤ i → (0 ≤ idxF p l i ↔ l.any p = true)
  | [], i, h => by simp [idxF]
  | a :: l, i, h => by
    unfold idxF
    by_cases hp : p a = true
    · rw [if_pos hp]; simp [hp, h]
    · rw [if_neg hp, idxF_any p l (i + 1) (by omega)]; simp [hp]

theorem c_slices_IndexFunc_string_string (f : Nat) (p : List UInt8 → Bool) (l : List (List UInt8)) (hp : ∀ a ∈ l, PCall Try.prog f [.str (bs a)] (.bool (p a))) (hl : l.length < 1100002) (x : PV) (hx : (x = .nils ∧ l = []) ∨ x = .sl 1 (strs l)) :
    PCall Try.prog 93 [x, .func (.func f) [] []] (.int .i64 (idxF p l 0)) := by
  intro H
  refine scall_of (ord := fun _ => []) (rs := [4]) Try.func93 rfl (by kernel_rfl) (by kernel_rfl) (by kernel_rfl) Try.ntmps93 fun hb hargs => go 200 (fun _ => false) mixed ?_
  rcases hx with ⟨rfl, rfl⟩ | rfl
  · simp (disch := omega) only [↓reduceIte, go_sem] <;> repeat with_reducible refine And.intro (by first | omega | decide) ?_
    refine runs_loopA (fun k : Nat => k = 0) (fun k => 0) [true, true, false, false, false, false, false, true, true]
      (fun k => slots 19 [.nils, .func (.func f) [] [], .any, .any, .any, .any, .any, .int .i64 0, .int .i64 0]) (fun k => H) (by rfl) 0 rfl rfl rfl ?_
    rintro k rfl
    refine go 200 (fun _ => false) mixed ?_
    simp (disch := omega) only [↓reduceIte, go_sem] <;> repeat with_reducible refine And.intro (by first | omega | decide) ?_
    refine go 200 (fun _ => false) mixed ?_
    simp (disch := omega) only [↓reduceIte, go_sem] <;> repeat with_reducible refine And.intro (by first | omega | decide) ?_
    exact fin rfl rfl
  · simp (disch := omega) only [↓reduceIte, go_sem] <;> repeat with_reducible refine And.intro (by first | omega | decide) ?_
    refine runs_loopA (fun k : Nat => k ≤ l.length ∧ idxF p l 0 = idxF p (l.drop k) k) (fun k => l.length - k) [true, true, false, false, false, false, false, true, true]
      (fun k => slots 19 [.sl 1 (strs l), .func (.func f) [] [], .any, .any, .any, .any, .any, .int .i64 l.length, .int .i64 k]) (fun k => H) (by rfl) 0 ⟨Nat.zero_le _, rfl⟩ rfl rfl ?_
    rintro k ⟨hk, hall⟩
    refine go 200 (fun _ => false) mixed ?_
    by_cases hlt : k < l.length
    · rw [List.drop_eq_getElem_cons hlt, ← getDL_of hlt, idxF] at hall
      have hm : l.getD k [] ∈ l := by rw [getDL_of hlt]; exact List.getElem_mem _
      have hpk := hp _ hm
      have hget := strs_getD hlt
      simp (disch := omega) only [↓reduceIte, go_sem, hlt, hget] <;> repeat with_reducible refine And.intro (by first | omega | decide) ?_
      refine hpk.on (go 200 (fun _ => false) mixed ?_)
      cases hc : p (l.getD k []) with
      | true =>
        rw [if_pos hc] at hall
        simp (disch := omega) only [↓reduceIte, go_sem, hlt, hget] <;> repeat with_reducible refine And.intro (by first | omega | decide) ?_
        exact fin (by rw [hall]; rfl) rfl
      | false =>
        rw [if_neg (by rw [hc]; decide)] at hall
        simp (disch := omega) only [↓reduceIte, go_sem, hlt, hget] <;> repeat with_reducible refine And.intro (by first | omega | decide) ?_
        exact rnd_next (k + 1) ⟨by omega, by rw [hall]; rfl⟩ (by show l.length - (k + 1) < l.length - k; omega) rfl rfl
    · rw [List.drop_eq_nil_of_le (by omega), idxF] at hall
      simp (disch := omega) only [↓reduceIte, go_sem, hlt] <;> repeat with_reducible refine And.intro (by first | omega | decide) ?_
      refine go 200 (fun _ => false) mixed ?_
      simp (disch := omega) only [↓reduceIte, go_sem] <;> repeat with_reducible refine And.intro (by first | omega | decide) ?_
      exact fin (by rw [hall]; rfl) rfl

theorem c_slices_ContainsFunc_string_string (f : Nat) (p : List UInt8 → Bool) (l : List (List UInt8)) (hp : ∀ a ∈ l, PCall Try.prog f [.str (bs a)] (.bool (p a))) (hl : l.length < 1100002) (x : PV) (hx : (x = .nils ∧ l = []) ∨ x = .sl 1 (strs l)) :
    PCall Try.prog 73 [x, .func (.func f) [] []] (.bool (l.any p)) := by
  intro H
  have hi := idxF_any p l 0 (by omega)
  have key := c_slices_IndexFunc_string_string f p l hp hl x hx
  refine scall_of (ord := fun _ => []) (rs := [4]) Try.func73 rfl (by kernel_rfl) (by kernel_rfl) (by kernel_rfl) Try.ntmps73 fun hb hargs => go 200 (fun _ => false) mixed ?_
  generalize idxF p l 0 = i at *
  simp (disch := omega) only [↓reduceIte, go_sem] <;> repeat with_reducible refine And.intro (by first | omega | decide) ?_
  refine key.on (go 200 (fun _ => false) mixed ?_)
  cases ha : l.any p with
  | true =>
    have := hi.mpr ha
    simp (disch := omega) only [↓reduceIte, go_sem, this] <;> repeat with_reducible refine And.intro (by first | omega | decide) ?_
    exact fin rfl rfl
  | false =>
    have : ¬ 0 ≤ i := fun h => by rw [hi.mp h] at ha; exact nomatch ha
    simp (disch := omega) only [↓reduceIte, go_sem, this] <;> repeat with_reducible refine And.intro (by first | omega | decide) ?_
    exact fin rfl rfl

/-! Names. -/
def labF (s : List UInt8) : List (List UInt8) := if s = [] then [] else splitA 46 s [] []
def labV (s : List UInt8) : PV := if s = [] then .nils else .sl 1 (strs (splitA 46 s [] []))
def oddL (a : List UInt8) : Bool := decide (a = []) || decide (63 < a.length)
def mayN (s : List UInt8) : Bool := decide (s.length ≤ 253) && !((labF s).any oddL)
theorem labV_or (s : List UInt8) : (labV s = .nils ∧ labF s = []) ∨ labV s = .sl 1 (strs (labF s)) := by
  unfold labV labF
  by_cases h : s = []
  · rw [if_pos h, if_pos h]; exact .inl ⟨rfl, rfl⟩
  · rw [if_neg h, if_neg h]; exact .inr rfl
theorem labF_len (s : List UInt8) : (labF s).length ≤ s.length + 1 := by
  unfold labF
  by_cases h : s = []
  · rw [if_pos h]; simp
  · rw [if_neg h]
    have := splitA_len 46 s [] []
    simp at this
    omega

theorem c_label_Labels (s : List UInt8) (hl : s.length < 1100000) : PCall Try.prog 64 [.str (bs s)] (labV s) := by
  intro H
  refine scall_of (ord := fun _ => []) (rs := [2]) Try.func64 rfl (by kernel_rfl) (by kernel_rfl) (by kernel_rfl) Try.ntmps64 fun hb hargs => go 200 (fun _ => false) mixed ?_
  unfold labV
  by_cases h : s = []
  · rw [if_pos h]
    simp (disch := omega) only [↓reduceIte, go_sem, h] <;> repeat with_reducible refine And.intro (by first | omega | decide) ?_
    exact fin rfl rfl
  · rw [if_neg h]
    simp (disch := omega) only [↓reduceIte, go_sem, h] <;> repeat with_reducible refine And.intro (by first | omega | decide) ?_
    refine (c_text_Split s 46 hl).on (go 200 (fun _ => false) mixed ?_)
    simp (disch := omega) only [↓reduceIte, go_sem] <;> repeat with_reducible refine And.intro (by first | omega | decide) ?_
    exact fin rfl rfl
theorem c_abatisref08_Labels (s : List UInt8) (hl : s.length < 1100000) : PCall Try.prog 46 [.str (bs s)] (labV s) := by
  intro H
  refine scall_of (ord := fun _ => []) (rs := [2]) Try.func46 rfl (by kernel_rfl) (by kernel_rfl) (by kernel_rfl) Try.ntmps46 fun hb hargs => go 200 (fun _ => false) mixed ?_
  unfold labV
  by_cases h : s = []
  · rw [if_pos h]
    simp (disch := omega) only [↓reduceIte, go_sem, h] <;> repeat with_reducible refine And.intro (by first | omega | decide) ?_
    exact fin rfl rfl
  · rw [if_neg h]
    simp (disch := omega) only [↓reduceIte, go_sem, h] <;> repeat with_reducible refine And.intro (by first | omega | decide) ?_
    refine (c_abatisref01_Split s 46 hl).on (go 200 (fun _ => false) mixed ?_)
    simp (disch := omega) only [↓reduceIte, go_sem] <;> repeat with_reducible refine And.intro (by first | omega | decide) ?_
    exact fin rfl rfl
theorem c_label_May_1 (a : List UInt8) : PCall Try.prog 72 [.str (bs a)] (.bool (oddL a)) := by
  intro H
  refine scall_of (ord := fun _ => []) (rs := [2]) Try.func72 rfl (by kernel_rfl) (by kernel_rfl) (by kernel_rfl) Try.ntmps72 fun hb hargs => go 200 (fun _ => false) mixed ?_
  unfold oddL
  by_cases h : a = []
  · subst h
    simp (disch := omega) only [↓reduceIte, go_sem] <;> repeat with_reducible refine And.intro (by first | omega | decide) ?_
    exact fin rfl rfl
  · by_cases h2 : 63 < a.length
    · simp (disch := omega) only [↓reduceIte, go_sem, h, h2] <;> repeat with_reducible refine And.intro (by first | omega | decide) ?_
      exact fin (by simp [go_sem, h, h2]) rfl
    · simp (disch := omega) only [↓reduceIte, go_sem, h, h2] <;> repeat with_reducible refine And.intro (by first | omega | decide) ?_
      exact fin (by simp [go_sem, h, h2]) rfl
theorem c_label_May (s : List UInt8) (hl : s.length < 1100000) : PCall Try.prog 41 [.str (bs s)] (.bool (mayN s)) := by
  intro H
  have hlen := labF_len s
  have key := c_slices_ContainsFunc_string_string 72 oddL (labF s) (fun a _ => c_label_May_1 a) (by omega) (labV s) (labV_or s)
  unfold mayN
  generalize (labF s).any oddL = o at *
  refine scall_of (ord := fun _ => []) (rs := [2]) Try.func41 rfl (by kernel_rfl) (by kernel_rfl) (by kernel_rfl) Try.ntmps41 fun hb hargs => go 200 (fun _ => false) mixed ?_
  by_cases h : s.length ≤ 253
  · simp (disch := omega) only [↓reduceIte, go_sem, h] <;> repeat with_reducible refine And.intro (by first | omega | decide) ?_
    refine (c_label_Labels s hl).on (go 200 (fun _ => false) mixed ?_)
    simp (disch := omega) only [↓reduceIte, go_sem, h] <;> repeat with_reducible refine And.intro (by first | omega | decide) ?_
    refine key.on (go 200 (fun _ => false) mixed ?_)
    simp (disch := omega) only [↓reduceIte, go_sem, h] <;> repeat with_reducible refine And.intro (by first | omega | decide) ?_
    exact fin (by simp [go_sem, h]) rfl
  · simp (disch := omega) only [↓reduceIte, go_sem, h] <;> repeat with_reducible refine And.intro (by first | omega | decide) ?_
    exact fin (by simp [go_sem, h]) rfl

/-! The document's. -/
def sumL (l : List (List UInt8)) : Nat := (l.map fun a => 1 + a.length).sum
theorem sumL_cons (a : List UInt8) (l : List (List UInt8)) : sumL (a :: l) = 1 + a.length + sumL l := by simp [sumL]
theorem sumL_split : ∀ (l : List UInt8) (acc : List (List UInt8)) (cur : List UInt8), sumL (splitA 46 l acc cur) = sumL acc + 1 + cur.length + l.length
  | [], acc, cur => by simp [splitA, sumL, Nat.add_assoc]
  | a :: l, acc, cur => by
    unfold splitA
    split
    · rw [sumL_split l]; simp [sumL]; omega
    · rw [sumL_split l]; simp; omega
theorem sumL_lab {s : List UInt8} (h : s ≠ []) : sumL (labF s) = s.length + 1 := by
  unfold labF
  rw [if_neg h, sumL_split]
  simp [sumL]; omega
theorem sumL_le {l : List (List UInt8)} {k : Nat} : sumL (l.drop k) ≤ sumL l := by
  induction l generalizing k with
  | nil => simp
  | cons a l ih =>
    cases k with
    | zero => exact Nat.le_refl _
    | succ k => rw [List.drop_succ_cons, sumL_cons]; have := @ih k; omega

theorem c_abatisref08_size (l : List (List UInt8)) (hl : sumL l < 2000000) (hn : l.length < 1100002) (x : PV) (hx : (x = .nils ∧ l = []) ∨ x = .sl 1 (strs l)) : PCall Try.prog 61 [x] (.int .i64 (1 + sumL l : Nat)) := by
  intro H
  refine scall_of (ord := fun _ => []) (rs := [2]) Try.func61 rfl (by kernel_rfl) (by kernel_rfl) (by kernel_rfl) Try.ntmps61 fun hb hargs => go 200 (fun _ => false) mixed ?_
  rcases hx with ⟨rfl, rfl⟩ | rfl
  · simp (disch := omega) only [↓reduceIte, go_sem] <;> repeat with_reducible refine And.intro (by first | omega | decide) ?_
    refine runs_loopA (fun k : Nat => k = 0) (fun k => 0) [true, false, false, true, true]
      (fun k => slots 20 [.nils, .any, .any, .int .i64 1, .int .i64 0]) (fun k => H) (by rfl) 0 rfl rfl rfl ?_
    rintro k rfl
    refine go 200 (fun _ => false) mixed ?_
    simp (disch := omega) only [↓reduceIte, go_sem] <;> repeat with_reducible refine And.intro (by first | omega | decide) ?_
    refine go 200 (fun _ => false) mixed ?_
    simp (disch := omega) only [↓reduceIte, go_sem] <;> repeat with_reducible refine And.intro (by first | omega | decide) ?_
    exact fin rfl rfl
  · simp (disch := omega) only [↓reduceIte, go_sem] <;> repeat with_reducible refine And.intro (by first | omega | decide) ?_
    refine runs_loopA (fun x : Nat × Nat => x.1 ≤ l.length ∧ x.2 + sumL (l.drop x.1) = 1 + sumL l) (fun x => l.length - x.1) [true, false, false, true, true]
      (fun x => slots 20 [.sl 1 (strs l), .any, .any, .int .i64 x.2, .int .i64 x.1]) (fun k => H) (by rfl) (0, 1) ⟨Nat.zero_le _, rfl⟩ rfl rfl ?_
    rintro ⟨k, n⟩ ⟨hk, hall⟩
    have hk : k ≤ l.length := hk
    have hall : n + sumL (l.drop k) = 1 + sumL l := hall
    refine go 200 (fun _ => false) mixed ?_
    by_cases hlt : k < l.length
    · rw [List.drop_eq_getElem_cons hlt, ← getDL_of hlt, sumL_cons] at hall
      have hget := strs_getD hlt
      simp (disch := omega) only [↓reduceIte, go_sem, hlt, hget] <;> repeat with_reducible refine And.intro (by first | omega | decide) ?_
      exact rnd_next (k + 1, n + 1 + (l.getD k []).length) ⟨by omega, by simp only; omega⟩ (by show l.length - (k + 1) < l.length - k; omega) rfl rfl
    · rw [List.drop_eq_nil_of_le (by omega), show sumL [] = 0 from rfl, Nat.add_zero] at hall
      subst hall
      simp (disch := omega) only [↓reduceIte, go_sem, hlt] <;> repeat with_reducible refine And.intro (by first | omega | decide) ?_
      refine go 200 (fun _ => false) mixed ?_
      simp (disch := omega) only [↓reduceIte, go_sem] <;> repeat with_reducible refine And.intro (by first | omega | decide) ?_
      exact fin rfl rfl

def oddR (a : List UInt8) : Bool := decide (a.length < 1) || decide (63 < a.length)
theorem oddR_eq (a : List UInt8) : oddR a = oddL a := by
  unfold oddR oddL; cases a <;> simp
theorem mayN_size (s : List UInt8) : mayN s = (!((labF s).any oddL) && decide (1 + sumL (labF s) ≤ 255)) := by
  unfold mayN
  by_cases h : s = []
  · subst h; rfl
  · rw [sumL_lab h, Bool.and_comm]
    congr 1
    rw [decide_eq_decide]; omega

theorem c_abatisref08_May (s : List UInt8) (hl : s.length < 1100000) : PCall Try.prog 26 [.str (bs s)] (.bool (mayN s)) := by
  intro H
  have hlen := labF_len s
  have hsum : sumL (labF s) < 2000000 := by
    by_cases h : s = []
    · subst h; decide
    · rw [sumL_lab h]; omega
  have hsz := c_abatisref08_size (labF s) hsum (by omega) (labV s) (labV_or s)
  have hV := labV_or s
  have hL := c_abatisref08_Labels s hl
  rw [mayN_size]
  generalize labF s = l at *
  generalize labV s = x at *
  refine scall_of (ord := fun _ => []) (rs := [2]) Try.func26 rfl (by kernel_rfl) (by kernel_rfl) (by kernel_rfl) Try.ntmps26 fun hb hargs => go 200 (fun _ => false) mixed ?_
  simp (disch := omega) only [↓reduceIte, go_sem] <;> repeat with_reducible refine And.intro (by first | omega | decide) ?_
  refine hL.on (go 200 (fun _ => false) mixed ?_)
  rcases hV with ⟨rfl, rfl⟩ | rfl
  · simp (disch := omega) only [↓reduceIte, go_sem] <;> repeat with_reducible refine And.intro (by first | omega | decide) ?_
    refine runs_loopA (fun k : Nat => k = 0) (fun k => 0) [true, false, false, true, true]
      (fun k => slots 30 [.str (bs s), .any, .any, .nils, .int .i64 0]) (fun k => H) (by rfl) 0 rfl rfl rfl ?_
    rintro k rfl
    refine go 200 (fun _ => false) mixed ?_
    simp (disch := omega) only [↓reduceIte, go_sem] <;> repeat with_reducible refine And.intro (by first | omega | decide) ?_
    refine go 200 (fun _ => false) mixed ?_
    simp (disch := omega) only [↓reduceIte, go_sem] <;> repeat with_reducible refine And.intro (by first | omega | decide) ?_
    refine hsz.on (go 200 (fun _ => false) mixed ?_)
    simp (disch := omega) only [↓reduceIte, go_sem] <;> repeat with_reducible refine And.intro (by first | omega | decide) ?_
    exact fin rfl rfl
  · simp (disch := omega) only [↓reduceIte, go_sem] <;> repeat with_reducible refine And.intro (by first | omega | decide) ?_
    refine runs_loopA (fun k : Nat => k ≤ l.length ∧ l.any oddL = (l.drop k).any oddL) (fun k => l.length - k) [true, false, false, true, true]
      (fun k => slots 30 [.str (bs s), .any, .any, .sl 1 (strs l), .int .i64 k]) (fun k => H) (by rfl) 0 ⟨Nat.zero_le _, rfl⟩ rfl rfl ?_
    rintro k ⟨hk, hall⟩
    refine go 200 (fun _ => false) mixed ?_
    by_cases hlt : k < l.length
    · rw [List.drop_eq_getElem_cons hlt, ← getDL_of hlt, List.any_cons, ← oddR_eq] at hall
      have hget := strs_getD hlt
      have hd : oddR (l.getD k []) = (decide ((l.getD k []).length < 1) || decide (63 < (l.getD k []).length)) := rfl
      by_cases h1 : (l.getD k []).length < 1
      · rw [hd, decide_eq_true h1, Bool.true_or, Bool.true_or] at hall
        simp (disch := omega) only [↓reduceIte, go_sem, hlt, hget, h1] <;> repeat with_reducible refine And.intro (by first | omega | decide) ?_
        exact fin (by rw [hall]; rfl) rfl
      · by_cases h2 : 63 < (l.getD k []).length
        · rw [hd, decide_eq_true h2, Bool.or_true, Bool.true_or] at hall
          simp (disch := omega) only [↓reduceIte, go_sem, hlt, hget, h1, h2] <;> repeat with_reducible refine And.intro (by first | omega | decide) ?_
          exact fin (by rw [hall]; rfl) rfl
        · rw [hd, decide_eq_false h1, decide_eq_false h2, Bool.or_self, Bool.false_or] at hall
          simp (disch := omega) only [↓reduceIte, go_sem, hlt, hget, h1, h2] <;> repeat with_reducible refine And.intro (by first | omega | decide) ?_
          exact rnd_next (k + 1) ⟨by omega, hall⟩ (by show l.length - (k + 1) < l.length - k; omega) rfl rfl
    · rw [List.drop_eq_nil_of_le (by omega), List.any_nil] at hall
      rw [hall]
      simp (disch := omega) only [↓reduceIte, go_sem, hlt] <;> repeat with_reducible refine And.intro (by first | omega | decide) ?_
      refine go 200 (fun _ => false) mixed ?_
      simp (disch := omega) only [↓reduceIte, go_sem] <;> repeat with_reducible refine And.intro (by first | omega | decide) ?_
      refine hsz.on (go 200 (fun _ => false) mixed ?_)
      by_cases h3 : 1 + sumL l ≤ 255
      · rw [decide_eq_true h3]
        simp (disch := omega) only [↓reduceIte, go_sem, h3] <;> repeat with_reducible refine And.intro (by first | omega | decide) ?_
        exact fin rfl rfl
      · rw [decide_eq_false h3]
        simp (disch := omega) only [↓reduceIte, go_sem, h3] <;> repeat with_reducible refine And.intro (by first | omega | decide) ?_
        exact fin rfl rfl
end Go.Proofs.GoC
