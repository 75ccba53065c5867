/-
  What the functions compute: names' bytes, names that may be, texts and bytes that are the same. No claim by itself.
-/
import Derived.Test.YtmgemdgbffmnjaaGoName1
import Derived.Test.YtmgemdgbffmnjaaGoAround
namespace Go.Proofs.GoC
open Go Go.Proofs.SL
set_option linter.unusedSimpArgs false
set_option linter.unusedVariables false
set_option maxRecDepth 10000
set_option maxHeartbeats 4000000

/-! Bytes as slices. -/
theorem bys_cells {l : List UInt8} : ∀ x ∈ bys l, x.cells.length = 1 := by
  intro x hx
  obtain ⟨b, _, rfl⟩ := List.mem_map.mp hx
  rfl
theorem bys_bdd {l : List UInt8} {n : Nat} : ∀ x ∈ bys l, Bdd n x := by
  intro x hx
  obtain ⟨b, _, rfl⟩ := List.mem_map.mp hx
  exact .int _ _
theorem bys_drop {l : List UInt8} {n : Nat} : (bys l).drop n = bys (l.drop n) := by simp [bys, List.map_drop]
theorem bys_snoc (A : List UInt8) (n : Nat) : bys A ++ [PV.int .u8 ((n % 256 : Nat) : Int)] = bys (A ++ [UInt8.ofNat n]) := by simp [bys]
theorem bys_snoc0 (A : List UInt8) : bys A ++ [PV.int .u8 0] = bys (A ++ [0]) := by simp [bys]
theorem sub_bys (l : List UInt8) : subCells (bys l) 0 (l.length * 1) = bys l := by
  unfold subCells
  rw [List.drop_zero, Nat.mul_one, ← bys_len (l := l), List.take_length]
theorem sub_strs (l : List (List UInt8)) : subCells (strs l) 0 (l.length * 1) = strs l := by
  unfold subCells
  rw [List.drop_zero, Nat.mul_one, ← strs_len (l := l), List.take_length]

theorem c_abatisref08_SameBytes (a b : List UInt8) : PCall Try.prog 24 [.sl 1 (bys a), .sl 1 (bys b)] (.bool (decide (a = b))) := by
  intro H
  refine scall_of (ord := fun _ => []) (rs := [4]) Try.func24 rfl (by kernel_rfl) (by kernel_rfl) (by kernel_rfl) Try.ntmps24 fun hb hargs => go 200 (fun _ => false) mixed ?_
  simp (disch := omega) only [↓reduceIte, go_sem, bys_u8, bys_of] <;> repeat with_reducible refine And.intro (by first | omega | decide) ?_
  exact fin rfl rfl

/-! A name's bytes. -/
def lab1 (a : List UInt8) : List UInt8 := UInt8.ofNat a.length :: a
def bytesN (l : List (List UInt8)) : List UInt8 := l.flatMap lab1 ++ [0]
theorem labs_len (l : List (List UInt8)) : (l.flatMap lab1).length = sumL l := by
  induction l with
  | nil => rfl
  | cons a l ih => rw [List.flatMap_cons, List.length_append, ih, sumL_cons]; simp [lab1]; omega
theorem bytesN_len (l : List (List UInt8)) : (bytesN l).length = sumL l + 1 := by unfold bytesN; rw [List.length_append, labs_len]; rfl
theorem sumL_lab_le (s : List UInt8) : sumL (labF s) ≤ s.length + 1 := by
  by_cases h : s = []
  · subst h; decide
  · rw [sumL_lab h]; omega
theorem labs_take (l : List (List UInt8)) {k : Nat} (h : k < l.length) : (l.take (k + 1)).flatMap lab1 = (l.take k).flatMap lab1 ++ ([UInt8.ofNat (l.getD k []).length] ++ l.getD k []) := by
  rw [take_snoc (d := []) h, List.flatMap_append]; simp [lab1]
theorem sumL_app (a b : List (List UInt8)) : sumL (a ++ b) = sumL a + sumL b := by simp [sumL]
theorem labs_take_len (l : List (List UInt8)) (k : Nat) : ((l.take k).flatMap lab1).length ≤ sumL l := by
  rw [labs_len]
  have := sumL_app (l.take k) (l.drop k)
  rw [List.take_append_drop] at this
  omega

theorem c_abatisref08_Bytes (s : List UInt8) (hl : s.length < 1100000) : PCall Try.prog 20 [.str (bs s)] (.sl 1 (bys (bytesN (labF s)))) := by
  intro H
  have hL := rlabels_sl s hl
  have hlen := labF_len s
  have hsum := sumL_lab_le s
  generalize labF s = l at *
  refine scall_of (ord := fun _ => []) (rs := [2]) Try.func20 rfl (by kernel_rfl) (by kernel_rfl) (by kernel_rfl) Try.ntmps20 fun hb hargs => go 200 (fun _ => false) mixed ?_
  simp (disch := omega) only [↓reduceIte, go_sem] <;> repeat with_reducible refine And.intro (by first | omega | decide) ?_
  refine hL.on (go 200 (fun _ => false) mixed ?_)
  simp (disch := omega) only [↓reduceIte, go_sem] <;> repeat with_reducible refine And.intro (by first | omega | decide) ?_
  refine Runs.ghost (by rfl) (Ghost.grow (t := 4) (m := 1) rfl) ?_
  refine runs_loopA (fun x : Nat × Nat => x.1 ≤ l.length) (fun x => l.length - x.1) [true, false, false, true, true, true]
    (fun x => slots 32 [.str (bs s), .any, .any, .sl 1 (strs l), .buf H.length x.2 0 ((l.take x.1).flatMap lab1).length 1 true, .int .i64 x.1])
    (fun x => H ++ [some (.cells x.2 (bys ((l.take x.1).flatMap lab1)))]) (by rfl) (0, 0) (Nat.zero_le _) rfl rfl ?_
  rintro ⟨k, ver⟩ hk
  have hk : k ≤ l.length := hk
  have hbl := labs_take_len l k
  refine go 200 (fun _ => false) mixed ?_
  by_cases hlt : k < l.length
  · have g := strs_getD hlt
    have e := labs_take l hlt
    have hbl2 := labs_take_len l (k + 1)
    rw [e] at hbl2
    simp only [List.length_append, List.length_cons, List.length_nil] at hbl2
    generalize (l.take k).flatMap lab1 = A at *
    generalize l.getD k [] = a at *
    simp (disch := omega) only [↓reduceIte, go_sem, hlt, g, mw_u8, bys_snoc, bys_app, most, List.length_append] <;> repeat with_reducible refine And.intro (by first | omega | decide) ?_
    exact rnd_next (k + 1, ver + 1 + 1) (by show k + 1 ≤ l.length; omega) (by show l.length - (k + 1) < l.length - k; omega) (by rw [e]; simp [slots, keepB]; omega) (by rw [e, List.append_assoc])
  · have hk2 : k = l.length := by omega
    subst hk2
    rw [List.take_length] at *
    have hB : bytesN l = l.flatMap lab1 ++ [0] := rfl
    have hBl := bytesN_len l
    rw [hB] at hBl ⊢
    generalize l.flatMap lab1 = A at *
    simp (disch := omega) only [↓reduceIte, go_sem, hlt] <;> repeat with_reducible refine And.intro (by first | omega | decide) ?_
    refine go 200 (fun _ => false) mixed ?_
    simp (disch := omega) only [↓reduceIte, go_sem, most, bys_snoc0] <;> repeat with_reducible refine And.intro (by first | omega | decide) ?_
    refine fin_freeze (i := H.length) (xs := bys (A ++ [0])) (.inr rfl) hb rfl (Nat.le_refl _) (by rw [get_tail0]; rfl) ?_ (by rw [bys_len, List.length_append]; rfl) bys_cells bys_bdd ⟨rfl, rfl⟩
    rw [flat_bys, show A.length + 1 = (A ++ [0]).length by simp, sub_bys]

/-! A name that may be, of any text. -/
def goodL : List (List UInt8) → List (List UInt8) → List (List UInt8)
  | [], out => out
  | a :: l, out => if out.length < 6 then goodL l (if a.take 12 = [] then out else out ++ [a.take 12]) else out
def goodN (s : List UInt8) : List UInt8 := joinL [46] (goodL (labF s) [])
theorem goodL_cons (a : List UInt8) (l out : List (List UInt8)) : goodL (a :: l) out = if out.length < 6 then goodL l (if a.take 12 = [] then out else out ++ [a.take 12]) else out := rfl
theorem goodL_len : ∀ (l out : List (List UInt8)), out.length ≤ 6 → (∀ a ∈ out, a.length ≤ 12) → (goodL l out).length ≤ 6 ∧ ∀ a ∈ goodL l out, a.length ≤ 12
  | [], out, h1, h2 => ⟨h1, h2⟩
  | a :: l, out, h1, h2 => by
    unfold goodL
    split
    · split
      · exact goodL_len l out h1 h2
      · refine goodL_len l _ (by simp; omega) fun b hb => ?_
        rcases List.mem_append.mp hb with h | h
        · exact h2 b h
        · simp only [List.mem_singleton] at h; subst h; rw [List.length_take]; omega
    · exact ⟨h1, h2⟩

theorem c_abatisref08_Good (s : List UInt8) (hl : s.length < 1100000) : PCall Try.prog 16 [.str (bs s)] (.str (bs (goodN s))) := by
  intro H
  have hL := rlabels_sl s hl
  have hlen := labF_len s
  unfold goodN
  generalize labF s = l at *
  refine scall_of (ord := fun _ => []) (rs := [2]) Try.func16 rfl (by kernel_rfl) (by kernel_rfl) (by kernel_rfl) Try.ntmps16 fun hb hargs => go 200 (fun _ => false) mixed ?_
  simp (disch := omega) only [↓reduceIte, go_sem] <;> repeat with_reducible refine And.intro (by first | omega | decide) ?_
  refine hL.on (go 200 (fun _ => false) mixed ?_)
  simp (disch := omega) only [↓reduceIte, go_sem] <;> repeat with_reducible refine And.intro (by first | omega | decide) ?_
  refine Runs.ghost (by rfl) (Ghost.grow (t := 4) (m := 1) rfl) ?_
  refine runs_loopA (fun x : Nat × Nat × List (List UInt8) => x.1 ≤ l.length ∧ x.2.2.length ≤ 6 ∧ goodL l [] = goodL (l.drop x.1) x.2.2) (fun x => l.length - x.1) [true, false, false, true, true, true]
    (fun x => slots 33 [.str (bs s), .any, .any, .sl 1 (strs l), .buf H.length x.2.1 0 x.2.2.length 1 true, .int .i64 x.1])
    (fun x => H ++ [some (.cells x.2.1 (strs x.2.2))]) (by rfl) (0, 0, []) ⟨Nat.zero_le _, by simp, rfl⟩ rfl rfl ?_
  rintro ⟨k, ver, out⟩ ⟨hk, ho, hall⟩
  have hk : k ≤ l.length := hk
  have ho : out.length ≤ 6 := ho
  have hall : goodL l [] = goodL (l.drop k) out := hall
  have fin2 : ∀ its, its = 0 → goodL l [] = out → Runs Try.prog (tdOf Try.prog) (fun _ => []) H [] [] H (fun _ _ _ => True) → True := fun _ _ _ _ => trivial
  clear fin2
  refine go 200 (fun _ => false) mixed ?_
  have key : goodL l [] = out → SL.SCall Try.prog 48 [.buf H.length ver 0 out.length 1 true, .str (bs [46])] (H ++ [some (.cells ver (strs out))]) fun r' H' => r' = .str (bs (joinL [46] (goodL l []))) ∧ H' = H ++ [some (.cells ver (strs out))] := fun h => by
    rw [h]
    obtain ⟨h6, h12⟩ := goodL_len l [] (by simp) (by simp)
    rw [h] at h6 h12
    have := joinL_len [46] 12 out h12
    have h13 : out.length * (12 + [(46 : UInt8)].length) ≤ 6 * 13 := Nat.mul_le_mul h6 (Nat.le_refl _)
    exact c_abatisref01_Join out [46] H.length ver true out (by rw [get_tail0]; rfl) (Nat.le_refl _) (fun _ _ => rfl) (by omega) (by omega)
  by_cases hlt : k < l.length
  · rw [List.drop_eq_getElem_cons hlt, ← getDL_of hlt, goodL_cons] at hall
    by_cases h6 : out.length < 6
    · rw [if_pos h6] at hall
      have g := strs_getD hlt
      generalize l.getD k [] = a at *
      simp (disch := omega) only [↓reduceIte, go_sem, hlt, h6, g] <;> repeat with_reducible refine And.intro (by first | omega | decide) ?_
      refine (c_abatisref01_Few a 12).on (go 200 (fun _ => false) mixed ?_)
      by_cases he : a.take 12 = []
      · rw [if_pos he] at hall
        simp (disch := omega) only [↓reduceIte, go_sem, he] <;> repeat with_reducible refine And.intro (by first | omega | decide) ?_
        exact rnd_next (k + 1, ver, out) ⟨by show k + 1 ≤ l.length; omega, ho, hall⟩ (by show l.length - (k + 1) < l.length - k; omega) rfl rfl
      · rw [if_neg he] at hall
        have es : strs out ++ [PV.str (bs (a.take 12))] = strs (out ++ [a.take 12]) := by simp [strs]
        simp (disch := omega) only [↓reduceIte, go_sem, he, most, es] <;> repeat with_reducible refine And.intro (by first | omega | decide) ?_
        exact rnd_next (k + 1, ver + 1, out ++ [a.take 12]) ⟨by show k + 1 ≤ l.length; omega, by show (out ++ _).length ≤ 6; rw [List.length_append]; simp; omega, hall⟩ (by show l.length - (k + 1) < l.length - k; omega) (by simp [slots, keepB]) rfl
    · rw [if_neg h6] at hall
      simp (disch := omega) only [↓reduceIte, go_sem, hlt, h6] <;> repeat with_reducible refine And.intro (by first | omega | decide) ?_
      refine go 200 (fun _ => false) mixed ?_
      simp (disch := omega) only [↓reduceIte, go_sem] <;> repeat with_reducible refine And.intro (by first | omega | decide) ?_
      refine (key hall).mono fun r' H' ⟨e1, e2⟩ => ?_
      subst e1 e2
      refine go 200 (fun _ => false) mixed ?_
      simp (disch := omega) only [↓reduceIte, go_sem] <;> repeat with_reducible refine And.intro (by first | omega | decide) ?_
      exact fin_drop (.inr rfl) hb rfl (by simp)
  · rw [List.drop_eq_nil_of_le (by omega), show goodL [] out = out from rfl] at hall
    simp (disch := omega) only [↓reduceIte, go_sem, hlt] <;> repeat with_reducible refine And.intro (by first | omega | decide) ?_
    refine go 200 (fun _ => false) mixed ?_
    simp (disch := omega) only [↓reduceIte, go_sem] <;> repeat with_reducible refine And.intro (by first | omega | decide) ?_
    refine (key hall).mono fun r' H' ⟨e1, e2⟩ => ?_
    subst e1 e2
    refine go 200 (fun _ => false) mixed ?_
    simp (disch := omega) only [↓reduceIte, go_sem] <;> repeat with_reducible refine And.intro (by first | omega | decide) ?_
    exact fin_drop (.inr rfl) hb rfl (by simp)
end Go.Proofs.GoC
