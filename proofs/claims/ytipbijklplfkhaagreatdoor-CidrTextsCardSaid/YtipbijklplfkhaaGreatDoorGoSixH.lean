/-
  The laws SixGaps, SixDots. No claim by itself.
-/
import Derived.Test.YtipbijklplfkhaaGreatDoorGoSixG
namespace Go.Proofs.GoC
open Go Go.Proofs.SL
set_option linter.unusedSimpArgs false
set_option linter.unusedVariables false
set_option maxRecDepth 10000
set_option maxHeartbeats 4000000

/-- Modulo, of any number. -/
def aroundF (n : Int) (m : Nat) : Nat := (if n < 0 then (-(n + 1)).toNat else n.toNat) % m
theorem aroundF_lt (n : Int) {m : Nat} (h : 0 < m) : aroundF n m < m := Nat.mod_lt _ h

theorem c_abatisref01_Around (n : Int) (h1 : -9223372036854775808 ≤ n) (h2 : n ≤ 9223372036854775807) (m : Nat) (hm : 0 < m) : PCall Tryz.prog 21 [.int .i64 n, .int .i64 m] (.int .i64 (aroundF n m : Nat)) := by
  intro H
  refine scall_of (ord := fun _ => []) (rs := [4]) Tryz.func21 rfl (by kernel_rfl) (by kernel_rfl) (by kernel_rfl) Tryz.ntmps21 fun hb hargs => go 200 (fun _ => false) mixed ?_
  have hm0 : ¬ (m : Int) = 0 := by omega
  by_cases h0 : n < 0
  · obtain ⟨k, hk⟩ : ∃ k : Nat, -(n + 1) = k := ⟨(-(n + 1)).toNat, by omega⟩
    have e0 : (0 : Int) - (n + 1) = k := by omega
    have e1 : aroundF n m = k % m := by unfold aroundF; rw [if_pos h0, hk]; rfl
    rw [e1]
    simp (disch := omega) only [↓reduceIte, go_sem, h0, e0, hm0] <;> repeat with_reducible refine And.intro (by first | omega | decide) ?_
    exact fin rfl rfl
  · obtain ⟨k, rfl⟩ : ∃ k : Nat, n = k := ⟨n.toNat, by omega⟩
    have e1 : aroundF k m = k % m := by unfold aroundF; rw [if_neg (by omega)]; rfl
    rw [e1]
    simp (disch := omega) only [↓reduceIte, go_sem, hm0] <;> repeat with_reducible refine And.intro (by first | omega | decide) ?_
    exact fin rfl rfl

/-- The groups, of which some are made 0. -/
def gapL (gs : List Nat) (a n : Nat) : List Nat := gs.take a ++ List.replicate n 0 ++ gs.drop (a + n)
theorem gapL_len {gs : List Nat} {a n : Nat} (hl : gs.length = 8) (h : a + n ≤ 8) : (gapL gs a n).length = 8 := by
  simp only [gapL, List.length_append, List.length_take, List.length_replicate, List.length_drop]; omega
theorem gapL_in {gs : List Nat} {a n k : Nat} (hl : gs.length = 8) (h : a + n ≤ 8) (h1 : a ≤ k) (h2 : k < a + n) : (gapL gs a n).getD k 0 = 0 := by
  unfold gapL
  rw [List.getD_eq_getElem?_getD, List.append_assoc, List.getElem?_append_right (by rw [List.length_take]; omega), List.getElem?_append_left (by rw [List.length_take, List.length_replicate]; omega), List.getElem?_replicate]
  split <;> rfl
theorem gapL_out {gs : List Nat} {a n k : Nat} (hl : gs.length = 8) (h : a + n ≤ 8) (h1 : ¬ (a ≤ k ∧ k < a + n)) : (gapL gs a n).getD k 0 = gs.getD k 0 := by
  unfold gapL
  rcases Nat.lt_or_ge k a with h2 | h2
  · rw [List.getD_eq_getElem?_getD, List.append_assoc, List.getElem?_append_left (by rw [List.length_take]; omega), List.getElem?_take, if_pos h2, List.getD_eq_getElem?_getD]
  · rw [List.getD_eq_getElem?_getD, List.getElem?_append_right (by rw [List.length_append, List.length_take, List.length_replicate]; omega), List.getElem?_drop, List.getD_eq_getElem?_getD, List.length_append, List.length_take, List.length_replicate]
    congr 2; omega

theorem mix_set {p q : List Nat} {k : Nat} (hp : p.length = 8) (hq : q.length = 8) (hk : k < 8) : (u16s (p.take k ++ q.drop k)).set k (.int .u16 (p.getD k 0 : Nat)) = u16s (p.take (k + 1) ++ q.drop (k + 1)) := by
  rw [take_snoc (d := 0) (show k < p.length by omega), List.drop_eq_getElem_cons (show k < q.length by omega)]
  simp only [u16s, List.map_append, List.map_cons]
  rw [List.set_append_right _ _ (by rw [List.length_map, List.length_take]; omega), List.length_map, List.length_take, show k - min k p.length = 0 by omega]
  simp
theorem mix_same {p q : List Nat} {k : Nat} (hp : p.length = 8) (hq : q.length = 8) (hk : k < 8) (h : p.getD k 0 = q.getD k 0) : p.take k ++ q.drop k = p.take (k + 1) ++ q.drop (k + 1) := by
  rw [take_snoc (d := 0) (show k < p.length by omega), List.drop_eq_getElem_cons (show k < q.length by omega), h]
  simp [List.getD_eq_getElem?_getD, show k < q.length by omega]
theorem mix_get {p q : List Nat} {k : Nat} (hp : p.length = 8) (hq : q.length = 8) (hk : k < 8) : (p.take k ++ q.drop k).getD k 0 = q.getD k 0 := by
  rw [List.getD_eq_getElem?_getD, List.getElem?_append_right (by rw [List.length_take]; omega), List.length_take, List.getElem?_drop, List.getD_eq_getElem?_getD]
  congr 2; omega
theorem mix_len {p q : List Nat} {k : Nat} (hp : p.length = 8) (hq : q.length = 8) (hk : k ≤ 8) : (p.take k ++ q.drop k).length = 8 := by
  rw [List.length_append, List.length_take, List.length_drop]; omega

theorem ones_le {x : Nat} (h : x ≤ 65535) : ∀ g ∈ [1, 1, 1, 1, 1, 1, 1, x], g ≤ 65535 := by
  intro g hg
  simp only [List.mem_cons, List.not_mem_nil, or_false] at hg
  omega
theorem ones_call {x : Nat} (h : x ≤ 65535) : PCall Tryz.prog 50 [.agg [.int .u16 1, .int .u16 1, .int .u16 1, .int .u16 1, .int .u16 1, .int .u16 1, .int .u16 1, .int .u16 x]] (.str (bs (ones ++ hexF x))) := by
  have := c_abatisref03_Print [1, 1, 1, 1, 1, 1, 1, x] rfl (ones_le h)
  rw [print_ones] at this
  exact this
theorem ones_len (x : Nat) : (ones ++ hexF x).length = 14 + (hexF x).length := by simp [ones]; omega
theorem ones_drop (x n : Nat) (h : n = 14 + (hexF x).length) : List.drop 14 (List.take n (ones ++ hexF x)) = hexF x := by
  rw [List.take_of_length_le (by rw [ones_len]; omega)]; rfl

theorem dotsS_len (gs : List Nat) (hle : ∀ g ∈ gs, g ≤ 65535) : (dotsS gs).length ≤ gs.length * 5 := by
  induction gs with
  | nil => simp [dotsS]
  | cons g gs ih =>
    have h1 := hexF_len g (hle g (by simp))
    have h2 := ih (fun x hx => hle x (List.mem_cons_of_mem _ hx))
    simp only [dotsS, List.map_cons, List.flatten_cons, List.length_append, List.length_cons, List.length_nil] at *
    omega
theorem dotsS_snoc (gs : List Nat) (x : Nat) : dotsS (gs ++ [x]) = dotsS gs ++ hexF x ++ [58] := by simp [dotsS]
theorem set67 {gs : List Nat} (hl : gs.length = 8) (a b : Nat) : ((u16s gs).set 6 (.int .u16 a)).set 7 (.int .u16 b) = u16s (gs.take 6 ++ [a, b]) := by
  obtain ⟨x0, x1, x2, x3, x4, x5, x6, x7, rfl⟩ := len8 hl
  rfl

end Go.Proofs.GoC
