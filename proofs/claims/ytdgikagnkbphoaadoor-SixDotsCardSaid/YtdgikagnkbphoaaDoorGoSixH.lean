/-
  The laws SixGaps, SixDots. No claim by itself.
-/
import Derived.Test.YtdgikagnkbphoaaDoorGoSixG
namespace Go.Proofs.GoC
open Go Go.Proofs.SL
set_option linter.unusedSimpArgs false
set_option linter.unusedVariables false
set_option maxRecDepth 10000
set_option maxHeartbeats 4000000

/-- Modulo, of any number. -/
def aroundF (n : Int) (m : Nat) : Nat := (if n < 0 then (-(n + 1)).toNat else n.toNat) % m
theorem aroundF_lt (n : Int) {m : Nat} (h : 0 < m) : aroundF n m < m := Nat.mod_lt _ h

theorem c_abatisref01_Around (n : Int) (h1 : -9223372036854775808 ≤ n) (h2 : n ≤ 9223372036854775807) (m : Nat) (hm : 0 < m) : PCall Tryd.prog 21 [.int .i64 n, .int .i64 m] (.int .i64 (aroundF n m : Nat)) := by
  intro H
  refine scall_of (ord := fun _ => []) (rs := [4]) Tryd.func21 rfl (by kernel_rfl) (by kernel_rfl) (by kernel_rfl) Tryd.ntmps21 fun hb hargs => go 200 (fun _ => false) mixed ?_
  have hm0 : ¬ (m : Int) = 0 := by omega
  by_cases h0 : n < 0
  · obtain ⟨k, hk⟩ : ∃ k : Nat, -(n + 1) = k := ⟨(-(n + 1)).toNat, by omega⟩
    have e0 : (0 : Int) - (n + 1) = k := by omega
    have e1 : aroundF n m = k % m := by unfold aroundF; rw [if_pos h0, hk]; rfl
    rw [e1]
    simp (disch := omega) only [↓reduceIte, go_sem, h0, e0, hm0] <;> repeat with_reducible refine And.intro (by first | omega | decide) ?_
    exact fin rfl rfl
  · obtain ⟨k, rfl⟩ : ∃ k : Nat, n = k := ⟨n.toNat, by omega⟩
    have e1 : aroundF k m = k % m := by unfold aroundF; rw [if_neg (by omega)]; rfl
    rw [e1]
    simp (disch := omega) only [↓reduceIte, go_sem, hm0] <;> repeat with_reducible refine And.intro (by first | omega | decide) ?_
    exact fin rfl rfl

/-- The groups, of which some are made 0. -/
def gapL (gs : List Nat) (a n : Nat) : List Nat := gs.take a ++ List.replicate n 0 ++ gs.drop (a + n)
theorem gapL_len {gs : List Nat} {a n : Nat} (hl : gs.length = 8) (h : a + n ≤ 8) : (gapL gs a n).length = 8 := by
  simp only [gapL, List.length_append, List.length_take, List.length_replicate, List.length_drop]; omega
theorem gapL_in {gs : List Nat} {a n k : Nat} (hl : gs.length = 8) (h : a + n ≤ 8) (h1 : a ≤ k) (h2 : k < a + n) : (gapL gs a n).getD k 0 = 0 := by
  unfold gapL
  rw [List.getD_eq_getElem?_getD, List.append_assoc, List.getElem?_append_right (by rw [List.length_take]; omega), List.getElem?_append_left (by rw [List.length_take, List.length_replicate]; omega), List.getElem?_replicate]
  split <;> rfl
theorem gapL_out {gs : List Nat} {a n k : Nat} (hl : gs.length = 8) (h : a + n ≤ 8) (h1 : ¬ (a ≤ k ∧ k < a + n)) : (gapL gs a n).getD k 0 = gs.getD k 0 := by
  unfold gapL
  rcases Nat.lt_or_ge k a with h2 | h2
  · rw [List.getD_eq_getElem?_getD, List.append_assoc, List.getElem?_append_left (by rw [List.length_take]; omega), List.getElem?_take, if_pos h2, List.getD_eq_getElem?_getD]
  · rw [List.getD_eq_getElem?_getD, List.getElem?_append_right (by rw [List.length_append, List.length_take, List.length_replicate]; omega), List.getElem?_drop, List.getD_eq_getElem?_getD, List.length_append, List.length_take, List.length_replicate]
    congr 2; omega

theorem mix_set {p q : List Nat} {k : Nat} (hp : p.length = 8) (hq : q.length = 8) (hk : k < 8) : (u16s (p.take k ++ q.drop k)).set k (.int .u16 (p.getD k 0 : Nat)) = u16s (p.take (k + 1) ++ q.drop (k + 1)) := by
  rw [take_snoc (d := 0) (show k < p.length by omega), List.drop_eq_getElem_cons (show k < q.length by omega)]
  simp only [u16s, List.map_append, List.map_cons]
  rw [List.set_append_right _ _ (by rw [List.length_map, List.length_take]; omega), List.length_map, List.length_take, show k - min k p.length = 0 by omega]
  simp
theorem mix_same {p q : List Nat} {k : Nat} (hp : p.length = 8) (hq : q.length = 8) (hk : k < 8) (h : p.getD k 0 = q.getD k 0) : p.take k ++ q.drop k = p.take (k + 1) ++ q.drop (k + 1) := by
  rw [take_snoc (d := 0) (show k < p.length by omega), List.drop_eq_getElem_cons (show k < q.length by omega), h]
  simp [List.getD_eq_getElem?_getD, show k < q.length by omega]
theorem mix_get {p q : List Nat} {k : Nat} (hp : p.length = 8) (hq : q.length = 8) (hk : k < 8) : (p.take k ++ q.drop k).getD k 0 = q.getD k 0 := by
  rw [List.getD_eq_getElem?_getD, List.getElem?_append_right (by rw [List.length_take]; omega), List.length_take, List.getElem?_drop, List.getD_eq_getElem?_getD]
  congr 2; omega
theorem mix_len {p q : List Nat} {k : Nat} (hp : p.length = 8) (hq : q.length = 8) (hk : k ≤ 8) : (p.take k ++ q.drop k).length = 8 := by
  rw [List.length_append, List.length_take, List.length_drop]; omega

theorem ones_le {x : Nat} (h : x ≤ 65535) : ∀ g ∈ [1, 1, 1, 1, 1, 1, 1, x], g ≤ 65535 := by
  intro g hg
  simp only [List.mem_cons, List.not_mem_nil, or_false] at hg
  omega
theorem ones_call {x : Nat} (h : x ≤ 65535) : PCall Tryd.prog 19 [.agg [.int .u16 1, .int .u16 1, .int .u16 1, .int .u16 1, .int .u16 1, .int .u16 1, .int .u16 1, .int .u16 x]] (.str (bs (ones ++ hexF x))) := by
  have := c_abatisref03_Print [1, 1, 1, 1, 1, 1, 1, x] rfl (ones_le h)
  rw [print_ones] at this
  exact this
theorem ones_len (x : Nat) : (ones ++ hexF x).length = 14 + (hexF x).length := by simp [ones]; omega
theorem ones_drop (x n : Nat) (h : n = 14 + (hexF x).length) : List.drop 14 (List.take n (ones ++ hexF x)) = hexF x := by
  rw [List.take_of_length_le (by rw [ones_len]; omega)]; rfl

theorem c_abatislaw03_SixGaps (gs : List Nat) (hl : gs.length = 8) (hle : ∀ g ∈ gs, g ≤ 65535) (at0 : Int) (p1 : -9223372036854775808 ≤ at0) (p2 : at0 ≤ 9223372036854775807) (n0 : Int) (q1 : -9223372036854775808 ≤ n0) (q2 : n0 ≤ 9223372036854775807) :
    GCall 8 [.agg (u16s gs), .int .i64 at0, .int .i64 n0] (.bool true) := by
  intro H hG
  have t8 : List.take 8 (u16s gs) = u16s gs := List.take_of_length_le (by rw [u16s_len]; omega)
  have hA := aroundF_lt at0 (m := 8) (by omega)
  refine scall_of (ord := fun _ => []) (rs := [6]) Tryd.func8 rfl (by kernel_rfl) (by kernel_rfl) (by kernel_rfl) Tryd.ntmps8 fun hb hargs => go 200 (fun _ => false) mixed ?_
  simp (disch := omega) only [↓reduceIte, go_sem, hl, t8] <;> repeat with_reducible refine And.intro (by first | omega | decide) ?_
  refine (c_abatisref01_Around at0 p1 p2 8 (by omega)).on (go 200 (fun _ => false) mixed ?_)
  generalize aroundF at0 8 = A at *
  simp (disch := omega) only [↓reduceIte, go_sem] <;> repeat with_reducible refine And.intro (by first | omega | decide) ?_
  have hN := aroundF_lt n0 (m := 8 - A) (by omega)
  refine (c_abatisref01_Around n0 q1 q2 (8 - A) (by omega)).on (go 200 (fun _ => false) mixed ?_)
  generalize aroundF n0 (8 - A) = N0 at *
  simp (disch := omega) only [↓reduceIte, go_sem] <;> repeat with_reducible refine And.intro (by first | omega | decide) ?_
  obtain ⟨N, hNe⟩ : ∃ N, N = 1 + N0 := ⟨_, rfl⟩
  rw [← hNe]
  have hAN : A + N ≤ 8 := by omega
  have zl := gapL_len hl hAN
  refine Runs.ghost (by rfl) (Ghost.grow (t := 7) (m := 1) rfl) ?_
  refine Runs.ghost (by rfl) (Ghost.grow (t := 8) (m := 1) rfl) ?_
  refine runs_loopA (fun x : Nat × Nat × Nat => x.1 ≤ 8) (fun x => 8 - x.1) [false, true, true, true, false, false, true, true, true, true]
    (fun x => slots 98 [.any, .int .i64 A, .int .i64 N, .ptr H.length 0 0, .any, .any, .bool false, .buf (H.length + 1) x.2.1 0 (min x.1 A) 1 true, .buf (H.length + 2) x.2.2 0 (x.1 - (A + N)) 1 true, .int .i64 x.1])
    (fun x => H ++ [some (.cells 0 (u16s ((gapL gs A N).take x.1 ++ gs.drop x.1))), some (.cells x.2.1 (strs ((gs.take (min x.1 A)).map hexF))), some (.cells x.2.2 (strs (((gs.take x.1).drop (A + N)).map hexF)))]) (by rfl) (0, 0, 0) (Nat.zero_le _) (by simp only [List.length_append, List.length_cons, List.length_nil, Nat.zero_add, Nat.zero_min, Nat.zero_sub]; rfl) (by simp only [app_app, Nat.zero_min, List.take_zero, List.drop_zero, List.nil_append, List.drop_nil]; rfl) ?_
  rintro ⟨k, va, vb⟩ hk
  dsimp only at hk
  have ml := mix_len (k := k) zl hl hk
  refine go 200 (fun _ => false) mixed ?_
  by_cases hlt : k < 8
  · have mg := mix_get (k := k) zl hl hlt
    have g := u16s_get (ns := (gapL gs A N).take k ++ gs.drop k) (k := k) (by omega)
    rw [mg] at g
    have gl := mem_get hle k
    by_cases hkA : k < A
    · have mA : min k A = k := by omega
      have mA' : min (k + 1) A = k + 1 := by omega
      have e0 : k - (A + N) = 0 := by omega
      have e0' : k + 1 - (A + N) = 0 := by omega
      have d0 : (gs.take k).drop (A + N) = [] := List.drop_eq_nil_of_le (by rw [List.length_take]; omega)
      have d0' : (gs.take (k + 1)).drop (A + N) = [] := List.drop_eq_nil_of_le (by rw [List.length_take]; omega)
      have hms := mix_same (k := k) zl hl hlt (gapL_out hl hAN (by omega))
      have hsn := take_snoc (d := 0) (show k < gs.length by omega)
      generalize gs.getD k 0 = x at *
      have ol := ones_drop x (14 + (hexF x).length) rfl
      have htl : (gs.take k).length = k := by rw [List.length_take]; omega
      simp (disch := omega) only [↓reduceIte, go_sem, hlt, hkA, ml, g] <;> repeat with_reducible refine And.intro (by first | omega | decide) ?_
      refine (ones_call gl).on (go 200 (fun _ => false) mixed ?_)
      simp (disch := omega) only [↓reduceIte, go_sem, ones_len, ol, strs_len, List.length_map, htl, mA] <;> repeat with_reducible refine And.intro (by first | omega | decide) ?_
      refine ⟨by unfold most; omega, ?_⟩
      refine rnd_next (k + 1, va + 1, vb) (by show k + 1 ≤ 8; omega) (by show 8 - (k + 1) < 8 - k; omega) ?_ ?_
      · dsimp only
        rw [mA', e0', e0]; rfl
      · dsimp only
        rw [mA', ← hms, d0, d0', hsn]
        simp [strs]
    · by_cases hkN : k < A + N
      · have mA : min k A = A := by omega
        have mA' : min (k + 1) A = A := by omega
        have e0 : k - (A + N) = 0 := by omega
        have e0' : k + 1 - (A + N) = 0 := by omega
        have d0 : (gs.take k).drop (A + N) = [] := List.drop_eq_nil_of_le (by rw [List.length_take]; omega)
        have d0' : (gs.take (k + 1)).drop (A + N) = [] := List.drop_eq_nil_of_le (by rw [List.length_take]; omega)
        have hms := mix_set (k := k) zl hl hlt
        rw [gapL_in hl hAN (by omega) hkN] at hms
        simp only [Int.natCast_zero, go_sem] at hms
        simp (disch := omega) only [↓reduceIte, go_sem, hlt, hkA, hkN, ml, g, hms] <;> repeat with_reducible refine And.intro (by first | omega | decide) ?_
        refine rnd_next (k + 1, va, vb) (by show k + 1 ≤ 8; omega) (by show 8 - (k + 1) < 8 - k; omega) ?_ ?_
        · dsimp only
          rw [mA', e0', mA, e0]; rfl
        · dsimp only
          rw [mA', d0, d0', mA]
      · have mA : min k A = A := by omega
        have mA' : min (k + 1) A = A := by omega
        have e0' : k + 1 - (A + N) = k - (A + N) + 1 := by omega
        have hms := mix_same (k := k) zl hl hlt (gapL_out hl hAN (by omega))
        have hsn := take_snoc (d := 0) (show k < gs.length by omega)
        have hdl : ((gs.take k).drop (A + N)).length = k - (A + N) := by rw [List.length_drop, List.length_take]; omega
        have htk : A + N ≤ (gs.take k).length := by rw [List.length_take]; omega
        generalize gs.getD k 0 = x at *
        have ol := ones_drop x (14 + (hexF x).length) rfl
        simp (disch := omega) only [↓reduceIte, go_sem, hlt, hkA, hkN, ml, g] <;> repeat with_reducible refine And.intro (by first | omega | decide) ?_
        refine (ones_call gl).on (go 200 (fun _ => false) mixed ?_)
        simp (disch := omega) only [↓reduceIte, go_sem, ones_len, ol, strs_len, List.length_map, hdl] <;> repeat with_reducible refine And.intro (by first | omega | decide) ?_
        refine ⟨by unfold most; omega, ?_⟩
        refine rnd_next (k + 1, va, vb + 1) (by show k + 1 ≤ 8; omega) (by show 8 - (k + 1) < 8 - k; omega) ?_ ?_
        · dsimp only
          rw [mA', e0', mA]; rfl
        · dsimp only
          rw [mA', ← hms, mA, hsn, List.drop_append_of_le_length htk]
          simp [strs]
  · have hk8 : k = 8 := by omega
    subst hk8
    have m8 : min 8 A = A := by omega
    have t8a : (gapL gs A N).take 8 = gapL gs A N := List.take_of_length_le (by omega)
    have t8b : gs.drop 8 = [] := List.drop_eq_nil_of_le (by omega)
    have t8c : gs.take 8 = gs := List.take_of_length_le (by omega)
    have t8z : List.take 8 (u16s (gapL gs A N)) = u16s (gapL gs A N) := List.take_of_length_le (by rw [u16s_len]; omega)
    have tg := u16s_tag zl
    rw [m8, t8a, t8b, t8c, List.append_nil]
    have la : (gs.take A).length = A := by rw [List.length_take]; omega
    have lb : (gs.drop (A + N)).length = 8 - (A + N) := by rw [List.length_drop]; omega
    have hlea : ∀ g ∈ gs.take A, g ≤ 65535 := fun g hg => hle g (List.mem_of_mem_take hg)
    have hleb : ∀ g ∈ gs.drop (A + N), g ≤ 65535 := fun g hg => hle g (List.mem_of_mem_drop hg)
    have ra := rowF_len _ hlea
    have rb := rowF_len _ hleb
    simp (disch := omega) only [↓reduceIte, go_sem, hlt] <;> repeat with_reducible refine And.intro (by first | omega | decide) ?_
    refine go 200 (fun _ => false) mixed ?_
    simp (disch := omega) only [↓reduceIte, go_sem] <;> repeat with_reducible refine And.intro (by first | omega | decide) ?_
    have hja := c_abatisref01_Join (H := H ++ [some (.cells 0 (u16s (gapL gs A N))), some (.cells va (strs ((gs.take A).map hexF))), some (.cells vb (strs ((gs.drop (A + N)).map hexF)))]) ((gs.take A).map hexF) [58] (H.length + 1) va true ((gs.take A).map hexF) (by rw [get_tail]; rfl) (Nat.le_refl _) (fun k _ => rfl) (by show (rowF (gs.take A)).length ≤ _; omega) (by rw [List.length_map]; omega)
    rw [List.length_map, la] at hja
    refine hja.mono ?_
    rintro r' H' ⟨rfl, rfl⟩
    rw [show joinL [58] ((gs.take A).map hexF) = rowF (gs.take A) from rfl]
    refine go 200 (fun _ => false) mixed ?_
    simp (disch := omega) only [↓reduceIte, go_sem, List.length_append, List.length_cons, List.length_nil] <;> repeat with_reducible refine And.intro (by first | omega | decide) ?_
    have hjb := c_abatisref01_Join (H := H ++ [some (.cells 0 (u16s (gapL gs A N))), some (.cells va (strs ((gs.take A).map hexF))), some (.cells vb (strs ((gs.drop (A + N)).map hexF)))]) ((gs.drop (A + N)).map hexF) [58] (H.length + 2) vb true ((gs.drop (A + N)).map hexF) (by rw [get_tail]; rfl) (Nat.le_refl _) (fun k _ => rfl) (by show (rowF (gs.drop (A + N))).length ≤ _; omega) (by rw [List.length_map]; omega)
    rw [List.length_map, lb] at hjb
    refine hjb.mono ?_
    rintro r' H' ⟨rfl, rfl⟩
    rw [show joinL [58] ((gs.drop (A + N)).map hexF) = rowF (gs.drop (A + N)) from rfl]
    refine go 200 (fun _ => false) mixed ?_
    simp (disch := omega) only [↓reduceIte, go_sem, List.length_append, List.length_cons, List.length_nil] <;> repeat with_reducible refine And.intro (by first | omega | decide) ?_
    refine (c_six_Parse (rowF (gs.take A) ++ [58, 58] ++ rowF (gs.drop (A + N))) (by simp only [List.length_append, List.length_cons, List.length_nil]; omega)).on hG.app (go 200 (fun _ => false) mixed ?_)
    rw [gap_ok _ _ (by omega) hlea hleb, la, lb, show 8 - (A + (8 - (A + N))) = N by omega, show gs.take A ++ List.replicate N 0 ++ gs.drop (A + N) = gapL gs A N from rfl, parseV_some]
    simp (disch := omega) only [↓reduceIte, go_sem, zl, t8z, List.length_append, List.length_cons, List.length_nil] <;> repeat with_reducible refine And.intro (by first | omega | decide) ?_
    refine (c_six_Parse (rowF (gs.take A) ++ [58, 58] ++ rowF (gs.drop (A + N)) ++ [58, 58]) (by simp only [List.length_append, List.length_cons, List.length_nil]; omega)).on hG.app (go 200 (fun _ => false) mixed ?_)
    rw [gap_twice, parseV_none]
    simp (disch := omega) only [↓reduceIte, go_sem, zl, t8z, List.length_append, List.length_cons, List.length_nil] <;> repeat with_reducible refine And.intro (by first | omega | decide) ?_
    refine (c_six_Parse (58 :: (rowF (gs.take A) ++ [58, 58] ++ rowF (gs.drop (A + N)))) (by simp only [List.length_append, List.length_cons, List.length_nil]; omega)).on hG.app (go 200 (fun _ => false) mixed ?_)
    rw [gap_three, parseV_none]
    simp (disch := omega) only [↓reduceIte, go_sem, zl, t8z, tg] <;> repeat with_reducible refine And.intro (by first | omega | decide) ?_
    refine c_abatislaw03_lives.on hG.app (go 200 (fun _ => false) mixed ?_)
    simp (disch := omega) only [↓reduceIte, go_sem] <;> repeat with_reducible refine And.intro (by first | omega | decide) ?_
    exact fin_drop (.inr rfl) hb rfl (by simp)

theorem dotsS_len (gs : List Nat) (hle : ∀ g ∈ gs, g ≤ 65535) : (dotsS gs).length ≤ gs.length * 5 := by
  induction gs with
  | nil => simp [dotsS]
  | cons g gs ih =>
    have h1 := hexF_len g (hle g (by simp))
    have h2 := ih (fun x hx => hle x (List.mem_cons_of_mem _ hx))
    simp only [dotsS, List.map_cons, List.flatten_cons, List.length_append, List.length_cons, List.length_nil] at *
    omega
theorem dotsS_snoc (gs : List Nat) (x : Nat) : dotsS (gs ++ [x]) = dotsS gs ++ hexF x ++ [58] := by simp [dotsS]
theorem set67 {gs : List Nat} (hl : gs.length = 8) (a b : Nat) : ((u16s gs).set 6 (.int .u16 a)).set 7 (.int .u16 b) = u16s (gs.take 6 ++ [a, b]) := by
  obtain ⟨x0, x1, x2, x3, x4, x5, x6, x7, rfl⟩ := len8 hl
  rfl

theorem c_abatislaw03_SixDots (gs : List Nat) (hl : gs.length = 8) (hle : ∀ g ∈ gs, g ≤ 65535) (n : Nat) (hn : n ≤ 4294967295) : GCall 9 [.agg (u16s gs), .int .u32 n] (.bool true) := by
  intro H hG
  have t8 : List.take 8 (u16s gs) = u16s gs := List.take_of_length_le (by rw [u16s_len]; omega)
  have hle6 : ∀ g ∈ gs.take 6, g ≤ 65535 := fun g hg => hle g (List.mem_of_mem_take hg)
  have l6 : (gs.take 6).length = 6 := by rw [List.length_take]; omega
  obtain ⟨i3, i2, i1, i0⟩ := by_in n hn
  refine scall_of (ord := fun _ => []) (rs := [4]) Tryd.func9 rfl (by kernel_rfl) (by kernel_rfl) (by kernel_rfl) Tryd.ntmps9 fun hb hargs => go 200 (fun _ => false) mixed ?_
  simp (disch := omega) only [↓reduceIte, go_sem, hl, t8] <;> repeat with_reducible refine And.intro (by first | omega | decide) ?_
  refine runs_loopA (fun k : Nat => k ≤ 6) (fun k => 6 - k) [false, true, true, false, true, true, true]
    (fun k => slots 102 [.any, .int .u32 n, .ptr H.length 0 0, .any, .bool false, .str (bs (dotsS (gs.take k))), .int .i64 k])
    (fun _ => H ++ [some (.cells 0 (u16s gs))]) (by rfl) 0 (Nat.zero_le _) rfl rfl ?_
  intro k hk
  refine go 200 (fun _ => false) mixed ?_
  by_cases hlt : k < 6
  · have g := u16s_get (ns := gs) (k := k) (by omega)
    have gl := mem_get hle k
    have hsn := take_snoc (d := 0) (show k < gs.length by omega)
    have hk8 : k < 8 := by omega
    have dl := dotsS_len (gs.take k) (fun g hg => hle g (List.mem_of_mem_take hg))
    rw [List.length_take] at dl
    generalize gs.getD k 0 = x at *
    have ol := ones_drop x (14 + (hexF x).length) rfl
    have xl := hexF_len x gl
    simp (disch := omega) only [↓reduceIte, go_sem, hlt, hl, hk8, g] <;> repeat with_reducible refine And.intro (by first | omega | decide) ?_
    refine (ones_call gl).on (go 200 (fun _ => false) mixed ?_)
    have o14 : ones.length = 14 := rfl
    simp (disch := omega) only [↓reduceIte, go_sem, o14, ol, List.length_append, List.length_cons, List.length_nil] <;> repeat with_reducible refine And.intro (by first | omega | decide) ?_
    refine rnd_next (k + 1) (by show k + 1 ≤ 6; omega) (by show 6 - (k + 1) < 6 - k; omega) ?_ rfl
    rw [hsn, dotsS_snoc]; rfl
  · have hk6 : k = 6 := by omega
    subst hk6
    simp (disch := omega) only [↓reduceIte, go_sem, hlt] <;> repeat with_reducible refine And.intro (by first | omega | decide) ?_
    have e3 : n / 16777216 = by3 n := rfl
    have e2 : n / 65536 % 256 = by2 n := rfl
    have e1 : n / 256 % 256 = by1 n := rfl
    have e0 : n % 256 = by0 n := rfl
    have dl := dotsS_len (gs.take 6) hle6
    rw [l6] at dl
    have d3 := dec3 _ i3; have d2 := dec3 _ i2; have d1 := dec3 _ i1; have d0 := dec3 _ i0
    refine go 200 (fun _ => false) mixed ?_
    simp (disch := omega) only [↓reduceIte, go_sem, e3, e2, e1, e0] <;> repeat with_reducible refine And.intro (by first | omega | decide) ?_
    refine (c_abatisref01_Decimal (by3 n) (by omega)).on (go 200 (fun _ => false) mixed ?_)
    simp (disch := omega) only [↓reduceIte, go_sem, e3, e2, e1, e0, List.length_append, List.length_cons, List.length_nil] <;> repeat with_reducible refine And.intro (by first | omega | decide) ?_
    refine (c_abatisref01_Decimal (by2 n) (by omega)).on (go 200 (fun _ => false) mixed ?_)
    simp (disch := omega) only [↓reduceIte, go_sem, e3, e2, e1, e0, List.length_append, List.length_cons, List.length_nil] <;> repeat with_reducible refine And.intro (by first | omega | decide) ?_
    refine (c_abatisref01_Decimal (by1 n) (by omega)).on (go 200 (fun _ => false) mixed ?_)
    simp (disch := omega) only [↓reduceIte, go_sem, e3, e2, e1, e0, List.length_append, List.length_cons, List.length_nil] <;> repeat with_reducible refine And.intro (by first | omega | decide) ?_
    refine (c_abatisref01_Decimal (by0 n) (by omega)).on (go 200 (fun _ => false) mixed ?_)
    have pl := printF_len n hn
    have hs : decF (by3 n) ++ [46] ++ decF (by2 n) ++ [46] ++ decF (by1 n) ++ [46] ++ decF (by0 n) = printF n := rfl
    simp (disch := omega) only [↓reduceIte, go_sem, e3, e2, e1, e0, List.length_append, List.length_cons, List.length_nil, hs] <;> repeat with_reducible refine And.intro (by first | omega | decide) ?_
    have x1 : n / 65536 ≤ 65535 := by omega
    refine (c_six_Parse (dotsS (gs.take 6) ++ printF n) (by rw [List.length_append]; omega)).on hG.app (go 200 (fun _ => false) mixed ?_)
    rw [dots_ok _ l6 hle6 n hn, parseV_some]
    have wl : (gs.take 6 ++ [n / 65536, n % 65536]).length = 8 := by rw [List.length_append, l6]; rfl
    have tw : List.take 8 (u16s (gs.take 6 ++ [n / 65536, n % 65536])) = u16s (gs.take 6 ++ [n / 65536, n % 65536]) := List.take_of_length_le (by rw [u16s_len]; omega)
    have tg := u16s_tag wl
    have hset := set67 hl (n / 65536) (n % 65536)
    simp (disch := omega) only [↓reduceIte, go_sem, hl, t8, wl, tw, List.length_set, hset, List.length_append, List.length_cons, List.length_nil] <;> repeat with_reducible refine And.intro (by first | omega | decide) ?_
    refine (c_six_Parse (dotsS (gs.take 6) ++ [49, 58] ++ printF n) (by simp only [List.length_append, List.length_cons, List.length_nil]; omega)).on hG.app (go 200 (fun _ => false) mixed ?_)
    rw [dots_two _ l6 hle6 n hn, parseV_none]
    simp (disch := omega) only [↓reduceIte, go_sem, hl, t8, wl, tw, List.length_append, List.length_cons, List.length_nil] <;> repeat with_reducible refine And.intro (by first | omega | decide) ?_
    refine (c_six_Parse (printF n ++ [58] ++ dotsS (gs.take 6) ++ [49]) (by simp only [List.length_append, List.length_cons, List.length_nil]; omega)).on hG.app (go 200 (fun _ => false) mixed ?_)
    rw [dots_ahead, parseV_none]
    simp (disch := omega) only [↓reduceIte, go_sem, hl, t8, wl, tw, tg] <;> repeat with_reducible refine And.intro (by first | omega | decide) ?_
    refine c_abatislaw03_lives.on hG.app (go 200 (fun _ => false) mixed ?_)
    simp (disch := omega) only [↓reduceIte, go_sem] <;> repeat with_reducible refine And.intro (by first | omega | decide) ?_
    exact fin_drop (.inr rfl) hb rfl (by simp)
end Go.Proofs.GoC
