/-
  The document's example of chapter 18; the laws GrantRow and GrantOnce. No claim by itself.
-/
import Derived.Test.YtjjkidldccebjaaGoGrantB
import Derived.Test.YtjjkidldccebjaaGoAround
namespace Go.Proofs.GoC
open Go Go.Proofs.SL
set_option linter.unusedSimpArgs false
set_option linter.unusedVariables false
set_option maxRecDepth 10000
set_option maxHeartbeats 4000000

def keyG : GKey := ⟨⟨[], [], 0⟩, ⟨[], [], 0⟩, [71, 69, 84], 0, z16⟩
theorem keyG_ok : KeyOk keyG := ⟨rfl, by decide⟩

theorem new_at {H L : Heap} {n : Int} : BkAt (H ++ some (.map []) :: some (.cells 0 [.int .i64 (roomF n), .mp H.length]) :: L) (H.length + 1) H.length (roomF n) [] :=
  ⟨by rw [get_tail]; rfl, by rw [get_tail0]; rfl, by intro e he; cases he⟩

theorem BkAt.app {H L : Heap} {i j : Nat} {room : Int} {es : Grants} (h : BkAt H i j room es) : BkAt (H ++ L) i j room es :=
  ⟨by rw [List.getElem?_append_left (lt_of_get h.cell)]; exact h.cell, by rw [List.getElem?_append_left (lt_of_get h.map)]; exact h.map, h.ok⟩

theorem c_abatislaw18_lives : PCall Try.prog 10 [] (.bool true) := by
  intro H
  refine scall_of (ord := fun _ => []) (rs := [0]) Try.func10 rfl (by kernel_rfl) (by kernel_rfl) (by kernel_rfl) Try.ntmps10 fun hb hargs => go 200 (fun _ => false) mixed ?_
  simp (disch := omega) only [↓reduceIte, go_sem] <;> repeat with_reducible refine And.intro (by first | omega | decide) ?_
  refine (c_grant_New 1).mono fun r H1 ⟨e1, e2⟩ => ?_
  rw [e1, e2]
  refine go 200 (fun _ => false) mixed ?_
  simp (disch := omega) only [↓reduceIte, go_sem] <;> repeat with_reducible refine And.intro (by first | omega | decide) ?_
  refine (put_room (k := keyG) new_at keyG_ok 5 0 (.inl (by decide))).mono fun r H3 ⟨_, hB, hK⟩ => ?_
  have ho3 : H3[H.length + 2]? = some (some (.cells 0 (keyC keyG))) := hK.get (by rw [get_tail]; rfl) (by simp)
  have oc3 := obj_of ho3
  have kl := keyC_len keyG_ok
  have kt := keyC_take keyG_ok
  have h4 := c_grant_Book_Holds hB keyG keyG_ok 4
  have h5 := c_grant_Book_Holds hB keyG keyG_ok 5
  have f4 : holdsF keyG 4 (if (5 : Int) ≤ 0 then [] else putA keyG 5 []) = true := by decide
  have f5 : holdsF keyG 5 (if (5 : Int) ≤ 0 then [] else putA keyG 5 []) = false := by decide
  rw [f4] at h4
  rw [f5] at h5
  refine go 200 (fun _ => false) mixed ?_
  simp (disch := omega) only [↓reduceIte, go_sem, oc3, kl, kt] <;> repeat with_reducible refine And.intro (by first | omega | decide) ?_
  refine h4.mono fun r H4 ⟨e1, e2⟩ => ?_
  rw [e1, e2]
  refine go 200 (fun _ => false) mixed ?_
  simp (disch := omega) only [↓reduceIte, go_sem, oc3, kl, kt] <;> repeat with_reducible refine And.intro (by first | omega | decide) ?_
  refine h5.mono fun r H4 ⟨e1, e2⟩ => ?_
  rw [e1, e2]
  refine go 200 (fun _ => false) mixed ?_
  simp (disch := omega) only [↓reduceIte, go_sem, oc3, kl, kt] <;> repeat with_reducible refine And.intro (by first | omega | decide) ?_
  obtain ⟨L, rfl⟩ : ∃ L, H3 = H ++ L := (Keeps.app.trans hK).split (by simp)
  exact fin_drop (.inr rfl) hb rfl (by simp)

theorem c_abatislaw18_GrantRow (a b c : GKey) (ha : KeyOk a) (hb' : KeyOk b) (hc : KeyOk c) : GCall 3 [.agg (keyC a), .agg (keyC b), .agg (keyC c)] (.bool true) := by
  intro H hG
  have la := keyC_len ha
  have lb := keyC_len hb'
  have lc := keyC_len hc
  have ta := keyC_take ha
  have tb := keyC_take hb'
  have tc := keyC_take hc
  have ga := keyC_tag ha
  have gb := keyC_tag hb'
  have o1 := cmpK_ord.neg a b
  have o2 := cmpK_ord.zero a b
  have o3 := cmpK_ord.trans a b c
  have o4 := cmpK_ord.one a b
  have hab := c_grant_Compare a b ha hb'
  have hbc := c_grant_Compare b c hb' hc
  have hba := c_grant_Compare b a hb' ha
  have hac := c_grant_Compare a c ha hc
  have hr := c_abatisref18_Compare a b ha hb'
  rw [o1] at hba
  generalize cmpK a b = x at *
  generalize cmpK b c = y at *
  generalize cmpK a c = z at *
  have hw : IntKind.i64.wrap (0 - x) = -x := by rw [w64 (by omega) (by omega)]; omega
  refine scall_of (ord := fun _ => []) (rs := [6]) Try.func3 rfl (by kernel_rfl) (by kernel_rfl) (by kernel_rfl) Try.ntmps3 fun hb hargs => go 200 (fun _ => false) mixed ?_
  simp (disch := omega) only [↓reduceIte, go_sem, la, lb, lc, ta, tb, tc, keyC_one] <;> repeat with_reducible refine And.intro (by first | omega | decide) ?_
  refine hab.on (go 200 (fun _ => false) mixed ?_)
  simp (disch := omega) only [↓reduceIte, go_sem, la, lb, lc, ta, tb, tc] <;> repeat with_reducible refine And.intro (by first | omega | decide) ?_
  refine hbc.on (go 200 (fun _ => false) mixed ?_)
  simp (disch := omega) only [↓reduceIte, go_sem, la, lb, lc, ta, tb, tc] <;> repeat with_reducible refine And.intro (by first | omega | decide) ?_
  refine hr.on (go 200 (fun _ => false) mixed ?_)
  simp (disch := omega) only [↓reduceIte, go_sem, la, lb, lc, ta, tb, tc] <;> repeat with_reducible refine And.intro (by first | omega | decide) ?_
  refine hba.on (go 200 (fun _ => false) mixed ?_)
  by_cases h0 : a = b
  · have hx : x = 0 := o2.mpr h0
    subst hx
    subst h0
    by_cases hy : 0 < y
    · simp (disch := omega) only [↓reduceIte, go_sem, la, lb, lc, ta, tb, tc, ga, gb, hw, hy] <;> repeat with_reducible refine And.intro (by first | omega | decide) ?_
      refine c_abatislaw18_lives.on (go 200 (fun _ => false) mixed ?_)
      simp (disch := omega) only [↓reduceIte, go_sem] <;> repeat with_reducible refine And.intro (by first | omega | decide) ?_
      exact fin_drop (.inr rfl) hb rfl (by simp)
    · have hz := o3 (by omega) (by omega)
      simp (disch := omega) only [↓reduceIte, go_sem, la, lb, lc, ta, tb, tc, ga, gb, hw, hy] <;> repeat with_reducible refine And.intro (by first | omega | decide) ?_
      refine hac.on (go 200 (fun _ => false) mixed ?_)
      simp (disch := omega) only [↓reduceIte, go_sem, hz] <;> repeat with_reducible refine And.intro (by first | omega | decide) ?_
      refine c_abatislaw18_lives.on (go 200 (fun _ => false) mixed ?_)
      simp (disch := omega) only [↓reduceIte, go_sem] <;> repeat with_reducible refine And.intro (by first | omega | decide) ?_
      exact fin_drop (.inr rfl) hb rfl (by simp)
  · have hx : ¬ x = 0 := fun h => h0 (o2.mp h)
    have hxe : (x = 0) = False := eq_false hx
    have hke : (keyC a = keyC b) = False := eq_false fun h => h0 (keyC_inj.mp h)
    by_cases hx0 : 0 < x
    · simp (disch := omega) only [↓reduceIte, go_sem, la, lb, lc, ta, tb, tc, ga, gb, hw, hxe, hke, hx0] <;> repeat with_reducible refine And.intro (by first | omega | decide) ?_
      refine c_abatislaw18_lives.on (go 200 (fun _ => false) mixed ?_)
      simp (disch := omega) only [↓reduceIte, go_sem] <;> repeat with_reducible refine And.intro (by first | omega | decide) ?_
      exact fin_drop (.inr rfl) hb rfl (by simp)
    · by_cases hy : 0 < y
      · simp (disch := omega) only [↓reduceIte, go_sem, la, lb, lc, ta, tb, tc, ga, gb, hw, hxe, hke, hx0, hy] <;> repeat with_reducible refine And.intro (by first | omega | decide) ?_
        refine c_abatislaw18_lives.on (go 200 (fun _ => false) mixed ?_)
        simp (disch := omega) only [↓reduceIte, go_sem] <;> repeat with_reducible refine And.intro (by first | omega | decide) ?_
        exact fin_drop (.inr rfl) hb rfl (by simp)
      · have hz := o3 (by omega) (by omega)
        simp (disch := omega) only [↓reduceIte, go_sem, la, lb, lc, ta, tb, tc, ga, gb, hw, hxe, hke, hx0, hy] <;> repeat with_reducible refine And.intro (by first | omega | decide) ?_
        refine hac.on (go 200 (fun _ => false) mixed ?_)
        simp (disch := omega) only [↓reduceIte, go_sem, hz] <;> repeat with_reducible refine And.intro (by first | omega | decide) ?_
        refine c_abatislaw18_lives.on (go 200 (fun _ => false) mixed ?_)
        simp (disch := omega) only [↓reduceIte, go_sem] <;> repeat with_reducible refine And.intro (by first | omega | decide) ?_
        exact fin_drop (.inr rfl) hb rfl (by simp)

theorem key0_ok : KeyOk key0 := ⟨rfl, by decide⟩

theorem c_abatislaw18_GrantOnce (k other : GKey) (hk : KeyOk k) (ho : KeyOk other) (u : Int) (u1 : -9223372036854775808 ≤ u) (u2 : u ≤ 9223372036854775807) (w : Int) (w1 : -9223372036854775808 ≤ w) (w2 : w ≤ 9223372036854775807) :
    GCall 4 [.agg (keyC k), .agg (keyC other), .int .i64 u, .int .i64 w] (.bool true) := by
  intro H hG
  have lk := keyC_len hk
  have lo := keyC_len ho
  have tk := keyC_take hk
  have tk' := keyC_take ho
  have gk := keyC_tag hk
  have go_ := keyC_tag ho
  have l0 := keyC_len key0_ok
  refine scall_of (ord := fun _ => []) (rs := [8]) Try.func4 rfl (by kernel_rfl) (by kernel_rfl) (by kernel_rfl) Try.ntmps4 fun hb hargs => go 200 (fun _ => false) mixed ?_
  simp (disch := omega) only [↓reduceIte, go_sem, lk, lo, tk, tk', keyC_one] <;> repeat with_reducible refine And.intro (by first | omega | decide) ?_
  refine (c_abatisref01_Around u u1 u2 10000 (by decide)).on (go 200 (fun _ => false) mixed ?_)
  simp (disch := omega) only [↓reduceIte, go_sem] <;> repeat with_reducible refine And.intro (by first | omega | decide) ?_
  refine (c_abatisref01_Around w w1 w2 10000 (by decide)).on (go 200 (fun _ => false) mixed ?_)
  generalize aroundF u 10000 = a
  generalize aroundF w 10000 = n
  simp (disch := omega) only [↓reduceIte, go_sem] <;> repeat with_reducible refine And.intro (by first | omega | decide) ?_
  refine (c_grant_New 4).mono fun r H1 ⟨e1, e2⟩ => ?_
  rw [e1, e2]
  refine go 200 (fun _ => false) mixed ?_
  have e3 : (H ++ [some (OB.cells 0 (keyC k)), some (OB.cells 0 (keyC other))]).length = H.length + 2 := by simp
  simp only [e3]
  simp (disch := omega) only [↓reduceIte, go_sem, lk, lo, tk, tk'] <;> repeat with_reducible refine And.intro (by first | omega | decide) ?_
  have hB0 : BkAt (H ++ [some (OB.cells 0 (keyC k)), some (OB.cells 0 (keyC other)), some (OB.map []), some (OB.cells 0 [PV.int .i64 (roomF 4), .mp (H.length + 2)])]) (H.length + 2 + 1) (H.length + 2) (roomF 4) [] :=
    ⟨by rw [show H.length + 2 + 1 = H.length + 3 from rfl, get_tail]; rfl, by rw [get_tail]; rfl, by intro e he; cases he⟩
  refine (put_room (k := k) hB0 hk a n (.inl (by decide))).mono fun r H3 ⟨e4, hB, hK⟩ => ?_
  rw [e4]
  have hk3 : H3[H.length]? = some (some (.cells 0 (keyC k))) := hK.get (by rw [get_tail0]; rfl) (by simp)
  have ho3 : H3[H.length + 1]? = some (some (.cells 0 (keyC other))) := hK.get (by rw [get_tail]; rfl) (by simp)
  have hl3 : H.length + 4 ≤ H3.length := by have := hK.1; simpa using this
  have ok3 := obj_of hk3
  have oo3 := obj_of ho3
  have hB4 : BkAt (H3 ++ [some (.cells 0 (keyC key0))]) (H.length + 2 + 1) (H.length + 2) (roomF 4) (if (a : Int) ≤ n then [] else putA k (a : Int) []) := hB.app
  have c1 := c_grant_Book_Holds hB4 k hk n
  have c2 := c_grant_Book_Holds hB4 k hk a
  have c3 := c_grant_Book_Holds hB4 other ho n
  have f1 : holdsF k n (if (a : Int) ≤ n then [] else putA k (a : Int) []) = decide (n < a) := by
    unfold holdsF untilF
    by_cases h : (a : Int) ≤ n
    · rw [if_pos h]
      have : ¬ n < a := by omega
      simp [findA, this]
    · rw [if_neg h]
      simp [findA, putA]
  have f2 : holdsF k a (if (a : Int) ≤ n then [] else putA k (a : Int) []) = false := by
    unfold holdsF untilF
    by_cases h : (a : Int) ≤ n
    · rw [if_pos h]; simp [findA]
    · rw [if_neg h]; simp [findA, putA]
  have f3 : holdsF other n (if (a : Int) ≤ n then [] else putA k (a : Int) []) = (decide (n < a) && decide (other = k)) := by
    unfold holdsF untilF
    by_cases h : (a : Int) ≤ n
    · rw [if_pos h]
      have : ¬ n < a := by omega
      simp [findA, this]
    · rw [if_neg h]
      have : n < a := by omega
      by_cases he : other = k
      · simp [findA, putA, he, this]
      · simp [findA, putA, he]
  rw [f1] at c1
  rw [f2] at c2
  rw [f3] at c3
  refine go 200 (fun _ => false) mixed ?_
  simp (disch := omega) only [↓reduceIte, go_sem, l0, keyC_one, lk, lo, tk, tk', ok3, oo3] <;> repeat with_reducible refine And.intro (by first | omega | decide) ?_
  refine c1.mono fun r H4 ⟨e1, e2⟩ => ?_
  rw [e1, e2]
  have hke : (keyC other = keyC k) = (other = k) := propext keyC_inj
  by_cases hlt : n < a
  · have hd : decide (n < a) = true := by simpa using hlt
    rw [hd] at c3
    rw [hd]
    refine go 200 (fun _ => false) mixed ?_
    simp (disch := omega) only [↓reduceIte, go_sem, lk, lo, tk, tk', ok3, oo3, hlt] <;> repeat with_reducible refine And.intro (by first | omega | decide) ?_
    refine c2.mono fun r H4 ⟨e1, e2⟩ => ?_
    rw [e1, e2]
    refine go 200 (fun _ => false) mixed ?_
    simp (disch := omega) only [↓reduceIte, go_sem, lk, lo, tk, tk', ok3, oo3, hlt] <;> repeat with_reducible refine And.intro (by first | omega | decide) ?_
    refine c3.mono fun r H4 ⟨e1, e2⟩ => ?_
    rw [e1, e2]
    refine go 200 (fun _ => false) mixed ?_
    by_cases he : other = k
    · subst he
      simp (disch := omega) only [↓reduceIte, go_sem, lk, lo, tk, tk', ok3, oo3, hlt, gk, go_] <;> repeat with_reducible refine And.intro (by first | omega | decide) ?_
      refine c_abatislaw18_lives.on (go 200 (fun _ => false) mixed ?_)
      simp (disch := omega) only [↓reduceIte, go_sem] <;> repeat with_reducible refine And.intro (by first | omega | decide) ?_
      obtain ⟨L, rfl⟩ : ∃ L, H3 = H ++ L := (Keeps.app.trans hK).split (by simp)
      rw [List.append_assoc]
      exact fin_drop (.inr rfl) hb rfl (by simp)
    · have hke2 : (keyC other = keyC k) = False := eq_false fun h => he (keyC_inj.mp h)
      simp (disch := omega) only [↓reduceIte, go_sem, lk, lo, tk, tk', ok3, oo3, hlt, gk, go_, he, hke2] <;> repeat with_reducible refine And.intro (by first | omega | decide) ?_
      refine c_abatislaw18_lives.on (go 200 (fun _ => false) mixed ?_)
      simp (disch := omega) only [↓reduceIte, go_sem] <;> repeat with_reducible refine And.intro (by first | omega | decide) ?_
      obtain ⟨L, rfl⟩ : ∃ L, H3 = H ++ L := (Keeps.app.trans hK).split (by simp)
      rw [List.append_assoc]
      exact fin_drop (.inr rfl) hb rfl (by simp)
  · have hd : decide (n < a) = false := by simpa using hlt
    rw [hd, Bool.false_and] at c3
    rw [hd]
    refine go 200 (fun _ => false) mixed ?_
    simp (disch := omega) only [↓reduceIte, go_sem, lk, lo, tk, tk', ok3, oo3, hlt] <;> repeat with_reducible refine And.intro (by first | omega | decide) ?_
    refine c2.mono fun r H4 ⟨e1, e2⟩ => ?_
    rw [e1, e2]
    refine go 200 (fun _ => false) mixed ?_
    simp (disch := omega) only [↓reduceIte, go_sem, lk, lo, tk, tk', ok3, oo3, hlt] <;> repeat with_reducible refine And.intro (by first | omega | decide) ?_
    refine c3.mono fun r H4 ⟨e1, e2⟩ => ?_
    rw [e1, e2]
    refine go 200 (fun _ => false) mixed ?_
    simp (disch := omega) only [↓reduceIte, go_sem, lk, lo, tk, tk', ok3, oo3, hlt, gk, go_] <;> repeat with_reducible refine And.intro (by first | omega | decide) ?_
    refine c_abatislaw18_lives.on (go 200 (fun _ => false) mixed ?_)
    simp (disch := omega) only [↓reduceIte, go_sem] <;> repeat with_reducible refine And.intro (by first | omega | decide) ?_
    obtain ⟨L, rfl⟩ : ∃ L, H3 = H ++ L := (Keeps.app.trans hK).split (by simp)
    rw [List.append_assoc]
    exact fin_drop (.inr rfl) hb rfl (by simp)

/-- What a law is handed as a key. -/
theorem key_of {qs : List PV} (h : qs.map tagP = ([.s, .s, .i .i64, .s, .s, .i .i64, .s, .i .i64, .i .u8, .i .u8, .i .u8, .i .u8, .i .u8, .i .u8, .i .u8, .i .u8, .i .u8, .i .u8, .i .u8, .i .u8, .i .u8, .i .u8, .i .u8, .i .u8] : List Tag).map some) (hw : ∀ p ∈ qs, wfP p) : ∃ k : GKey, qs = keyC k ∧ KeyOk k := by
  obtain ⟨q1, x1, rfl, g1, w1, h1, hw1⟩ := cells_cons h hw
  obtain ⟨q2, x2, rfl, g2, w2, h2, hw2⟩ := cells_cons h1 hw1
  obtain ⟨q3, x3, rfl, g3, w3, h3, hw3⟩ := cells_cons h2 hw2
  obtain ⟨q4, x4, rfl, g4, w4, h4, hw4⟩ := cells_cons h3 hw3
  obtain ⟨q5, x5, rfl, g5, w5, h5, hw5⟩ := cells_cons h4 hw4
  obtain ⟨q6, x6, rfl, g6, w6, h6, hw6⟩ := cells_cons h5 hw5
  obtain ⟨q7, x7, rfl, g7, w7, h7, hw7⟩ := cells_cons h6 hw6
  obtain ⟨q8, x8, rfl, g8, w8, h8, hw8⟩ := cells_cons h7 hw7
  obtain ⟨n9, rfl, l9, b9⟩ := cells_u8s_end 16 h8 hw8
  obtain ⟨n1, rfl, _⟩ := cell_str g1 w1
  obtain ⟨n2, rfl, _⟩ := cell_str g2 w2
  obtain ⟨n3, rfl, _⟩ := cell_i64 g3 w3
  obtain ⟨n4, rfl, _⟩ := cell_str g4 w4
  obtain ⟨n5, rfl, _⟩ := cell_str g5 w5
  obtain ⟨n6, rfl, _⟩ := cell_i64 g6 w6
  obtain ⟨n7, rfl, _⟩ := cell_str g7 w7
  obtain ⟨n8, rfl, _⟩ := cell_i64 g8 w8
  exact ⟨⟨⟨n1, n2, n3⟩, ⟨n4, n5, n6⟩, n7, n8, n9⟩, rfl, l9, b9⟩
end Go.Proofs.GoC
