/-
  What the functions compute: the least key; keys in the row. No claim by itself. (Printed by mkcache.py.)
-/
import Derived.Test.YtcmbnoloimdlaaaGoCache3
namespace Go.Proofs.GoC
open Go Go.Proofs.SL
set_option linter.unusedSimpArgs false
set_option linter.unusedVariables false
set_option maxRecDepth 10000
set_option maxHeartbeats 4000000
def ltC (a b : CKey) : Prop := cmpC a b < 0
theorem ltC_trans {a b c : CKey} (h1 : ltC a b) (h2 : ltC b c) : ltC a c := by
  unfold ltC at *
  have h3 := cmpC_ord.trans a b c (by omega) (by omega)
  rcases Int.lt_or_eq_of_le h3 with h | h
  · exact h
  · have e := (cmpC_ord.zero a c).mp h
    have h4 := cmpC_ord.neg a b
    rw [e] at h4 h1
    omega
theorem ltC_irr {a : CKey} (h : ltC a a) : False := by
  unfold ltC at h
  rw [(cmpC_ord.zero a a).mpr rfl] at h
  omega
theorem ltC_asym {a b : CKey} (h1 : ltC a b) (h2 : ltC b a) : False := ltC_irr (ltC_trans h1 h2)
theorem ltC_of_ge {a b : CKey} (h : ¬ cmpC a b < 0) (hne : a ≠ b) : ltC b a := by
  unfold ltC
  have h1 := cmpC_ord.neg a b
  have h2 : cmpC a b ≠ 0 := fun e => hne ((cmpC_ord.zero a b).mp e)
  omega
/-- Two rows of the same keys are one. -/
theorem rowC_one : ∀ {l m : List CKey}, l.Pairwise ltC → m.Pairwise ltC → l.Perm m → l = m
  | [], m, _, _, hp => (List.nil_perm.mp hp).symm
  | a :: l, [], _, _, hp => by have := hp.length_eq; simp at this
  | a :: l, b :: m, h1, h2, hp => by
    rw [List.pairwise_cons] at h1 h2
    have hab : a = b := by
      by_cases h : a = b
      · exact h
      · have ha : a ∈ m := by
          rcases List.mem_cons.mp (hp.mem_iff.mp (List.mem_cons_self ..)) with h3 | h3
          · exact absurd h3 h
          · exact h3
        have hb : b ∈ l := by
          rcases List.mem_cons.mp (hp.mem_iff.mpr (List.mem_cons_self ..)) with h3 | h3
          · exact absurd h3.symm h
          · exact h3
        exact absurd (h2.1 a ha) fun h4 => ltC_asym (h1.1 b hb) h4
    subst hab
    rw [rowC_one h1.2 h2.2 (List.perm_cons a |>.mp hp)]
/-- What MinFunc tells of the first so many. -/
def mnD (c : CKey → CKey → Int) (d : List CKey) : Nat → CKey
  | 0 => d.getD 0 ck0
  | n + 1 => if c (d.getD (n + 1) ck0) (mnD c d n) < 0 then d.getD (n + 1) ck0 else mnD c d n
theorem mnC_first {u : CKey → Int} {d : List CKey} : ∀ {n : Nat}, ∃ m ≤ n, mnD (fun x y => cmpI (u x) (u y)) d n = d.getD m ck0 ∧ ∀ i ≤ n, u (d.getD m ck0) < u (d.getD i ck0) ∨ (u (d.getD m ck0) = u (d.getD i ck0) ∧ m ≤ i)
  | 0 => ⟨0, Nat.le_refl _, rfl, fun i hi => .inr ⟨by rw [Nat.le_zero.mp hi], Nat.zero_le _⟩⟩
  | n + 1 => by
    obtain ⟨m, hm, e, hf⟩ := mnC_first (u := u) (d := d) (n := n)
    have hc : (cmpI (u (d.getD (n + 1) ck0)) (u (d.getD m ck0)) < 0) ↔ u (d.getD (n + 1) ck0) < u (d.getD m ck0) := by
      unfold cmpI; split <;> (try split) <;> omega
    unfold mnD
    rw [e]
    by_cases h : u (d.getD (n + 1) ck0) < u (d.getD m ck0)
    · rw [if_pos (hc.mpr h)]
      refine ⟨n + 1, Nat.le_refl _, rfl, fun i hi => ?_⟩
      by_cases hin : i = n + 1
      · subst hin; exact .inr ⟨rfl, Nat.le_refl _⟩
      · have := hf i (by omega); exact .inl (by omega)
    · rw [if_neg (fun h2 => h (hc.mp h2))]
      refine ⟨m, by omega, rfl, fun i hi => ?_⟩
      by_cases hin : i = n + 1
      · subst hin
        by_cases he : u (d.getD m ck0) = u (d.getD (n + 1) ck0)
        · exact .inr ⟨he, by omega⟩
        · exact .inl (by omega)
      · exact hf i (by omega)

theorem flatC_len {d : List CKey} (h : ∀ k ∈ d, CkOk k) : (flat (cksW d)).length = d.length * 2 := (flat_length (m := 2) fun x hx => by
  obtain ⟨q, hq, rfl⟩ := List.mem_map.mp hx
  exact ckC_lenH (h q hq)).trans (by simp [cksW])
theorem flatC_at {d : List CKey} (h : ∀ k ∈ d, CkOk k) {i : Nat} (hi : i < d.length) : List.take 2 (List.drop (i * 2) (flat (cksW d))) = ckC (d.getD i ck0) := by
  have e1 : d.getD i ck0 = d[i] := by simp [List.getD_eq_getElem?_getD, hi]
  have e : d = d.take i ++ d[i] :: d.drop (i + 1) := by rw [← List.drop_eq_getElem_cons hi, List.take_append_drop]
  have hk : CkOk d[i] := h _ (List.getElem_mem hi)
  have ht : ∀ k ∈ d.take i, CkOk k := fun k hk => h k (List.mem_of_mem_take hk)
  have hl := flatC_len ht
  rw [List.length_take, Nat.min_eq_left (by omega)] at hl
  rw [e1]
  generalize d[i] = x at *
  rw [e]
  have ef : flat (cksW (d.take i ++ x :: d.drop (i + 1))) = flat (cksW (d.take i)) ++ (ckC x ++ flat (cksW (d.drop (i + 1)))) := by simp [cksW, flat, ckV, PV.cells]
  rw [ef, List.drop_append_of_le_length (by omega), List.drop_eq_nil_of_le (by omega), List.nil_append, List.take_append_of_le_length (by rw [ckC_lenH hk]; omega), ckC_takeH hk]

theorem c_slices_MinFunc_cache_Key_cache_Key {H : Heap} {ob ver : Nat} {d : List CKey} (hd : ∀ k ∈ d, CkOk k) (h0 : 0 < d.length) (hl : d.length < 1000000) (ho : H[ob]? = some (some (.cells ver (flat (cksW d)))))
    (f : Nat) (caps : List PV) (c : CKey → CKey → Int)
    (hcall : ∀ L x y, CkOk x → CkOk y → SCall Try.prog f ([] ++ [.agg (ckC x), .agg (ckC y)] ++ caps) (H ++ L) fun r H' => r = .int .i64 (c x y) ∧ H' = H ++ L) :
    SCall Try.prog 38 [.buf ob ver 0 d.length 2 true, .func (.func f) [] caps] H fun r H' => r = .agg (ckC (mnD c d (d.length - 1))) ∧ ∃ L, H' = H ++ L := by
  have hbl := lt_of_get ho
  have oo := obj_of ho
  have hfl := flatC_len hd
  have h01 : ¬ d.length < 1 := by omega
  have h01i : ¬ (d.length : Int) < 1 := by omega
  have g0 := flatC_at hd h0
  rw [Nat.zero_mul, List.drop_zero] at g0
  have hk0 : CkOk (d.getD 0 ck0) := hd _ (by rw [List.getD_eq_getElem?_getD, List.getElem?_eq_getElem h0]; exact List.getElem_mem _)
  have kl0 := ckC_lenH hk0
  have kt0 := ckC_takeH hk0
  have z0 := ckC_0
  refine scall_ofd (ord := ordCQ) (tdOf_ok _) (rs := [.cell 4 37]) Try.func38 rfl (by kernel_rfl) (by kernel_rfl) (by kernel_rfl) Try.ntmps38 fun hb hargs => go 200 (fun _ => false) mixed ?_
  simp (disch := omega) only [↓reduceIte, go_sem, oo, hfl, h01, h01i, g0, kl0, kt0, h0, ckC_one] <;> repeat with_reducible refine And.intro (by first | omega | decide) ?_
  refine runs_loopA (fun n : Nat => n + 1 ≤ d.length) (fun n => d.length - n) [true, true, false, false, true, true, true]
    (fun n => slots 33 [.buf ob ver 0 d.length 2 true, .func (.func f) [] caps, .any, .any, .ptr H.length 0 0, .ptr (H.length + 1) 0 0, .int .i64 (n + 1 : Nat)])
    (fun n => H ++ [some (.cells 0 (ckC ck0)), some (.cells 0 (ckC (mnD c d n)))]) (by rfl) 0 (by show 0 + 1 ≤ d.length; omega) rfl (by rw [ckC_0]; rfl) ?_
  intro n hn
  have hmk : ∀ n, n < d.length → CkOk (mnD c d n) := fun n => by
    induction n with
    | zero => exact fun _ => hk0
    | succ n ih =>
      intro hlt
      unfold mnD
      split
      · exact hd _ (by rw [List.getD_eq_getElem?_getD, List.getElem?_eq_getElem hlt]; exact List.getElem_mem _)
      · exact ih (by omega)
  have hm := hmk n (by omega)
  have ml := ckC_lenH hm
  have mt := ckC_takeH hm
  have k0l := ckC_lenH ck0_ok
  have k0d : List.drop 2 (ckC ck0) = [] := List.drop_eq_nil_of_le (by omega)
  have md : List.drop 2 (ckC (mnD c d n)) = [] := List.drop_eq_nil_of_le (by omega)
  refine go 200 (fun _ => false) mixed ?_
  by_cases hlt : n + 1 < d.length
  · have g := flatC_at hd hlt
    have hk : CkOk (d.getD (n + 1) ck0) := hd _ (by rw [List.getD_eq_getElem?_getD, List.getElem?_eq_getElem hlt]; exact List.getElem_mem _)
    have kl := ckC_lenH hk
    have kt := ckC_takeH hk
    have hst : mnD c d (n + 1) = if c (d.getD (n + 1) ck0) (mnD c d n) < 0 then d.getD (n + 1) ck0 else mnD c d n := rfl
    have hc := hcall [some (.cells 0 (ckC ck0)), some (.cells 0 (ckC (mnD c d n)))] _ _ hk hm
    have hw : IntKind.i64.wrap (((n + 1 : Nat) : Int) + 1) = ((n + 1 + 1 : Nat) : Int) := by rw [w64 (by omega) (by omega)]; omega
    generalize d.getD (n + 1) ck0 = x at *
    simp (disch := omega) only [↓reduceIte, go_sem, hlt, oo, hfl, g, ml, mt, kl, kt, k0l, ckC_one] <;> repeat with_reducible refine And.intro (by first | omega | decide) ?_
    refine hc.onq (go 200 (fun _ => false) mixed ?_)
    by_cases hx : c x (mnD c d n) < 0
    · rw [if_pos hx] at hst
      simp (disch := omega) only [↓reduceIte, go_sem, hx, hlt, oo, hfl, g, ml, mt, md, kl, kt, k0l, ckC_one, hw] <;> repeat with_reducible refine And.intro (by first | omega | decide) ?_
      exact rnd_next (n + 1) (by omega) (by show d.length - (n + 1) < d.length - n; omega) rfl (by rw [hst])
    · rw [if_neg hx] at hst
      simp (disch := omega) only [↓reduceIte, go_sem, hx, hlt, oo, hfl, g, ml, mt, md, kl, kt, k0l, ckC_one, hw] <;> repeat with_reducible refine And.intro (by first | omega | decide) ?_
      exact rnd_next (n + 1) (by omega) (by show d.length - (n + 1) < d.length - n; omega) rfl (by rw [hst])
  · have hn2 : n = d.length - 1 := by omega
    simp (disch := omega) only [↓reduceIte, go_sem, hlt] <;> repeat with_reducible refine And.intro (by first | omega | decide) ?_
    refine go 200 (fun _ => false) mixed ?_
    simp (disch := omega) only [↓reduceIte, go_sem, ml, mt, k0l, k0d, ckC_one] <;> repeat with_reducible refine And.intro (by first | omega | decide) ?_
    refine EndsD.same (r := .agg (ckC (mnD c d n))) (.inr rfl) (by simp (disch := omega) only [↓reduceIte, go_sem, ml, mt] <;> repeat with_reducible refine And.intro (by first | omega | decide) ?_) ⟨by rw [hn2], _, rfl⟩

theorem sortedC_strict {ks : List OCKey} (hn : (ks.map (·.1)).Nodup) (hs : ∀ a b, a < b → b < ks.length → ltOf (fun x y : OCKey => cmpC x.1 y.1) (ks.getD b default) (ks.getD a default) = false) : (ks.map (·.1)).Pairwise ltC := by
  rw [List.pairwise_iff_getElem]
  intro i j hi hj hij
  rw [List.length_map] at hi hj
  have h := hs i j hij hj
  rw [show ks.getD i default = ks[i] by simp [List.getD_eq_getElem?_getD, hi], show ks.getD j default = ks[j] by simp [List.getD_eq_getElem?_getD, hj]] at h
  unfold ltOf at h
  simp only [decide_eq_false_iff_not] at h
  simp only [List.getElem_map]
  refine ltC_of_ge h fun e => ?_
  have := (List.pairwise_iff_getElem.mp hn) i j (by simpa using hi) (by simpa using hj) hij
  simp only [List.getElem_map] at this
  exact this e.symm

end Go.Proofs.GoC
