/-
  Grants as lists: the row of keys, and which one is let go. No claim by itself.
-/
import Derived.Test.YtjjkidldccebjaaGoGrantG
namespace Go.Proofs.GoC
open Go Go.Proofs.SL
set_option linter.unusedSimpArgs false
set_option linter.unusedVariables false

def ltK (a b : GKey) : Prop := cmpK a b < 0
theorem ltK_trans {a b c : GKey} (h1 : ltK a b) (h2 : ltK b c) : ltK a c := by
  unfold ltK at *
  have h3 := cmpK_ord.trans a b c (by omega) (by omega)
  rcases Int.lt_or_eq_of_le h3 with h | h
  · exact h
  · have e := (cmpK_ord.zero a c).mp h
    have h4 := cmpK_ord.neg a b
    rw [e] at h4 h1
    omega
theorem ltK_irr {a : GKey} (h : ltK a a) : False := by
  unfold ltK at h
  rw [(cmpK_ord.zero a a).mpr rfl] at h
  omega
theorem ltK_asym {a b : GKey} (h1 : ltK a b) (h2 : ltK b a) : False := ltK_irr (ltK_trans h1 h2)
theorem ltK_of_ge {a b : GKey} (h : ¬ cmpK a b < 0) (hne : a ≠ b) : ltK b a := by
  unfold ltK
  have h1 := cmpK_ord.neg a b
  have h2 : cmpK a b ≠ 0 := fun e => hne ((cmpK_ord.zero a b).mp e)
  omega
/-- Two rows of the same keys are one. -/
theorem row_one : ∀ {l m : List GKey}, l.Pairwise ltK → m.Pairwise ltK → l.Perm m → l = m
  | [], m, _, _, hp => (List.nil_perm.mp hp).symm
  | a :: l, [], _, _, hp => by have := hp.length_eq; simp at this
  | a :: l, b :: m, h1, h2, hp => by
    rw [List.pairwise_cons] at h1 h2
    have hab : a = b := by
      by_cases h : a = b
      · exact h
      · have ha : a ∈ m := by
          rcases List.mem_cons.mp (hp.mem_iff.mp (List.mem_cons_self ..)) with h3 | h3
          · exact absurd h3 h
          · exact h3
        have hb : b ∈ l := by
          rcases List.mem_cons.mp (hp.mem_iff.mpr (List.mem_cons_self ..)) with h3 | h3
          · exact absurd h3.symm h
          · exact h3
        exact absurd (h2.1 a ha) fun h4 => ltK_asym (h1.1 b hb) h4
    subst hab
    rw [row_one h1.2 h2.2 (List.perm_cons a |>.mp hp)]
def SortedK (gs : Grants) : Prop := (gs.map (·.1)).Pairwise ltK
theorem SortedK.sub {a b : Grants} (h : SortedK b) (hs : a.Sublist b) : SortedK a := List.Pairwise.sublist (hs.map _) h
theorem cutI_sub {gs : Grants} {i : Nat} : (cutI gs i).Sublist gs := by
  have h : (gs.take i ++ gs.drop (i + 1)).Sublist (gs.take i ++ gs.drop i) := List.Sublist.append (List.Sublist.refl _) (List.drop_sublist_drop_left _ (Nat.le_succ i))
  rw [List.take_append_drop] at h
  exact h
theorem cut_noK {gs : Grants} (hn : (gs.map (·.1)).Nodup) {i : Nat} (hi : i < gs.length) : cutI gs i = noK (gs.getD i (key0, 0)).1 gs := by
  have h2 : gs.getD i (key0, 0) = gs[i] := by simp [List.getD_eq_getElem?_getD, hi]
  rw [h2]
  have e : gs = gs.take i ++ gs[i] :: gs.drop (i + 1) := by rw [← List.drop_eq_getElem_cons hi, List.take_append_drop]
  generalize gs[i] = x at *
  have hn' := hn
  rw [e, List.map_append, List.map_cons, List.nodup_append, List.nodup_cons] at hn'
  have h1 : x.1 ∉ (gs.take i).map (·.1) := fun hm => hn'.2.2 x.1 hm x.1 (List.mem_cons_self ..) rfl
  unfold cutI
  conv => rhs; rw [e]
  unfold noK
  rw [List.filter_append, List.filter_cons_of_neg (by simp)]
  have f1 := noK_self h1
  have f2 := noK_self hn'.2.1.1
  unfold noK at f1 f2
  rw [f1, f2]
theorem sorted_split {a b : Grants} (h : SortedK (a ++ b)) : ∀ x ∈ a, ∀ y ∈ b, ltK x.1 y.1 := fun x hx y hy => by
  unfold SortedK at h
  rw [List.map_append, List.pairwise_append] at h
  exact h.2.2 x.1 (List.mem_map_of_mem hx) y.1 (List.mem_map_of_mem hy)
theorem ins_sorted {k : GKey} {u : Int} {gl : Grants} (hs : SortedK gl) (hk : k ∉ gl.map (·.1)) : ∀ {n : Nat}, n ≤ gl.length → (∀ e ∈ gl.drop n, ltK k e.1) → SortedK (insG k u gl n)
  | 0, _, h => by
    unfold insG SortedK
    rw [List.map_cons, List.pairwise_cons]
    refine ⟨fun x hx => ?_, hs⟩
    obtain ⟨e, he, rfl⟩ := List.mem_map.mp hx
    exact h e (by rwa [List.drop_zero])
  | n + 1, hn, h => by
    have hlt : n < gl.length := hn
    have hg : gl.getD n (key0, 0) = gl[n] := by simp [List.getD_eq_getElem?_getD, hlt]
    unfold insG
    rw [hg]
    split
    · rename_i hc
      refine ins_sorted hs hk (by omega) fun e he => ?_
      rw [List.drop_eq_getElem_cons hlt] at he
      rcases List.mem_cons.mp he with rfl | he
      · exact hc
      · exact h e he
    · rename_i hc
      have hm : gl[n] ∈ gl := List.getElem_mem hlt
      have hl : ltK gl[n].1 k := ltK_of_ge hc fun e => hk (e ▸ List.mem_map_of_mem (f := fun e : GKey × Int => e.1) hm)
      have htd : gl = gl.take (n + 1) ++ gl.drop (n + 1) := (List.take_append_drop ..).symm
      have hs2 : SortedK (gl.take (n + 1) ++ gl.drop (n + 1)) := by rw [← htd]; exact hs
      have hx := sorted_split hs2
      have htk : gl.take (n + 1) = gl.take n ++ [gl[n]] := List.take_succ_eq_append_getElem hlt
      have hs3 : SortedK (gl.take n ++ [gl[n]]) := by rw [← htk]; exact hs.sub (List.take_sublist ..)
      have hy := sorted_split hs3
      have hbelow : ∀ e ∈ gl.take (n + 1), ltK e.1 k := fun e he => by
        rw [htk] at he
        rcases List.mem_append.mp he with he | he
        · exact ltK_trans (hy e he _ (List.mem_singleton_self _)) hl
        · rw [List.mem_singleton.mp he]; exact hl
      unfold SortedK
      rw [List.map_append, List.map_cons, List.pairwise_append, List.pairwise_cons]
      refine ⟨hs.sub (List.take_sublist ..), ⟨fun x hx2 => ?_, hs.sub (List.drop_sublist ..)⟩, fun x hx1 y hy1 => ?_⟩
      · obtain ⟨e, he, rfl⟩ := List.mem_map.mp hx2
        exact h e he
      · obtain ⟨e, he, rfl⟩ := List.mem_map.mp hx1
        rcases List.mem_cons.mp hy1 with rfl | hy1
        · exact hbelow e he
        · obtain ⟨f, hf, rfl⟩ := List.mem_map.mp hy1
          exact hx e he f hf

/-- Of the grants the one that ends first, of several the first in the row. -/
def LeastK (es : Grants) (k : GKey) : Prop := ∃ u, (k, u) ∈ es ∧ ∀ e ∈ es, u < e.2 ∨ (u = e.2 ∧ cmpK k e.1 ≤ 0)
theorem LeastK.one {es : Grants} {k l : GKey} (h1 : LeastK es k) (h2 : LeastK es l) : k = l := by
  obtain ⟨u, a1, b1⟩ := h1
  obtain ⟨v, a2, b2⟩ := h2
  have c1 := b1 _ a2
  have c2 := b2 _ a1
  dsimp only at c1 c2
  have h := cmpK_ord.neg k l
  exact (cmpK_ord.zero k l).mp (by omega)
theorem LeastK.perm {es gs : Grants} {k : GKey} (h : LeastK es k) (hp : es.Perm gs) : LeastK gs k := by
  obtain ⟨u, a, b⟩ := h
  exact ⟨u, hp.mem_iff.mp a, fun e he => b e (hp.mem_iff.mpr he)⟩
theorem LeastK.mem {es : Grants} {k : GKey} (h : LeastK es k) : k ∈ es.map (·.1) := by
  obtain ⟨u, a, b⟩ := h
  exact List.mem_map_of_mem (f := fun e : GKey × Int => e.1) a
theorem bestN_le {gs : Grants} : ∀ {n : Nat}, bestN gs n ≤ n
  | 0 => Nat.le_refl _
  | n + 1 => by
    unfold bestN
    split
    · omega
    · have := bestN_le (gs := gs) (n := n); omega
theorem bestN_first {gs : Grants} : ∀ {n : Nat}, ∀ i < n, (gs.getD (bestN gs n) (key0, 0)).2 < (gs.getD i (key0, 0)).2 ∨ ((gs.getD (bestN gs n) (key0, 0)).2 = (gs.getD i (key0, 0)).2 ∧ bestN gs n ≤ i)
  | 0, i, h => by omega
  | n + 1, i, h => by
    have ih := bestN_first (gs := gs) (n := n)
    have hle := bestN_le (gs := gs) (n := n)
    unfold bestN
    split
    · rename_i hc
      by_cases hi : i = n
      · subst hi; exact .inr ⟨rfl, Nat.le_refl _⟩
      · have := ih i (by omega); exact .inl (by omega)
    · rename_i hc
      by_cases hi : i = n
      · subst hi
        by_cases he : (gs.getD (bestN gs i) (key0, 0)).2 = (gs.getD i (key0, 0)).2
        · exact .inr ⟨he, hle⟩
        · exact .inl (by omega)
      · exact ih i (by omega)
theorem best_least {gs : Grants} (hs : SortedK gs) (h0 : 0 < gs.length) : LeastK gs (gs.getD (bestN gs gs.length) (key0, 0)).1 := by
  have hb := bestN_lt (n := gs.length) h0 (Nat.le_refl _)
  have hf := bestN_first (gs := gs) (n := gs.length)
  generalize bestN gs gs.length = b at *
  have eb : gs.getD b (key0, 0) = gs[b] := by simp [List.getD_eq_getElem?_getD, hb]
  refine ⟨(gs.getD b (key0, 0)).2, by rw [eb]; exact List.getElem_mem hb, fun e he => ?_⟩
  obtain ⟨i, hi, rfl⟩ := List.getElem_of_mem he
  have ei : gs.getD i (key0, 0) = gs[i] := by simp [List.getD_eq_getElem?_getD, hi]
  have h := hf i hi
  rw [ei] at h
  rcases h with h | ⟨h, hle⟩
  · exact .inl h
  · refine .inr ⟨h, ?_⟩
    rw [eb]
    by_cases hbi : b = i
    · subst hbi; exact Int.le_of_eq ((cmpK_ord.zero _ _).mpr rfl)
    · have hp := (List.pairwise_iff_getElem.mp hs) b i (by simpa using hb) (by simpa using hi) (by omega)
      simp only [List.getElem_map] at hp
      exact Int.le_of_lt hp

/-- What MinFunc tells of the first so many. -/
def mnC (c : GKey → GKey → Int) (d : List GKey) : Nat → GKey
  | 0 => d.getD 0 key0
  | n + 1 => if c (d.getD (n + 1) key0) (mnC c d n) < 0 then d.getD (n + 1) key0 else mnC c d n
theorem mnC_first {u : GKey → Int} {d : List GKey} : ∀ {n : Nat}, ∃ m ≤ n, mnC (fun x y => cmpI (u x) (u y)) d n = d.getD m key0 ∧ ∀ i ≤ n, u (d.getD m key0) < u (d.getD i key0) ∨ (u (d.getD m key0) = u (d.getD i key0) ∧ m ≤ i)
  | 0 => ⟨0, Nat.le_refl _, rfl, fun i hi => .inr ⟨by rw [Nat.le_zero.mp hi], Nat.zero_le _⟩⟩
  | n + 1 => by
    obtain ⟨m, hm, e, hf⟩ := mnC_first (u := u) (d := d) (n := n)
    have hc : (cmpI (u (d.getD (n + 1) key0)) (u (d.getD m key0)) < 0) ↔ u (d.getD (n + 1) key0) < u (d.getD m key0) := by
      unfold cmpI; split <;> (try split) <;> omega
    unfold mnC
    rw [e]
    by_cases h : u (d.getD (n + 1) key0) < u (d.getD m key0)
    · rw [if_pos (hc.mpr h)]
      refine ⟨n + 1, Nat.le_refl _, rfl, fun i hi => ?_⟩
      by_cases hin : i = n + 1
      · subst hin; exact .inr ⟨rfl, Nat.le_refl _⟩
      · have := hf i (by omega); exact .inl (by omega)
    · rw [if_neg (fun h2 => h (hc.mp h2))]
      refine ⟨m, by omega, rfl, fun i hi => ?_⟩
      by_cases hin : i = n + 1
      · subst hin
        by_cases he : u (d.getD m key0) = u (d.getD (n + 1) key0)
        · exact .inr ⟨he, by omega⟩
        · exact .inl (by omega)
      · exact hf i (by omega)
theorem until_mem {es : Grants} (hn : (es.map (·.1)).Nodup) {e : GKey × Int} (he : e ∈ es) : (untilF e.1 es).1 = e.2 := by
  unfold untilF
  rw [(find_mem hn).mpr (show (e.1, e.2) ∈ es from he)]
theorem mn_least {es : Grants} {d : List GKey} (hn : (es.map (·.1)).Nodup) (hp : d.Perm (es.map (·.1))) (hs : d.Pairwise ltK) (h0 : 0 < d.length) : LeastK es (mnC (fun x y => cmpI (untilF x es).1 (untilF y es).1) d (d.length - 1)) := by
  obtain ⟨m, hm, e, hf⟩ := mnC_first (u := fun x => (untilF x es).1) (d := d) (n := d.length - 1)
  have hml : m < d.length := by omega
  rw [e]
  have em : d.getD m key0 = d[m] := by simp [List.getD_eq_getElem?_getD, hml]
  obtain ⟨x, hx, hx1⟩ := List.mem_map.mp (hp.mem_iff.mp (List.getElem_mem hml))
  refine ⟨x.2, by rw [em, ← hx1]; exact hx, fun y hy => ?_⟩
  obtain ⟨i, hi, hiy⟩ := List.getElem_of_mem (hp.mem_iff.mpr (List.mem_map_of_mem (f := fun e : GKey × Int => e.1) hy))
  have ei : d.getD i key0 = d[i] := by simp [List.getD_eq_getElem?_getD, hi]
  have h := hf i (by omega)
  rw [em, ei, ← hx1, hiy, until_mem hn hx, until_mem hn hy] at h
  rcases h with h | ⟨h, hle⟩
  · exact .inl h
  · refine .inr ⟨h, ?_⟩
    rw [em, ← hiy]
    by_cases hmi : m = i
    · subst hmi; exact Int.le_of_eq ((cmpK_ord.zero _ _).mpr rfl)
    · exact Int.le_of_lt ((List.pairwise_iff_getElem.mp hs) m i hml hi (by omega))
theorem del_noK {k : GKey} : ∀ {es : Grants}, (es.map (·.1)).Nodup → delA k es = noK k es
  | [], _ => rfl
  | e :: es, hn => by
    rw [List.map_cons, List.nodup_cons] at hn
    unfold delA noK
    by_cases h : k = e.1
    · rw [if_pos h, List.filter_cons_of_neg (by simp [h])]
      have := noK_self (l := es) (h ▸ hn.1 : k ∉ es.map (·.1))
      unfold noK at this
      exact this.symm
    · rw [if_neg h, List.filter_cons_of_pos (by simpa using fun h2 => h h2.symm), del_noK hn.2]
      rfl

/-- What is let go ahead of one more. -/
def MkRoom (es : Grants) (now : Int) (es' : Grants) (g : GKey) (b : Bool) : Prop :=
  (es' = es.filter (fun e => !decide (e.2 ≤ now)) ∧ es'.length < es.length ∧ g = key0 ∧ b = false) ∨ ((∀ e ∈ es, now < e.2) ∧ LeastK es g ∧ es' = noK g es ∧ b = true)
/-- The book's grants and the document's, in the row of keys. -/
structure Same3 (room : Int) (es gs : Grants) : Prop where
  two : Same2 es gs
  row : SortedK gs
  len : (gs.length : Int) ≤ room
theorem live_eq {now : Int} {es : Grants} : es.filter (fun e => !decide (e.2 ≤ now)) = liveG now es := by
  unfold liveG
  congr 1; funext e
  by_cases h : now < e.2
  · simp [h, show ¬ e.2 ≤ now by omega]
  · simp [h, show e.2 ≤ now by omega]
theorem Same3.full {room : Int} {es gs es' : Grants} {k g : GKey} {u now : Int} {b : Bool} (h : Same3 room es gs) (hk : KeyOk k) (hu : now < u) (hr : 1 ≤ room) (hkn : k ∉ gs.map (·.1)) (hfull : (gs.length : Int) = room) (hm : MkRoom es now es' g b) :
    (putR room gs k u now).2 = (g, b) ∧ Same3 room (putA k u es') (putR room gs k u now).1 := by
  have hn2 := h.two.nodup2
  have h0 : 0 < gs.length := by omega
  have hidx : ¬ 0 ≤ idxA k gs 0 := by rw [idx_none hkn]; decide
  rcases hm with ⟨rfl, hlt, rfl, rfl⟩ | ⟨hall, hleast, rfl, rfl⟩
  · have hpl : (es.filter fun e => !decide (e.2 ≤ now)).Perm (liveG now gs) := by rw [live_eq]; exact h.two.perm.filter _
    have hll : (liveG now gs).length < gs.length := by rw [← hpl.length_eq, ← h.two.len]; exact hlt
    have hsub : (liveG now gs).Sublist gs := List.filter_sublist
    have hmid : midR room gs k now = (liveG now gs, key0, false) := by
      unfold midR
      rw [if_neg hidx, if_pos hfull, if_neg (by omega)]
    have hkl : k ∉ (liveG now gs).map (·.1) := fun hx => hkn ((hsub.map _).subset hx)
    have hkf : k ∉ (es.filter fun e => !decide (e.2 ≤ now)).map (·.1) := fun hx => hkl ((hpl.map _).mem_iff.mp hx)
    have hnf : ((es.filter fun e => !decide (e.2 ≤ now)).map (·.1)).Nodup := h.two.nodup.sublist ((List.filter_sublist).map _)
    have hput : putR room gs k u now = (insG k u (liveG now gs) (liveG now gs).length, key0, false) := by
      unfold putR
      rw [if_neg (by omega), hmid]
    rw [hput]
    refine ⟨rfl, ⟨?_, put_nodup hnf, put_ok hk fun e he => h.two.ok e (List.mem_filter.mp he).1⟩, ins_sorted (h.row.sub hsub) hkl (Nat.le_refl _) (by simp), ?_⟩
    · have p1 := put_perm (k := k) (x := u) hnf
      rw [noK_self hkf] at p1
      exact p1.trans ((hpl.cons _).trans ins_perm.symm)
    · have := (ins_perm (k := k) (u := u) (gl := liveG now gs) (n := (liveG now gs).length)).length_eq
      simp only [List.length_cons] at this
      show ((insG k u (liveG now gs) (liveG now gs).length).length : Int) ≤ room
      omega
  · have hlg : liveG now gs = gs := List.filter_eq_self.mpr fun e he => decide_eq_true (hall e (h.two.perm.mem_iff.mpr he))
    have hb := bestN_lt (n := gs.length) h0 (Nat.le_refl _)
    have hgl : g = (gs.getD (bestN gs gs.length) (key0, 0)).1 := (hleast.perm h.two.perm).one (best_least h.row h0)
    have hcut := cut_noK hn2 hb
    rw [← hgl] at hcut
    have hmid : midR room gs k now = (noK g gs, g, true) := by
      unfold midR
      rw [if_neg hidx, if_pos hfull, hlg, if_pos hfull, hcut, hgl]
    have hput : putR room gs k u now = (insG k u (noK g gs) (noK g gs).length, g, true) := by
      unfold putR
      rw [if_neg (by omega), hmid]
    have hkl : k ∉ (noK g gs).map (·.1) := fun hx => hkn (((List.filter_sublist).map _).subset hx)
    have hpn := noK_perm (k := g) h.two.perm
    have hkf : k ∉ (noK g es).map (·.1) := fun hx => hkl ((hpn.map _).mem_iff.mp hx)
    rw [hput]
    have hl2 : (noK g gs).length < gs.length := by
      rw [← hcut]
      simp only [cutI, List.length_append, List.length_take, List.length_drop]
      omega
    refine ⟨rfl, ⟨?_, put_nodup (noK_nodup h.two.nodup), put_ok hk fun e he => h.two.ok e (List.mem_filter.mp he).1⟩, ins_sorted (gl := noK g gs) (h.row.sub List.filter_sublist) hkl (Nat.le_refl _) (fun e he => by rw [List.drop_eq_nil_of_le (Nat.le_refl (noK _ gs).length)] at he; cases he), ?_⟩
    · have p1 := put_perm (k := k) (x := u) (noK_nodup (k := g) h.two.nodup)
      rw [noK_self hkf] at p1
      exact p1.trans ((hpn.cons _).trans ins_perm.symm)
    · have := (ins_perm (k := k) (u := u) (gl := noK g gs) (n := (noK g gs).length)).length_eq
      simp only [List.length_cons] at this
      show ((insG k u (noK g gs) (noK g gs).length).length : Int) ≤ room
      omega
theorem Same3.put {room : Int} {es gs : Grants} {k : GKey} {u now : Int} (h : Same3 room es gs) (hk : KeyOk k) (hu : now < u) (hr : k ∈ gs.map (·.1) ∨ (gs.length : Int) ≠ room) :
    (putR room gs k u now).2 = (key0, false) ∧ Same3 room (putA k u es) (putR room gs k u now).1 := by
  have hn2 := h.two.nodup2
  have hp := putR_room hn2 hu hr (now := now) (u := u)
  have hmid : ∃ r, midR room gs k now = (noK k gs, r) := by
    unfold midR
    by_cases hki : k ∈ gs.map (·.1)
    · obtain ⟨j, h1, h2⟩ := idx_cut (i := 0) hn2 hki
      rw [if_pos (by rw [h1]; omega), h1]
      simp only [Nat.zero_add, Int.toNat_natCast]
      rw [cutI, h2]
      exact ⟨_, rfl⟩
    · rw [idx_none hki, if_neg (by decide), if_neg (hr.resolve_left hki), noK_self hki]
      exact ⟨_, rfl⟩
  obtain ⟨r, hmid⟩ := hmid
  have hput : (putR room gs k u now).1 = insG k u (noK k gs) (noK k gs).length := by
    unfold putR
    rw [if_neg (by omega), hmid]
  refine ⟨hp.2, h.two.put hk hu hr, ?_, ?_⟩
  · rw [hput]
    exact ins_sorted (gl := noK k gs) (h.row.sub List.filter_sublist) noK_not (Nat.le_refl _) (fun e he => by rw [List.drop_eq_nil_of_le (Nat.le_refl (noK _ gs).length)] at he; cases he)
  · have hl := hp.1.length_eq
    rw [List.length_cons] at hl
    have h2 := noK_len (k := k) (l := gs)
    by_cases hki : k ∈ gs.map (·.1)
    · obtain ⟨j, h1, h3⟩ := idx_cut (i := 0) hn2 hki
      have hj := idxA_lt (k := k) (gs := gs) (by rw [h1]; omega)
      rw [h1] at hj
      simp only [Nat.zero_add, Int.toNat_natCast] at hj
      have : (noK k gs).length < gs.length := by
        rw [← h3]
        simp only [List.length_append, List.length_take, List.length_drop]
        omega
      have := h.len
      omega
    · have := h.len
      have := hr.resolve_left hki
      omega
theorem Same3.nil {room : Int} (h : 0 ≤ room) : Same3 room [] [] := ⟨Same2.nil, List.Pairwise.nil, h⟩
/-- A book's sorted keys are the document's. -/
theorem Same3.keys {room : Int} {es gs : Grants} (h : Same3 room es gs) {ks : List GKey} (hp : ks.Perm (es.map (·.1))) (hs : ks.Pairwise ltK) : ks = gs.map (·.1) := row_one hs h.row (hp.trans (h.two.perm.map _))
end Go.Proofs.GoC
