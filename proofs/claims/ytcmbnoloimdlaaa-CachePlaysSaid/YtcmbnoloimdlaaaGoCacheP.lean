/-
  A cache's entries as lists: the row of keys, and which one is let go. No claim by itself. (Printed by mkcache.py.)
-/
import Derived.Test.YtcmbnoloimdlaaaGoCache5
namespace Go.Proofs.GoC
open Go Go.Proofs.SL
set_option linter.unusedSimpArgs false
set_option linter.unusedVariables false
set_option maxRecDepth 10000
set_option maxHeartbeats 4000000
def ent0 : CKey × Ent := (ck0, ⟨[], 0⟩)
def idxC (k : CKey) : Ents → Nat → Int
  | [], _ => -1
  | e :: gs, i => if e.1 = k then i else idxC k gs (i + 1)
theorem idxC_step {k : CKey} {gs : Ents} {i : Nat} (h : i < gs.length) : idxC k (gs.drop i) i = if (gs.getD i ent0).1 = k then (i : Int) else idxC k (gs.drop (i + 1)) (i + 1) := by
  rw [List.drop_eq_getElem_cons h, idxC]
  simp [List.getD_eq_getElem?_getD, h]

/-- Ents, one put in its place in the row. -/
def insC (k : CKey) (u : Ent) (gs : Ents) : Nat → Ents
  | 0 => (k, u) :: gs
  | n + 1 => if cmpC k (gs.getD n ent0).1 < 0 then insC k u gs n else gs.take (n + 1) ++ (k, u) :: gs.drop (n + 1)
theorem idxC_lt2 {k : CKey} : ∀ {gs : Ents} {i : Nat}, 0 ≤ idxC k gs i → (idxC k gs i).toNat < i + gs.length
  | [], i, h => by simp [idxC] at h
  | e :: gs, i, h => by
    unfold idxC at h ⊢
    by_cases he : e.1 = k
    · rw [if_pos he]; simp
    · rw [if_neg he] at h ⊢
      have := idxC_lt2 h
      simp only [List.length_cons]; omega
theorem idxC_lt {k : CKey} {gs : Ents} (h : 0 ≤ idxC k gs 0) : (idxC k gs 0).toNat < gs.length := by have := idxC_lt2 h; omega
/-- Those that are not over. -/
def liveC (now : Int) (gs : Ents) : Ents := gs.filter fun e => decide (now < e.2.til)
theorem liveC_step {now : Int} {gs : Ents} {i : Nat} (h : i < gs.length) : liveC now (gs.take (i + 1)) = liveC now (gs.take i) ++ (if now < (gs.getD i ent0).2.til then [gs.getD i ent0] else []) := by
  have e1 : gs.getD i ent0 = gs[i] := by simp [List.getD_eq_getElem?_getD, h]
  rw [List.take_succ_eq_append_getElem h, e1]
  unfold liveC
  rw [List.filter_append]
  congr 1
  by_cases hp : now < gs[i].2.til <;> simp [hp]
/-- Of the first so many the first one whose until is least. -/
def bestC (gs : Ents) : Nat → Nat
  | 0 => 0
  | n + 1 => if (gs.getD n ent0).2.til < (gs.getD (bestC gs n) ent0).2.til then n else bestC gs n
theorem bestC_lt {gs : Ents} : ∀ {n : Nat}, 0 < gs.length → n ≤ gs.length → bestC gs n < gs.length
  | 0, h, _ => h
  | n + 1, h, hn => by
    unfold bestC
    split
    · omega
    · exact bestC_lt h (by omega)
def cutC (gs : Ents) (i : Nat) : Ents := gs.take i ++ gs.drop (i + 1)
theorem cutC_ok {gs : Ents} {i : Nat} (h : EntsOk gs) : EntsOk (cutC gs i) := by
  intro e he
  rcases List.mem_append.mp he with he | he
  · exact h e (List.mem_of_mem_take he)
  · exact h e (List.mem_of_mem_drop he)
theorem cutC_len {gs : Ents} {i : Nat} : (cutC gs i).length ≤ gs.length := by
  simp only [cutC, List.length_append, List.length_take, List.length_drop]; omega
/-- What Put makes of the grants ahead of the new one; what it lets go. -/
def midC (room : Int) (gs : Ents) (k : CKey) (now : Int) : Ents × (CKey × Ent) × Bool :=
  if 0 ≤ idxC k gs 0 then (cutC gs (idxC k gs 0).toNat, ent0, false)
  else if (gs.length : Int) = room then
    if ((liveC now gs).length : Int) = room then (cutC gs (bestC gs gs.length), gs.getD (bestC gs gs.length) ent0, true)
    else (liveC now gs, ent0, false)
  else (gs, ent0, false)
def putC (room : Int) (gs : Ents) (k : CKey) (u : Ent) (now : Int) : Ents × (CKey × Ent) × Bool :=
  (insC k u (midC room gs k now).1 (midC room gs k now).1.length, (midC room gs k now).2.1, (midC room gs k now).2.2)

theorem putCa_ok {k : CKey} {u : Ent} (hk : AdsOk u.l) : ∀ {es : Ents}, EntsOk es → EntsOk (putA k u es)
  | [], h => by intro e he; simp only [putA, List.mem_singleton] at he; subst he; exact hk
  | e :: es, h => by
    intro x hx
    unfold putA at hx
    split at hx
    · rcases List.mem_cons.mp hx with rfl | hx
      · exact hk
      · exact h x (List.mem_cons_of_mem _ hx)
    · rcases List.mem_cons.mp hx with rfl | hx
      · exact h _ (by simp)
      · exact putCa_ok hk (fun y hy => h y (List.mem_cons_of_mem _ hy)) x hx

theorem insC_perm {k : CKey} {u : Ent} {gl : Ents} : ∀ {n : Nat}, (insC k u gl n).Perm ((k, u) :: gl)
  | 0 => List.Perm.refl _
  | n + 1 => by
    unfold insC
    split
    · exact insC_perm
    · refine List.perm_middle.trans (List.Perm.cons _ ?_)
      rw [List.take_append_drop]
theorem idxC_none {k : CKey} : ∀ {gs : Ents} {i : Nat}, k ∉ gs.map (·.1) → idxC k gs i = -1
  | [], _, _ => rfl
  | e :: gs, i, h => by
    rw [List.map_cons, List.mem_cons, not_or] at h
    rw [idxC, if_neg (fun h2 => h.1 h2.symm)]
    exact idxC_none h.2
theorem idxC_cut {k : CKey} : ∀ {gs : Ents} {i : Nat}, (gs.map (·.1)).Nodup → k ∈ gs.map (·.1) → ∃ j : Nat, idxC k gs i = ((i + j : Nat) : Int) ∧ gs.take j ++ gs.drop (j + 1) = noK k gs
  | [], _, _, h => by cases h
  | e :: gs, i, hn, h => by
    rw [List.map_cons, List.nodup_cons] at hn
    by_cases he : e.1 = k
    · refine ⟨0, by rw [idxC, if_pos he]; rfl, ?_⟩
      have : noK k (e :: gs) = gs := by
        unfold noK
        rw [List.filter_cons, if_neg (by simp [he])]
        exact noK_self (k := k) (he ▸ hn.1)
      rw [this]; rfl
    · have hm : k ∈ gs.map (·.1) := by
        rcases List.mem_cons.mp h with h | h
        · exact absurd h.symm he
        · exact h
      obtain ⟨j, h1, h2⟩ := idxC_cut (i := i + 1) hn.2 hm
      refine ⟨j + 1, by rw [idxC, if_neg he, h1]; congr 1; omega, ?_⟩
      have : noK k (e :: gs) = e :: noK k gs := by
        unfold noK
        rw [List.filter_cons, if_pos (by simpa using he)]
      rw [this, ← h2]; rfl
/-- What the document puts where there is room. -/
theorem putC_room {room : Int} {gs : Ents} {k : CKey} {u : Ent} {now : Int} (hn : (gs.map (·.1)).Nodup) (hr : k ∈ gs.map (·.1) ∨ (gs.length : Int) ≠ room) : (putC room gs k u now).1.Perm ((k, u) :: noK k gs) ∧ (putC room gs k u now).2 = (ent0, false) := by
  unfold putC
  by_cases hk : k ∈ gs.map (·.1)
  · obtain ⟨j, h1, h2⟩ := idxC_cut (i := 0) hn hk
    have hm : midC room gs k now = (noK k gs, ent0, false) := by
      unfold midC
      rw [if_pos (by rw [h1]; omega), h1]
      simp only [Nat.zero_add, Int.toNat_natCast]
      rw [cutC, h2]
    rw [hm]
    exact ⟨insC_perm, rfl⟩
  · have hm : midC room gs k now = (noK k gs, ent0, false) := by
      unfold midC
      rw [idxC_none hk, if_neg (by decide), if_neg (hr.resolve_left hk), noK_self hk]
    rw [hm]
    exact ⟨insC_perm, rfl⟩

/-- The book's grants and the document's. -/
structure Two (es gs : Ents) : Prop where
  perm : es.Perm gs
  nodup : (es.map (·.1)).Nodup
  ok : EntsOk es
theorem Two.nodup2 {es gs : Ents} (h : Two es gs) : (gs.map (·.1)).Nodup := (h.perm.map _).nodup_iff.mp h.nodup
theorem Two.ok2 {es gs : Ents} (h : Two es gs) : EntsOk gs := fun e he => h.ok e (h.perm.mem_iff.mpr he)
theorem noKC_perm {k : CKey} {es gs : Ents} (h : es.Perm gs) : (noK k es).Perm (noK k gs) := h.filter _
theorem Two.put {es gs : Ents} (h : Two es gs) {k : CKey} {u : Ent} (hk : AdsOk u.l) {room : Int} {now : Int} (hr : k ∈ gs.map (·.1) ∨ (gs.length : Int) ≠ room) : Two (putA k u es) (putC room gs k u now).1 :=
  ⟨(put_perm h.nodup).trans ((((noKC_perm h.perm).cons _)).trans (putC_room h.nodup2 hr).1.symm), put_nodup h.nodup, putCa_ok hk h.ok⟩
theorem Two.nil : Two [] [] := ⟨List.Perm.refl _, List.nodup_nil, by intro e he; cases he⟩
theorem Two.len {es gs : Ents} (h : Two es gs) : es.length = gs.length := h.perm.length_eq
def SortedC (gs : Ents) : Prop := (gs.map (·.1)).Pairwise ltC
theorem SortedC.sub {a b : Ents} (h : SortedC b) (hs : a.Sublist b) : SortedC a := List.Pairwise.sublist (hs.map _) h
theorem cutC_sub {gs : Ents} {i : Nat} : (cutC gs i).Sublist gs := by
  have h : (gs.take i ++ gs.drop (i + 1)).Sublist (gs.take i ++ gs.drop i) := List.Sublist.append (List.Sublist.refl _) (List.drop_sublist_drop_left _ (Nat.le_succ i))
  rw [List.take_append_drop] at h
  exact h
theorem cutC_noK {gs : Ents} (hn : (gs.map (·.1)).Nodup) {i : Nat} (hi : i < gs.length) : cutC gs i = noK (gs.getD i ent0).1 gs := by
  have h2 : gs.getD i ent0 = gs[i] := by simp [List.getD_eq_getElem?_getD, hi]
  rw [h2]
  have e : gs = gs.take i ++ gs[i] :: gs.drop (i + 1) := by rw [← List.drop_eq_getElem_cons hi, List.take_append_drop]
  generalize gs[i] = x at *
  have hn' := hn
  rw [e, List.map_append, List.map_cons, List.nodup_append, List.nodup_cons] at hn'
  have h1 : x.1 ∉ (gs.take i).map (·.1) := fun hm => hn'.2.2 x.1 hm x.1 (List.mem_cons_self ..) rfl
  unfold cutC
  conv => rhs; rw [e]
  unfold noK
  rw [List.filter_append, List.filter_cons_of_neg (by simp)]
  have f1 := noK_self h1
  have f2 := noK_self hn'.2.1.1
  unfold noK at f1 f2
  rw [f1, f2]
theorem sortedC_split {a b : Ents} (h : SortedC (a ++ b)) : ∀ x ∈ a, ∀ y ∈ b, ltC x.1 y.1 := fun x hx y hy => by
  unfold SortedC at h
  rw [List.map_append, List.pairwise_append] at h
  exact h.2.2 x.1 (List.mem_map_of_mem hx) y.1 (List.mem_map_of_mem hy)
theorem insC_sorted {k : CKey} {u : Ent} {gl : Ents} (hs : SortedC gl) (hk : k ∉ gl.map (·.1)) : ∀ {n : Nat}, n ≤ gl.length → (∀ e ∈ gl.drop n, ltC k e.1) → SortedC (insC k u gl n)
  | 0, _, h => by
    unfold insC SortedC
    rw [List.map_cons, List.pairwise_cons]
    refine ⟨fun x hx => ?_, hs⟩
    obtain ⟨e, he, rfl⟩ := List.mem_map.mp hx
    exact h e (by rwa [List.drop_zero])
  | n + 1, hn, h => by
    have hlt : n < gl.length := hn
    have hg : gl.getD n ent0 = gl[n] := by simp [List.getD_eq_getElem?_getD, hlt]
    unfold insC
    rw [hg]
    split
    · rename_i hc
      refine insC_sorted hs hk (by omega) fun e he => ?_
      rw [List.drop_eq_getElem_cons hlt] at he
      rcases List.mem_cons.mp he with rfl | he
      · exact hc
      · exact h e he
    · rename_i hc
      have hm : gl[n] ∈ gl := List.getElem_mem hlt
      have hl : ltC gl[n].1 k := ltC_of_ge hc fun e => hk (e ▸ List.mem_map_of_mem (f := fun e : CKey × Ent => e.1) hm)
      have htd : gl = gl.take (n + 1) ++ gl.drop (n + 1) := (List.take_append_drop ..).symm
      have hs2 : SortedC (gl.take (n + 1) ++ gl.drop (n + 1)) := by rw [← htd]; exact hs
      have hx := sortedC_split hs2
      have htk : gl.take (n + 1) = gl.take n ++ [gl[n]] := List.take_succ_eq_append_getElem hlt
      have hs3 : SortedC (gl.take n ++ [gl[n]]) := by rw [← htk]; exact hs.sub (List.take_sublist ..)
      have hy := sortedC_split hs3
      have hbelow : ∀ e ∈ gl.take (n + 1), ltC e.1 k := fun e he => by
        rw [htk] at he
        rcases List.mem_append.mp he with he | he
        · exact ltC_trans (hy e he _ (List.mem_singleton_self _)) hl
        · rw [List.mem_singleton.mp he]; exact hl
      unfold SortedC
      rw [List.map_append, List.map_cons, List.pairwise_append, List.pairwise_cons]
      refine ⟨hs.sub (List.take_sublist ..), ⟨fun x hx2 => ?_, hs.sub (List.drop_sublist ..)⟩, fun x hx1 y hy1 => ?_⟩
      · obtain ⟨e, he, rfl⟩ := List.mem_map.mp hx2
        exact h e he
      · obtain ⟨e, he, rfl⟩ := List.mem_map.mp hx1
        rcases List.mem_cons.mp hy1 with rfl | hy1
        · exact hbelow e he
        · obtain ⟨f, hf, rfl⟩ := List.mem_map.mp hy1
          exact hx e he f hf

/-- Of the grants the one that ends first, of several the first in the row. -/
def LeastC (es : Ents) (k : CKey) : Prop := ∃ u, (k, u) ∈ es ∧ ∀ e ∈ es, u.til < e.2.til ∨ (u.til = e.2.til ∧ cmpC k e.1 ≤ 0)
theorem LeastC.one {es : Ents} {k l : CKey} (h1 : LeastC es k) (h2 : LeastC es l) : k = l := by
  obtain ⟨u, a1, b1⟩ := h1
  obtain ⟨v, a2, b2⟩ := h2
  have c1 := b1 _ a2
  have c2 := b2 _ a1
  dsimp only at c1 c2
  have h := cmpC_ord.neg k l
  exact (cmpC_ord.zero k l).mp (by omega)
theorem LeastC.perm {es gs : Ents} {k : CKey} (h : LeastC es k) (hp : es.Perm gs) : LeastC gs k := by
  obtain ⟨u, a, b⟩ := h
  exact ⟨u, hp.mem_iff.mp a, fun e he => b e (hp.mem_iff.mpr he)⟩
theorem LeastC.mem {es : Ents} {k : CKey} (h : LeastC es k) : k ∈ es.map (·.1) := by
  obtain ⟨u, a, b⟩ := h
  exact List.mem_map_of_mem (f := fun e : CKey × Ent => e.1) a
theorem bestC_le {gs : Ents} : ∀ {n : Nat}, bestC gs n ≤ n
  | 0 => Nat.le_refl _
  | n + 1 => by
    unfold bestC
    split
    · omega
    · have := bestC_le (gs := gs) (n := n); omega
theorem bestC_first {gs : Ents} : ∀ {n : Nat}, ∀ i < n, (gs.getD (bestC gs n) ent0).2.til < (gs.getD i ent0).2.til ∨ ((gs.getD (bestC gs n) ent0).2.til = (gs.getD i ent0).2.til ∧ bestC gs n ≤ i)
  | 0, i, h => by omega
  | n + 1, i, h => by
    have ih := bestC_first (gs := gs) (n := n)
    have hle := bestC_le (gs := gs) (n := n)
    unfold bestC
    split
    · rename_i hc
      by_cases hi : i = n
      · subst hi; exact .inr ⟨rfl, Nat.le_refl _⟩
      · have := ih i (by omega); exact .inl (by omega)
    · rename_i hc
      by_cases hi : i = n
      · subst hi
        by_cases he : (gs.getD (bestC gs i) ent0).2.til = (gs.getD i ent0).2.til
        · exact .inr ⟨he, hle⟩
        · exact .inl (by omega)
      · exact ih i (by omega)
theorem bestC_least {gs : Ents} (hs : SortedC gs) (h0 : 0 < gs.length) : LeastC gs (gs.getD (bestC gs gs.length) ent0).1 := by
  have hb := bestC_lt (n := gs.length) h0 (Nat.le_refl _)
  have hf := bestC_first (gs := gs) (n := gs.length)
  generalize bestC gs gs.length = b at *
  have eb : gs.getD b ent0 = gs[b] := by simp [List.getD_eq_getElem?_getD, hb]
  refine ⟨(gs.getD b ent0).2, by rw [eb]; exact List.getElem_mem hb, fun e he => ?_⟩
  obtain ⟨i, hi, rfl⟩ := List.getElem_of_mem he
  have ei : gs.getD i ent0 = gs[i] := by simp [List.getD_eq_getElem?_getD, hi]
  have h := hf i hi
  rw [ei] at h
  rcases h with h | ⟨h, hle⟩
  · exact .inl h
  · refine .inr ⟨h, ?_⟩
    rw [eb]
    by_cases hbi : b = i
    · subst hbi; exact Int.le_of_eq ((cmpC_ord.zero _ _).mpr rfl)
    · have hp := (List.pairwise_iff_getElem.mp hs) b i (by simpa using hb) (by simpa using hi) (by omega)
      simp only [List.getElem_map] at hp
      exact Int.le_of_lt hp

theorem til_mem {es : Ents} (hn : (es.map (·.1)).Nodup) {e : CKey × Ent} (he : e ∈ es) : (tilF e.1 es).1 = e.2.til := by
  unfold tilF
  rw [(find_mem hn).mpr (show (e.1, e.2) ∈ es from he)]
theorem mnC_least {es : Ents} {d : List CKey} (hn : (es.map (·.1)).Nodup) (hp : d.Perm (es.map (·.1))) (hs : d.Pairwise ltC) (h0 : 0 < d.length) : LeastC es (mnD (fun x y => cmpI (tilF x es).1 (tilF y es).1) d (d.length - 1)) := by
  obtain ⟨m, hm, e, hf⟩ := mnC_first (u := fun x => (tilF x es).1) (d := d) (n := d.length - 1)
  have hml : m < d.length := by omega
  rw [e]
  have em : d.getD m ck0 = d[m] := by simp [List.getD_eq_getElem?_getD, hml]
  obtain ⟨x, hx, hx1⟩ := List.mem_map.mp (hp.mem_iff.mp (List.getElem_mem hml))
  refine ⟨x.2, by rw [em, ← hx1]; exact hx, fun y hy => ?_⟩
  obtain ⟨i, hi, hiy⟩ := List.getElem_of_mem (hp.mem_iff.mpr (List.mem_map_of_mem (f := fun e : CKey × Ent => e.1) hy))
  have ei : d.getD i ck0 = d[i] := by simp [List.getD_eq_getElem?_getD, hi]
  have h := hf i (by omega)
  rw [em, ei, ← hx1, hiy, til_mem hn hx, til_mem hn hy] at h
  rcases h with h | ⟨h, hle⟩
  · exact .inl h
  · refine .inr ⟨h, ?_⟩
    rw [em, ← hiy]
    by_cases hmi : m = i
    · subst hmi; exact Int.le_of_eq ((cmpC_ord.zero _ _).mpr rfl)
    · exact Int.le_of_lt ((List.pairwise_iff_getElem.mp hs) m i hml hi (by omega))
theorem delC_noK {k : CKey} : ∀ {es : Ents}, (es.map (·.1)).Nodup → delA k es = noK k es
  | [], _ => rfl
  | e :: es, hn => by
    rw [List.map_cons, List.nodup_cons] at hn
    unfold delA noK
    by_cases h : k = e.1
    · rw [if_pos h, List.filter_cons_of_neg (by simp [h])]
      have := noK_self (l := es) (h ▸ hn.1 : k ∉ es.map (·.1))
      unfold noK at this
      exact this.symm
    · rw [if_neg h, List.filter_cons_of_pos (by simpa using fun h2 => h h2.symm), delC_noK hn.2]
      rfl

/-- What is let go ahead of one more. -/
def MkRoomC (es : Ents) (now : Int) (es' : Ents) (g : CKey) (b : Bool) : Prop :=
  (es' = es.filter (fun e => !decide (e.2.til ≤ now)) ∧ es'.length < es.length ∧ g = ck0 ∧ b = false) ∨ ((∀ e ∈ es, now < e.2.til) ∧ LeastC es g ∧ es' = noK g es ∧ b = true)
/-- The book's grants and the document's, in the row of keys. -/
structure Three (room : Int) (es gs : Ents) : Prop where
  two : Two es gs
  row : SortedC gs
  len : (gs.length : Int) ≤ room
theorem liveC_eq {now : Int} {es : Ents} : es.filter (fun e => !decide (e.2.til ≤ now)) = liveC now es := by
  unfold liveC
  congr 1; funext e
  by_cases h : now < e.2.til
  · simp [h, show ¬ e.2.til ≤ now by omega]
  · simp [h, show e.2.til ≤ now by omega]
theorem Three.full {room : Int} {es gs es' : Ents} {k g : CKey} {u : Ent} {now : Int} {b : Bool} (h : Three room es gs) (hk : AdsOk u.l) (hr : 1 ≤ room) (hkn : k ∉ gs.map (·.1)) (hfull : (gs.length : Int) = room) (hm : MkRoomC es now es' g b) :
    ((putC room gs k u now).2.1.1 = g ∧ (putC room gs k u now).2.2 = b) ∧ Three room (putA k u es') (putC room gs k u now).1 := by
  have hn2 := h.two.nodup2
  have h0 : 0 < gs.length := by omega
  have hidx : ¬ 0 ≤ idxC k gs 0 := by rw [idxC_none hkn]; decide
  rcases hm with ⟨rfl, hlt, rfl, rfl⟩ | ⟨hall, hleast, rfl, rfl⟩
  · have hpl : (es.filter fun e => !decide (e.2.til ≤ now)).Perm (liveC now gs) := by rw [liveC_eq]; exact h.two.perm.filter _
    have hll : (liveC now gs).length < gs.length := by rw [← hpl.length_eq, ← h.two.len]; exact hlt
    have hsub : (liveC now gs).Sublist gs := List.filter_sublist
    have hmid : midC room gs k now = (liveC now gs, ent0, false) := by
      unfold midC
      rw [if_neg hidx, if_pos hfull, if_neg (by omega)]
    have hkl : k ∉ (liveC now gs).map (·.1) := fun hx => hkn ((hsub.map _).subset hx)
    have hkf : k ∉ (es.filter fun e => !decide (e.2.til ≤ now)).map (·.1) := fun hx => hkl ((hpl.map _).mem_iff.mp hx)
    have hnf : ((es.filter fun e => !decide (e.2.til ≤ now)).map (·.1)).Nodup := h.two.nodup.sublist ((List.filter_sublist).map _)
    have hput : putC room gs k u now = (insC k u (liveC now gs) (liveC now gs).length, ent0, false) := by
      unfold putC
      rw [hmid]
    rw [hput]
    refine ⟨⟨rfl, rfl⟩, ⟨?_, put_nodup hnf, putCa_ok hk fun e he => h.two.ok e (List.mem_filter.mp he).1⟩, insC_sorted (h.row.sub hsub) hkl (Nat.le_refl _) (by simp), ?_⟩
    · have p1 := put_perm (k := k) (x := u) hnf
      rw [noK_self hkf] at p1
      exact p1.trans ((hpl.cons _).trans insC_perm.symm)
    · have := (insC_perm (k := k) (u := u) (gl := liveC now gs) (n := (liveC now gs).length)).length_eq
      simp only [List.length_cons] at this
      show ((insC k u (liveC now gs) (liveC now gs).length).length : Int) ≤ room
      omega
  · have hlg : liveC now gs = gs := List.filter_eq_self.mpr fun e he => decide_eq_true (hall e (h.two.perm.mem_iff.mpr he))
    have hb := bestC_lt (n := gs.length) h0 (Nat.le_refl _)
    have hgl : g = (gs.getD (bestC gs gs.length) ent0).1 := (hleast.perm h.two.perm).one (bestC_least h.row h0)
    have hcut := cutC_noK hn2 hb
    rw [← hgl] at hcut
    have hmid : midC room gs k now = (noK g gs, gs.getD (bestC gs gs.length) ent0, true) := by
      unfold midC
      rw [if_neg hidx, if_pos hfull, hlg, if_pos hfull, hcut, hgl]
    have hput : putC room gs k u now = (insC k u (noK g gs) (noK g gs).length, gs.getD (bestC gs gs.length) ent0, true) := by
      unfold putC
      rw [hmid]
    have hkl : k ∉ (noK g gs).map (·.1) := fun hx => hkn (((List.filter_sublist).map _).subset hx)
    have hpn := noKC_perm (k := g) h.two.perm
    have hkf : k ∉ (noK g es).map (·.1) := fun hx => hkl ((hpn.map _).mem_iff.mp hx)
    rw [hput]
    have hl2 : (noK g gs).length < gs.length := by
      rw [← hcut]
      simp only [cutC, List.length_append, List.length_take, List.length_drop]
      omega
    refine ⟨⟨hgl.symm, rfl⟩, ⟨?_, put_nodup (noK_nodup h.two.nodup), putCa_ok hk fun e he => h.two.ok e (List.mem_filter.mp he).1⟩, insC_sorted (gl := noK g gs) (h.row.sub List.filter_sublist) hkl (Nat.le_refl _) (fun e he => by rw [List.drop_eq_nil_of_le (Nat.le_refl (noK _ gs).length)] at he; cases he), ?_⟩
    · have p1 := put_perm (k := k) (x := u) (noK_nodup (k := g) h.two.nodup)
      rw [noK_self hkf] at p1
      exact p1.trans ((hpn.cons _).trans insC_perm.symm)
    · have := (insC_perm (k := k) (u := u) (gl := noK g gs) (n := (noK g gs).length)).length_eq
      simp only [List.length_cons] at this
      show ((insC k u (noK g gs) (noK g gs).length).length : Int) ≤ room
      omega
theorem Three.put {room : Int} {es gs : Ents} {k : CKey} {u : Ent} {now : Int} (h : Three room es gs) (hk : AdsOk u.l) (hr : k ∈ gs.map (·.1) ∨ (gs.length : Int) ≠ room) :
    (putC room gs k u now).2 = (ent0, false) ∧ Three room (putA k u es) (putC room gs k u now).1 := by
  have hn2 := h.two.nodup2
  have hp := putC_room hn2 hr (now := now) (u := u)
  have hmid : ∃ r, midC room gs k now = (noK k gs, r) := by
    unfold midC
    by_cases hki : k ∈ gs.map (·.1)
    · obtain ⟨j, h1, h2⟩ := idxC_cut (i := 0) hn2 hki
      rw [if_pos (by rw [h1]; omega), h1]
      simp only [Nat.zero_add, Int.toNat_natCast]
      rw [cutC, h2]
      exact ⟨_, rfl⟩
    · rw [idxC_none hki, if_neg (by decide), if_neg (hr.resolve_left hki), noK_self hki]
      exact ⟨_, rfl⟩
  obtain ⟨r, hmid⟩ := hmid
  have hput : (putC room gs k u now).1 = insC k u (noK k gs) (noK k gs).length := by
    unfold putC
    rw [hmid]
  refine ⟨hp.2, h.two.put hk hr, ?_, ?_⟩
  · rw [hput]
    exact insC_sorted (gl := noK k gs) (h.row.sub List.filter_sublist) noK_not (Nat.le_refl _) (fun e he => by rw [List.drop_eq_nil_of_le (Nat.le_refl (noK _ gs).length)] at he; cases he)
  · have hl := hp.1.length_eq
    rw [List.length_cons] at hl
    have h2 := noK_len (k := k) (l := gs)
    by_cases hki : k ∈ gs.map (·.1)
    · obtain ⟨j, h1, h3⟩ := idxC_cut (i := 0) hn2 hki
      have hj := idxC_lt (k := k) (gs := gs) (by rw [h1]; omega)
      rw [h1] at hj
      simp only [Nat.zero_add, Int.toNat_natCast] at hj
      have : (noK k gs).length < gs.length := by
        rw [← h3]
        simp only [List.length_append, List.length_take, List.length_drop]
        omega
      have := h.len
      omega
    · have := h.len
      have := hr.resolve_left hki
      omega
theorem Three.nil {room : Int} (h : 0 ≤ room) : Three room [] [] := ⟨Two.nil, List.Pairwise.nil, h⟩
/-- A book's sorted keys are the document's. -/
theorem Three.keys {room : Int} {es gs : Ents} (h : Three room es gs) {ks : List CKey} (hp : ks.Perm (es.map (·.1))) (hs : ks.Pairwise ltC) : ks = gs.map (·.1) := rowC_one hs h.row (hp.trans (h.two.perm.map _))
end Go.Proofs.GoC
