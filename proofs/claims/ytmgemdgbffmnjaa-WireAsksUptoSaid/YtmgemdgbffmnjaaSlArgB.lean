/-
  SL: what a law is handed, whose bulk is told. No claim by itself.
-/
import Derived.Test.YtmgemdgbffmnjaaSlArgN
import Derived.JoinedCond
namespace Go.Proofs.SL
open Go Go.RowKit
set_option linter.unusedSimpArgs false
set_option linter.unusedVariables false

/-- What counts values and letters. -/
structure BulkOk {H : Type} (bk : DataW H → Nat) : Prop where
  str : ∀ b : List UInt8, b.length ≤ bk (.lit (.string b))
  agg : ∀ (l : List (DataW H)), ∀ p ∈ l, bk p ≤ bk (.agg l)
  sl : ∀ l r : List (DataW H), l.length ≤ bk (.slice l r) ∧ ∀ p ∈ l, bk p ≤ bk (.slice l r)

section
variable {H : Type} {enc : TypeId × Value → H} {P : Program} {w w' : World} {base : Nat} {sp : Nat → Bool} {held : Bool}

theorem trod_fldsB {bk : DataW H → Nat} {g : TypeId → Option (List Tag)} {n : Nat} {cs : List Value} (IH : ∀ t l, g t = some l → l.length = P.cellsOf t → ∀ (cs : List Value) (x : DataW H × List MemPlace), DataW.trod enc P w base sp held n t cs = some x →
    ∃ ps : List PV, cs = ps.map valP ∧ ps.map tagP = l.map some ∧ (∀ p ∈ ps, wfP p) ∧ x.2 = [] ∧ ∀ s, PV.str s ∈ ps → s.size ≤ bk x.1) :
    ∀ (fs : List Field) (xs : List (DataW H × List MemPlace)) (o : Nat) (l : List Tag), tagsFs P g fs o = some l → xs.length = fs.length →
      (∀ (i : Nat) (f : Field), fs[i]? = some f → DataW.trod enc P w base sp held n f.type ((cs.drop f.offset).take (P.cellsOf f.type)) = xs[i]?) →
      ∃ ps : List PV, (cs.drop o).take l.length = ps.map valP ∧ ps.map tagP = l.map some ∧ (∀ p ∈ ps, wfP p) ∧ xs.flatMap (·.2) = [] ∧ ∀ s, PV.str s ∈ ps → ∃ y ∈ xs, s.size ≤ bk y.1
  | [], xs, o, l, hl, hxl, hx => by
    simp only [tagsFs, Option.some.injEq] at hl
    subst hl
    have : xs = [] := List.eq_nil_of_length_eq_zero hxl
    subst this
    exact ⟨[], by simp, by simp, by simp, by simp, by simp⟩
  | f :: fs, xs, o, l, hl, hxl, hx => by
    simp only [tagsFs] at hl
    split at hl
    · rename_i hf
      split at hl
      · rename_i lf hlf
        split at hl
        · rename_i hn
          split at hl
          · rename_i r hr
            cases hl
            cases xs with
            | nil => simp at hxl
            | cons y xs =>
              have h0 := hx 0 f rfl
              simp only [List.getElem?_cons_zero] at h0
              obtain ⟨qs, q1, q2, q3, q4, q5⟩ := IH _ _ hlf hn _ _ h0
              obtain ⟨ps, p1, p2, p3, p4, p5⟩ := trod_fldsB IH fs xs (o + lf.length) r hr (by simpa using hxl) (fun i f hf => by simpa using hx (i + 1) f (by simpa using hf))
              refine ⟨qs ++ ps, ?_, ?_, ?_, ?_, ?_⟩
              · rw [List.length_append, List.take_add, List.map_append, ← p1, ← q1, List.drop_drop, hf.1, hn]
              · rw [List.map_append, q2, p2, List.map_append]
              · intro p hp
                rcases List.mem_append.mp hp with h | h
                · exact q3 p h
                · exact p3 p h
              · rw [List.flatMap_cons, p4, q4]; rfl
              · intro s hs
                rcases List.mem_append.mp hs with h | h
                · exact ⟨y, by simp, q5 s h⟩
                · obtain ⟨z, hz, hle⟩ := p5 s h
                  exact ⟨z, List.mem_cons_of_mem _ hz, hle⟩
          · cases hl
        · cases hl
      · cases hl
    · cases hl

theorem trod_flatB {bk : DataW H → Nat} (hbk : BulkOk bk) : ∀ (m : Nat) (t : TypeId) (l : List Tag), tagsOf P m t = some l → l.length = P.cellsOf t → ∀ (n : Nat) (cs : List Value) (x : DataW H × List MemPlace), DataW.trod enc P w base sp held n t cs = some x →
    ∃ ps : List PV, cs = ps.map valP ∧ ps.map tagP = l.map some ∧ (∀ p ∈ ps, wfP p) ∧ x.2 = [] ∧ ∀ s, PV.str s ∈ ps → s.size ≤ bk x.1
  | 0, _, _, h => by simp [tagsOf] at h
  | m + 1, t, l, hl => by
    intro hlt n cs x h
    unfold tagsOf at hl
    cases hu : P.underlying t with
    | none => simp [hu] at hl
    | some u =>
      rw [hu] at hl
      cases u <;> simp only at hl <;> try (cases hl; done)
      case bool =>
        cases hl
        obtain ⟨b, rfl, rfl⟩ := DataW.trod_bool hu h
        exact ⟨[.bool b], rfl, rfl, by simp [wfP], rfl, by simp⟩
      case string =>
        cases hl
        obtain ⟨s, rfl, rfl, hs⟩ := DataW.trod_string hu h
        exact ⟨[.str s], rfl, rfl, by simpa [wfP] using hs, rfl, fun s' h => by
          have e : s' = s := by simpa using h
          subst e
          have := hbk.str s'.data.toList
          rw [Array.length_toList] at this
          have e2 : s'.data.size = s'.size := rfl
          show s'.size ≤ bk (.lit (.string s'.data.toList))
          omega⟩
      case int k =>
        cases hl
        obtain ⟨b, rfl, rfl, hw⟩ := DataW.trod_int hu h
        exact ⟨[.int k b], rfl, rfl, by simpa [wfP] using wf_in hw, rfl, by simp⟩
      case array k e =>
        split at hl
        · rename_i l' hl'
          split at hl
          · rename_i hn
            cases hl
            obtain ⟨xs, q, rfl, rfl, hlen, hxl, hx⟩ := DataW.trod_array hu h
            have hcell : cs.length = k * P.cellsOf e := by
              rw [hlen, ← hlt, List.length_flatten, List.map_replicate, List.sum_replicate_nat, hn]
            have key : ∀ j, j ≤ k → ∃ ps : List PV, cs.take (j * P.cellsOf e) = ps.map valP ∧ ps.map tagP = (List.replicate j l').flatten.map some ∧ (∀ p ∈ ps, wfP p) ∧ ((xs.take j).flatMap (·.2)) = [] ∧ ∀ s, PV.str s ∈ ps → ∃ y ∈ xs, s.size ≤ bk y.1 := by
              intro j
              induction j with
              | zero => intro _; exact ⟨[], by simp, by simp, by simp, by simp, by simp⟩
              | succ j ih =>
                intro hj
                obtain ⟨ps, p1, p2, p3, p4, p5⟩ := ih (by omega)
                have hxj : xs[j]? = some xs[j] := List.getElem?_eq_getElem (by omega)
                have h1 := hx j (by omega)
                rw [hxj] at h1
                obtain ⟨qs, q1, q2, q3, q4, q5⟩ := trod_flatB hbk m e l' hl' hn q _ _ h1
                refine ⟨ps ++ qs, ?_, ?_, ?_, ?_, ?_⟩
                · rw [Nat.succ_mul, List.take_add, p1, q1, List.map_append]
                · rw [List.map_append, p2, q2, List.replicate_succ', List.flatten_append, List.map_append]; simp
                · intro p hp
                  rcases List.mem_append.mp hp with h | h
                  · exact p3 p h
                  · exact q3 p h
                · rw [List.take_add_one, hxj, List.flatMap_append, p4]; simpa using q4
                · intro s hs
                  rcases List.mem_append.mp hs with h | h
                  · exact p5 s h
                  · exact ⟨xs[j], List.getElem_mem _, q5 s h⟩
            obtain ⟨ps, p1, p2, p3, p4, p5⟩ := key k (Nat.le_refl _)
            refine ⟨ps, ?_, p2, p3, ?_, fun s hs => ?_⟩
            · rw [← p1, List.take_of_length_le (by omega)]
            · rw [List.take_of_length_le (by omega)] at p4; exact p4
            · obtain ⟨y, hy, hle⟩ := p5 s hs
              exact Nat.le_trans hle (hbk.agg _ _ (List.mem_map_of_mem hy))
          · cases hl
        · cases hl
      case struct fs =>
        split at hl
        · obtain ⟨xs, q, rfl, rfl, hlen, hxl, hx⟩ := DataW.trod_struct hu h
          obtain ⟨ps, p1, p2, p3, p4, p5⟩ := trod_fldsB (bk := bk) (cs := cs) (fun t l h1 h2 cs x h3 => trod_flatB hbk m t l h1 h2 q cs x h3) fs.toList xs 0 l hl (by simpa using hxl) (fun i f hf => hx i f (by simpa using hf))
          refine ⟨ps, ?_, p2, p3, p4, fun s hs => by
            obtain ⟨y, hy, hle⟩ := p5 s hs
            exact Nat.le_trans hle (hbk.agg _ _ (List.mem_map_of_mem hy))⟩
          rw [← p1, List.drop_zero, List.take_of_length_le (by omega)]
        · cases hl

theorem open_slcB {bk : DataW H → Nat} (hbk : BulkOk bk) {t e : TypeId} {l : List Tag} {n0 : Nat} {cs : List Value} {x : DataW H × List MemPlace} {G : List (Nat × Obj)} (agg : Bool)
    (ht : P.underlying t = some (.slice e)) (hl : tagsOf P 12 e = some l) (hn : l.length = P.cellsOf e) (h0 : 0 < l.length) (hagg : agg = false → l.length = 1)
    (hn' : DataW.trod enc P w base sp held n0 t cs = some x) :
    ∃ (v : Value) (ys : List (List PV)), cs = [v] ∧ v.oneCell' = true ∧ (∀ y ∈ ys, y.map tagP = l.map some ∧ ∀ q ∈ y, wfP q) ∧ (∀ y ∈ ys, ∀ s, PV.str s ∈ y → s.size ≤ bk x.1) ∧ ys.length ≤ bk x.1 ∧ ys.length ≤ maxLen ∧ V (gmap G) (globs G) w v (.sl l.length (ys.map (wrapE agg))) := by
  rcases Go.Deep.open_slice ht hn' with ⟨hcs, _⟩ | ⟨a, len, cap, m, n2, D, Pl, hcs, hb, hlc, hcap, hm, hx, hel⟩
  · exact ⟨_, [], hcs, rfl, by simp, by simp, Nat.zero_le _, Nat.zero_le _, .sl0 _ _ _⟩
  · refine ⟨.slice (some a) len cap, ?_⟩
    have hlm : len ≤ m := by rw [hm]; split <;> omega
    by_cases hz0 : len = 0
    · subst hz0
      exact ⟨[], hcs, rfl, by simp, by simp, Nat.zero_le _, Nat.zero_le _, .sl0 _ _ _⟩
    have hspot : a.spot = none := by
      obtain ⟨cs', h1, h2⟩ := hel 0 (by omega)
      obtain ⟨_, hlen, hc⟩ := World.cells?_some h1
      have h3 := hc 0 (by omega)
      have h4 : cs'[0]? = some (cs'[0]'(by omega)) := List.getElem?_eq_getElem _
      rw [h4] at h3
      have := Go.World.cell?_spot h3
      obtain ⟨ab, ao, asp⟩ := a
      simpa [Addr.add] using this
    obtain ⟨b, off, spot⟩ := a
    simp only at hspot
    subst hspot
    -- each element's cells
    have each : ∀ i, i < len → ∃ y : List PV, y.map tagP = l.map some ∧ (∀ q ∈ y, wfP q) ∧ (∀ s, PV.str s ∈ y → s.size ≤ bk (D i)) ∧ ∀ k, k < l.length → w.cell? ⟨b, off + i * l.length + k, none⟩ = (y[k]?).map valP := fun i hi => by
      obtain ⟨cs', h1, h2⟩ := hel i (by omega)
      obtain ⟨y, q1, q2, q3, _, q5⟩ := trod_flatB hbk 12 e l hl hn n2 cs' _ h2
      obtain ⟨_, hlen, hc⟩ := World.cells?_some h1
      refine ⟨y, q2, q3, q5, fun k hk => ?_⟩
      have := hc k (by omega)
      rw [q1, List.getElem?_map] at this
      rw [← this, ← hn]
      congr 1
      unfold Addr.add
      by_cases hi0 : i * l.length = 0 <;> by_cases hk0 : k = 0 <;> simp [hi0, hk0]
    obtain ⟨f, hf⟩ := Go.Deep.choose_lt (α := List PV) each
    refine ⟨(List.range len).map f, hcs, rfl, fun y hy => ?_, fun y hy s hs => ?_, ?_, by simpa using by omega, ?_⟩
    · obtain ⟨i, hi, rfl⟩ := List.mem_map.mp hy
      have := hf i (List.mem_range.mp hi)
      exact ⟨this.1, this.2.1⟩
    · obtain ⟨i, hi, rfl⟩ := List.mem_map.mp hy
      refine Nat.le_trans ((hf i (List.mem_range.mp hi)).2.2.1 s hs) ?_
      rw [hx]
      exact (hbk.sl _ _).2 _ (List.mem_map_of_mem hi)
    · rw [hx]
      have := (hbk.sl ((List.range len).map D) ((List.range (m - len)).map fun j => D (len + j))).1
      simpa using this
    · by_cases hz : len = 0
      · subst hz; exact .sl0 _ _ _
      have hys : ∀ y ∈ (List.range len).map f, y.map tagP = l.map some := fun y hy => by
        obtain ⟨i, hi, rfl⟩ := List.mem_map.mp hy
        exact (hf i (List.mem_range.mp hi)).1
      have hyl : ∀ y ∈ (List.range len).map f, y.length = l.length := fun y hy => by
        have := congrArg List.length (hys y hy)
        simpa using this
      have hfl := flat_wrap hys hagg
      have hlt : b < w.heap.size := by
        obtain ⟨_, _, _, hc⟩ := hf 0 (by omega)
        have h1 := hc 0 h0
        have h2 := (hf 0 (by omega)).1
        have h3 := congrArg List.length h2
        simp only [List.length_map] at h3
        rw [List.getElem?_eq_getElem (by omega)] at h1
        unfold World.cell? at h1
        rcases Nat.lt_or_ge b w.heap.size with h | h
        · exact h
        · simp [Array.getElem?_eq_none h] at h1
      have hcell : ∀ k, k < (flat (((List.range len).map f).map (wrapE agg))).length → ∃ p, (flat (((List.range len).map f).map (wrapE agg)))[k]? = some p ∧ w.cell? ⟨b, off + k, none⟩ = some (valP p) ∧ ∃ g, tagP p = some g := fun k hk => by
        rw [hfl] at hk ⊢
        obtain ⟨h1, h2, h3⟩ := flatten_at hyl k hk
        have hi : k / l.length < len := by simpa using h1
        obtain ⟨hy, _, _, hc⟩ := hf _ hi
        have hg : ((List.range len).map f).getD (k / l.length) [] = f (k / l.length) := by simp [List.getD_eq_getElem?_getD, hi]
        rw [hg] at h3
        have hlen := congrArg List.length hy
        simp only [List.length_map] at hlen
        have hp : (f (k / l.length))[k % l.length]? = some ((f (k / l.length))[k % l.length]'(by omega)) := List.getElem?_eq_getElem _
        refine ⟨_, h3.trans hp, ?_, ?_⟩
        · have := hc _ h2
          rw [hp] at this
          have e : off + k / l.length * l.length + k % l.length = off + k := by have := Nat.div_add_mod k l.length; rw [Nat.mul_comm] at this; omega
          rwa [e] at this
        · have h4 := congrArg (·[k % l.length]?) hy
          simp only [List.getElem?_map, hp, Option.map_some] at h4
          cases hl2 : l[k % l.length]? with
          | none => rw [hl2] at h4; cases h4
          | some g => rw [hl2] at h4; simp only [Option.map_some, Option.some.injEq] at h4; exact ⟨g, h4⟩
      have hlen : (((List.range len).map f).map (wrapE agg)).length = len := by simp
      have hV : V (gmap G) (globs G) w (.slice (some ⟨b, off, none⟩) (((List.range len).map f).map (wrapE agg)).length cap) (.sl l.length (((List.range len).map f).map (wrapE agg))) := by
        refine .sl b off cap l.length _ (fun k => valP ((flat (((List.range len).map f).map (wrapE agg))).getD k .any)) ⟨hlt, fun i hi => (globs_ownless hi).elim⟩ (fun x hx => ?_) (by rw [hlen]; exact hlc) (fun k hk => ?_) (fun k p hp => ?_) fun k hk => ?_
        · obtain ⟨y, hy, rfl⟩ := List.mem_map.mp hx
          rw [wrap_cells (hys y hy) hagg, hyl y hy]
        · obtain ⟨p, h1, h2, _⟩ := hcell k hk
          rw [h2, List.getD_eq_getElem?_getD, h1]; rfl
        · obtain ⟨p', h1, _, g, hg⟩ := hcell k (lt_of_get hp)
          rw [hp] at h1; cases h1
          rw [List.getD_eq_getElem?_getD, hp]
          exact (valP_v hg).1
        · obtain ⟨p', h1, _, g, hg⟩ := hcell k hk
          rw [List.getD_eq_getElem?_getD, h1]
          exact (valP_v (β := gmap G) (H' := globs G) (w2 := w) hg).2
      rwa [hlen] at hV



def FSaysB (n : Nat) : FS → PV → Prop
  | .plain g, p => tagP p = some g ∧ wfP p ∧ ∀ s, p = .str s → s.size ≤ n
  | .sl _ l agg, p => ∃ zs : List (List PV), p = .sl l.length (zs.map (wrapE agg)) ∧ (∀ z ∈ zs, z.map tagP = l.map some ∧ (∀ q ∈ z, wfP q) ∧ ∀ s, PV.str s ∈ z → s.size ≤ n) ∧ zs.length ≤ n
theorem FSaysB.mono {n m : Nat} (hnm : n ≤ m) {s : FS} {p : PV} (h : FSaysB n s p) : FSaysB m s p := by
  cases s with
  | plain g => exact ⟨h.1, h.2.1, fun s hs => Nat.le_trans (h.2.2 s hs) hnm⟩
  | sl e l agg =>
    obtain ⟨zs, h1, h2, h3⟩ := h
    exact ⟨zs, h1, fun z hz => ⟨(h2 z hz).1, (h2 z hz).2.1, fun s hs => Nat.le_trans ((h2 z hz).2.2 s hs) hnm⟩, Nat.le_trans h3 hnm⟩
theorem open_fieldB {bk : DataW H → Nat} (hbk : BulkOk bk) {t : TypeId} {s : FS} (hs : FOk P t s) {n0 : Nat} {v : Value} {x : DataW H × List MemPlace} (G : List (Nat × Obj)) (h : DataW.trod enc P w base sp held n0 t [v] = some x) :
    ∃ p, V (gmap G) (globs G) w v p ∧ v.oneCell' = true ∧ FSaysB (bk x.1) s p := by
  cases s with
  | plain g =>
    obtain ⟨ps, h1, h2, h3, _, h5⟩ := trod_flatB hbk 12 t [g] hs.1 hs.2.symm n0 [v] x h
    have hl := congrArg List.length h1
    simp only [List.length_map, List.length_cons, List.length_nil] at hl
    obtain ⟨q, rfl⟩ := List.length_eq_one_iff.mp hl.symm
    simp only [List.map_cons, List.map_nil, List.cons.injEq, and_true] at h1 h2
    subst h1
    obtain ⟨a, b⟩ := valP_v (β := gmap G) (H' := globs G) (w2 := w) h2
    exact ⟨q, a, b, h2, h3 q (by simp), fun s hs => h5 s (by simp [hs])⟩
  | sl e l agg =>
    obtain ⟨h1, h2, h3, h4, h5, _⟩ := hs
    obtain ⟨v', ys, e1, e2, e3, e4, e5, _, e6⟩ := open_slcB hbk (G := G) agg h1 h2 h3 h4 h5 h
    obtain rfl : v = v' := by simpa using e1
    exact ⟨_, e6, e2, ys, rfl, fun z hz => ⟨(e3 z hz).1, (e3 z hz).2, e4 z hz⟩, e5⟩
def agNB (P : Program) (t : TypeId) (fss : List FS) : Bool := match P.underlying t with
  | some (.struct fs) => decide (P.cellsOf t = fss.length) && (decide (fs.size = fss.length) && (List.range fss.length).all fun i => match fs[i]?, fss[i]? with
    | some f, some s => decide (f.offset = i) && (decide (P.cellsOf f.type = 1) && FOkB P f.type s)
    | _, _ => false)
  | _ => false
/-- A struct whose cells are plain or slices. -/
theorem open_agB {bk : DataW H → Nat} (hbk : BulkOk bk) {r : Reach} {b0 : Nat} {t : TypeId} {fss : List FS} {v : Value} {d : DataW H} {ps : List MemPlace} {G : List (Nat × Obj)}
    (hB : agNB P t fss = true) (hval : Value.okWide P w r b0 t v) (h : DataW.Trod enc P w base sp held t v d ps) :
    ∃ y : List PV, y.length = fss.length ∧ (∀ (i : Nat) (p : PV) (s : FS), y[i]? = some p → fss[i]? = some s → FSaysB (bk d) s p) ∧ V (gmap G) (globs G) w v (.agg y) := by
  haveI : Inhabited (Value × PV) := ⟨(undef, .any)⟩
  unfold agNB at hB
  split at hB
  · rename_i fs he
    simp only [Bool.and_eq_true, decide_eq_true_eq] at hB
    obtain ⟨hn, hsz, hall⟩ := hB
    have hf : ∀ i s, fss[i]? = some s → ∃ f : Field, fs[i]? = some f ∧ f.offset = i ∧ P.cellsOf f.type = 1 ∧ FOk P f.type s := fun i s hs => by
      have h1 := List.all_eq_true.mp hall i (List.mem_range.mpr (List.getElem?_eq_some_iff.mp hs).1)
      rw [hs] at h1
      cases hf : fs[i]? with
      | none => rw [hf] at h1; cases h1
      | some f =>
        rw [hf] at h1
        simp only [Bool.and_eq_true, decide_eq_true_eq] at h1
        exact ⟨f, rfl, h1.1, h1.2.1, FOkB_ok h1.2.2⟩
    obtain ⟨cs, rfl⟩ : ∃ cs, v = .agg cs := by
      unfold Value.okWide at hval
      rw [he] at hval
      simp only at hval
      cases v <;> first | exact ⟨_, rfl⟩ | simp [Value.okWide] at hval
    obtain ⟨n, hn'⟩ := h
    have hn' : DataW.trod enc P w base sp held n t cs.toList = some (d, ps) := hn'
    obtain ⟨xs, n3, _, hd, hcl, hxl, hfl⟩ := DataW.trod_struct he hn'
    have hd : d = .agg (xs.map (·.1)) := congrArg Prod.fst hd
    have cell : ∀ k, k < fss.length → ∃ c : Value × PV, cs.toList[k]? = some c.1 ∧ V (gmap G) (globs G) w c.1 c.2 ∧ ∀ s, fss[k]? = some s → FSaysB (bk d) s c.2 := fun k hk => by
      obtain ⟨f, g1, g2, g3, g4⟩ := hf k _ (List.getElem?_eq_getElem hk)
      have hkc : k < cs.toList.length := by rw [hcl, hn]; exact hk
      have hfk := hfl k f g1
      have hkx : k < xs.length := by rw [hxl, hsz]; exact hk
      rw [g2, g3, List.getElem?_eq_getElem hkx] at hfk
      have hone : (cs.toList.drop k).take 1 = [cs.toList[k]] := by rw [List.drop_eq_getElem_cons hkc]; rfl
      rw [hone] at hfk
      obtain ⟨p, p1, p2, p3⟩ := open_fieldB hbk g4 G hfk
      refine ⟨(cs.toList[k], p), List.getElem?_eq_getElem hkc, p1, fun s hs => ?_⟩
      rw [List.getElem?_eq_getElem hk] at hs; cases hs
      refine p3.mono ?_
      rw [hd]
      exact hbk.agg _ _ (List.mem_map_of_mem (List.getElem_mem hkx))
    obtain ⟨c, hcc⟩ := Go.Deep.choose_lt (α := Value × PV) cell
    refine ⟨(List.range fss.length).map fun k => (c k).2, by simp, fun i p s hp hs => ?_, .agg _ _ ?_ fun i v p hv hp => ?_⟩
    · have hi : i < fss.length := (List.getElem?_eq_some_iff.mp hs).1
      rw [List.getElem?_map, List.getElem?_range hi] at hp
      simp only [Option.map_some, Option.some.injEq] at hp
      subst hp
      exact (hcc i hi).2.2 s hs
    · rw [Array.length_toList] at hcl
      simp [hcl, hn]
    · have hi : i < fss.length := by
        have := lt_of_get hp
        simpa using this
      rw [List.getElem?_map, List.getElem?_range hi] at hp
      simp only [Option.map_some, Option.some.injEq] at hp
      subst hp
      have h1 := (hcc i hi).1
      rw [Array.getElem?_toList] at h1
      rw [hv] at h1
      cases h1
      exact (hcc i hi).2.1
  · cases hB
/-- A slice that a law is handed. -/
theorem open_slB {bk : DataW H → Nat} (hbk : BulkOk bk) {r : Reach} {b0 : Nat} {t e : TypeId} {l : List Tag} {v : Value} {d : DataW H} {ps : List MemPlace} {G : List (Nat × Obj)} (agg : Bool)
    (ht : P.underlying t = some (.slice e)) (hl : tagsOf P 12 e = some l) (hn : l.length = P.cellsOf e) (h0 : 0 < l.length) (hagg : agg = false → l.length = 1)
    (hval : Value.okWide P w r b0 t v) (h : DataW.Trod enc P w base sp held t v d ps) :
    ∃ ys : List (List PV), (∀ y ∈ ys, y.map tagP = l.map some ∧ (∀ q ∈ y, wfP q) ∧ ∀ s, PV.str s ∈ y → s.size ≤ bk d) ∧ ys.length ≤ bk d ∧ V (gmap G) (globs G) w v (.sl l.length (ys.map (wrapE agg))) := by
  obtain ⟨n, hn'⟩ := h
  obtain ⟨v', ys, e1, e2, e3, e4, e5, _, e6⟩ := open_slcB hbk (G := G) agg ht hl hn h0 hagg hn'
  have one : v = v' := by
    cases v <;> simp [Value.cells] at e1 <;> first | exact e1 | skip
    unfold Value.okWide at hval
    rw [ht] at hval
    simp only [Cell.okWide, Cell.ok, ht] at hval
  subst one
  exact ⟨ys, fun y hy => ⟨(e3 y hy).1, (e3 y hy).2, e4 y hy⟩, e5, e6⟩
end

/-- The wrap for a row whose bulk is told, with named variables, the world's shape kept. -/
theorem returns_upto {H : Type} {enc : TypeId × Value → H} {a : Assume} {C : Checked} {os : Os} {f : FuncId} {fn : Func} {s : OpenSpec} {k : (H : Type) → List (DataW H) → Bool} (hk : s.cond = some k) {F : Stop.Interp} {conds : List PathCond} {apart fresh handsOn again : Bool}
    (own : ownKnob C.prog.godebug = none) (started : os.Started) (noInit : C.prog.inits.idxOf? f = none) (hfn : C.prog.funcs[f]? = some fn)
    (witness : ∃ (w : World) (tape : Tape) (i : Input), w.os = os ∧ (w.forCall tape i).Shaped C.prog ∧ i.vars = [] ∧ Input.okWide C.prog (w.forCall tape i) .any w.heap.size f i ∧
      s.pre6 enc C.prog fn conds apart (w.forCall tape i).memory i.args ∧ a.holds C.prog (lone (Frame.enter C.prog f i.args .normal) [] (w.forCall tape i)))
    (contract : ∀ (W : World) (base : Nat) (args : Array Value) (ds gs : List (DataW H)) (before : List MemPlace),
      (∀ (j : Nat) t v, fn.params[j]? = some t → args[j]? = some v → Value.okWide C.prog W .any base t v) →
      DataW.Whole enc C.prog fn.params.toList s.vars apart W args.toList ds gs before → k H (ds ++ gs) = true → W.ShapedOpen C.prog →
      Calls C.prog f args W fun e W' => ∃ v, e = .returned v ∧ (s.at F).post enc C.prog fn apart fresh handsOn again W args v W') :
    ReturnsInHanded a C os f .any (s.pre6 enc C.prog fn conds apart) ((s.at F).post enc C.prog fn apart fresh handsOn again) := by
  refine returnsInHanded_of_calls own started noInit witness ?_
  intro w tape i _ hsh _ hok hpre hholds
  obtain ⟨_, _, _, fn', hfn', _, _, _, _, hval⟩ := hok
  have e : fn' = fn := Option.some.inj (hfn'.symm.trans hfn)
  subst e
  obtain ⟨ds, gs, before, hw, hc, hkk⟩ := (OpenSpec.pre_some hk conds apart _ _).1 hpre.1
  have hw' := DataW.Whole.of_heap (w' := w.forCall tape i) (by rfl) hw
  refine (contract (w.forCall tape i) w.heap.size i.args ds gs before hval hw' hkk hsh).mono fun e W' ⟨v, he, hp⟩ => ?_
  subst he
  exact ChangeSpec.post_blind hp
end Go.Proofs.SL
