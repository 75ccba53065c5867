/-
  SL: slices that a law is handed whose elements are structs with slices in them. No claim by itself.
-/
import Derived.Test.YtmgemdgbffmnjaaSlArgS
import Derived.DataReads
namespace Go.Proofs.SL
open Go Go.RowKit
set_option linter.unusedSimpArgs false
set_option linter.unusedVariables false

section
variable {H : Type} {enc : TypeId × Value → H} {P : Program} {w : World} {base : Nat} {sp : Nat → Bool} {held : Bool}

/-- A slice in a cell. -/
theorem open_slc {t e : TypeId} {l : List Tag} {n0 : Nat} {cs : List Value} {x : DataW H × List MemPlace} {G : List (Nat × Obj)} (agg : Bool)
    (ht : P.underlying t = some (.slice e)) (hl : tagsOf P 12 e = some l) (hn : l.length = P.cellsOf e) (h0 : 0 < l.length) (hagg : agg = false → l.length = 1)
    (hn' : DataW.trod enc P w base sp held n0 t cs = some x) :
    ∃ (v : Value) (ys : List (List PV)), cs = [v] ∧ v.oneCell' = true ∧ (∀ y ∈ ys, y.map tagP = l.map some ∧ ∀ q ∈ y, wfP q) ∧ ys.length ≤ maxLen ∧ V (gmap G) (globs G) w v (.sl l.length (ys.map (wrapE agg))) := by
  rcases Go.Deep.open_slice ht hn' with ⟨hcs, _⟩ | ⟨a, len, cap, m, n2, D, Pl, hcs, hb, hlc, hcap, hm, hx, hel⟩
  · exact ⟨_, [], hcs, rfl, by simp, Nat.zero_le _, .sl0 _ _ _⟩
  · refine ⟨.slice (some a) len cap, ?_⟩
    have hlm : len ≤ m := by rw [hm]; split <;> omega
    by_cases hz0 : len = 0
    · subst hz0
      exact ⟨[], hcs, rfl, by simp, Nat.zero_le _, .sl0 _ _ _⟩
    have hspot : a.spot = none := by
      obtain ⟨cs', h1, h2⟩ := hel 0 (by omega)
      obtain ⟨_, hlen, hc⟩ := World.cells?_some h1
      have h3 := hc 0 (by omega)
      have h4 : cs'[0]? = some (cs'[0]'(by omega)) := List.getElem?_eq_getElem _
      rw [h4] at h3
      have := Go.World.cell?_spot h3
      obtain ⟨ab, ao, asp⟩ := a
      simpa [Addr.add] using this
    obtain ⟨b, off, spot⟩ := a
    simp only at hspot
    subst hspot
    -- each element's cells
    have each : ∀ i, i < len → ∃ y : List PV, y.map tagP = l.map some ∧ (∀ q ∈ y, wfP q) ∧ ∀ k, k < l.length → w.cell? ⟨b, off + i * l.length + k, none⟩ = (y[k]?).map valP := fun i hi => by
      obtain ⟨cs', h1, h2⟩ := hel i (by omega)
      obtain ⟨y, q1, q2, q3, _⟩ := trod_flat 12 e l hl hn n2 cs' _ h2
      obtain ⟨_, hlen, hc⟩ := World.cells?_some h1
      refine ⟨y, q2, q3, fun k hk => ?_⟩
      have := hc k (by omega)
      rw [q1, List.getElem?_map] at this
      rw [← this, ← hn]
      congr 1
      unfold Addr.add
      by_cases hi0 : i * l.length = 0 <;> by_cases hk0 : k = 0 <;> simp [hi0, hk0]
    obtain ⟨f, hf⟩ := Go.Deep.choose_lt (α := List PV) each
    refine ⟨(List.range len).map f, hcs, rfl, fun y hy => ?_, by simpa using by omega, ?_⟩
    · obtain ⟨i, hi, rfl⟩ := List.mem_map.mp hy
      have := hf i (List.mem_range.mp hi)
      exact ⟨this.1, this.2.1⟩
    · by_cases hz : len = 0
      · subst hz; exact .sl0 _ _ _
      have hys : ∀ y ∈ (List.range len).map f, y.map tagP = l.map some := fun y hy => by
        obtain ⟨i, hi, rfl⟩ := List.mem_map.mp hy
        exact (hf i (List.mem_range.mp hi)).1
      have hyl : ∀ y ∈ (List.range len).map f, y.length = l.length := fun y hy => by
        have := congrArg List.length (hys y hy)
        simpa using this
      have hfl := flat_wrap hys hagg
      have hlt : b < w.heap.size := by
        obtain ⟨_, _, hc⟩ := hf 0 (by omega)
        have h1 := hc 0 h0
        have h2 := (hf 0 (by omega)).1
        have h3 := congrArg List.length h2
        simp only [List.length_map] at h3
        rw [List.getElem?_eq_getElem (by omega)] at h1
        unfold World.cell? at h1
        rcases Nat.lt_or_ge b w.heap.size with h | h
        · exact h
        · simp [Array.getElem?_eq_none h] at h1
      have hcell : ∀ k, k < (flat (((List.range len).map f).map (wrapE agg))).length → ∃ p, (flat (((List.range len).map f).map (wrapE agg)))[k]? = some p ∧ w.cell? ⟨b, off + k, none⟩ = some (valP p) ∧ ∃ g, tagP p = some g := fun k hk => by
        rw [hfl] at hk ⊢
        obtain ⟨h1, h2, h3⟩ := flatten_at hyl k hk
        have hi : k / l.length < len := by simpa using h1
        obtain ⟨hy, _, hc⟩ := hf _ hi
        have hg : ((List.range len).map f).getD (k / l.length) [] = f (k / l.length) := by simp [List.getD_eq_getElem?_getD, hi]
        rw [hg] at h3
        have hlen := congrArg List.length hy
        simp only [List.length_map] at hlen
        have hp : (f (k / l.length))[k % l.length]? = some ((f (k / l.length))[k % l.length]'(by omega)) := List.getElem?_eq_getElem _
        refine ⟨_, h3.trans hp, ?_, ?_⟩
        · have := hc _ h2
          rw [hp] at this
          have e : off + k / l.length * l.length + k % l.length = off + k := by have := Nat.div_add_mod k l.length; rw [Nat.mul_comm] at this; omega
          rwa [e] at this
        · have h4 := congrArg (·[k % l.length]?) hy
          simp only [List.getElem?_map, hp, Option.map_some] at h4
          cases hl2 : l[k % l.length]? with
          | none => rw [hl2] at h4; cases h4
          | some g => rw [hl2] at h4; simp only [Option.map_some, Option.some.injEq] at h4; exact ⟨g, h4⟩
      have hlen : (((List.range len).map f).map (wrapE agg)).length = len := by simp
      have hV : V (gmap G) (globs G) w (.slice (some ⟨b, off, none⟩) (((List.range len).map f).map (wrapE agg)).length cap) (.sl l.length (((List.range len).map f).map (wrapE agg))) := by
        refine .sl b off cap l.length _ (fun k => valP ((flat (((List.range len).map f).map (wrapE agg))).getD k .any)) ⟨hlt, fun i hi => (globs_ownless hi).elim⟩ (fun x hx => ?_) (by rw [hlen]; exact hlc) (fun k hk => ?_) (fun k p hp => ?_) fun k hk => ?_
        · obtain ⟨y, hy, rfl⟩ := List.mem_map.mp hx
          rw [wrap_cells (hys y hy) hagg, hyl y hy]
        · obtain ⟨p, h1, h2, _⟩ := hcell k hk
          rw [h2, List.getD_eq_getElem?_getD, h1]; rfl
        · obtain ⟨p', h1, _, g, hg⟩ := hcell k (lt_of_get hp)
          rw [hp] at h1; cases h1
          rw [List.getD_eq_getElem?_getD, hp]
          exact (valP_v hg).1
        · obtain ⟨p', h1, _, g, hg⟩ := hcell k hk
          rw [List.getD_eq_getElem?_getD, h1]
          exact (valP_v (β := gmap G) (H' := globs G) (w2 := w) hg).2
      rwa [hlen] at hV


/-- What a struct's cell may be. -/
inductive FS where
  | plain (g : Tag)
  | sl (e : TypeId) (l : List Tag) (agg : Bool)
def FOk (P : Program) (t : TypeId) : FS → Prop
  | .plain g => tagsOf P 12 t = some [g] ∧ P.cellsOf t = 1
  | .sl e l agg => P.underlying t = some (.slice e) ∧ tagsOf P 12 e = some l ∧ l.length = P.cellsOf e ∧ 0 < l.length ∧ (agg = false → l.length = 1) ∧ P.cellsOf t = 1
def FSays : FS → PV → Prop
  | .plain g, p => tagP p = some g ∧ wfP p
  | .sl _ l agg, p => ∃ zs : List (List PV), p = .sl l.length (zs.map (wrapE agg)) ∧ (∀ z ∈ zs, z.map tagP = l.map some ∧ ∀ q ∈ z, wfP q) ∧ zs.length ≤ maxLen

theorem open_field {t : TypeId} {s : FS} (hs : FOk P t s) {n0 : Nat} {v : Value} {x : DataW H × List MemPlace} (G : List (Nat × Obj)) (h : DataW.trod enc P w base sp held n0 t [v] = some x) : ∃ p, V (gmap G) (globs G) w v p ∧ v.oneCell' = true ∧ FSays s p := by
  cases s with
  | plain g =>
    obtain ⟨ps, h1, h2, h3, _⟩ := trod_flat 12 t [g] hs.1 hs.2.symm n0 [v] x h
    have hl := congrArg List.length h1
    simp only [List.length_map, List.length_cons, List.length_nil] at hl
    obtain ⟨q, rfl⟩ := List.length_eq_one_iff.mp hl.symm
    simp only [List.map_cons, List.map_nil, List.cons.injEq, and_true] at h1 h2
    subst h1
    obtain ⟨a, b⟩ := valP_v (β := gmap G) (H' := globs G) (w2 := w) h2
    exact ⟨q, a, b, h2, h3 q (by simp)⟩
  | sl e l agg =>
    obtain ⟨h1, h2, h3, h4, h5, _⟩ := hs
    obtain ⟨v', ys, e1, e2, e3, e4, e5⟩ := open_slc (G := G) agg h1 h2 h3 h4 h5 h
    obtain rfl : v = v' := by simpa using e1
    exact ⟨_, e5, e2, ys, rfl, e3, e4⟩

theorem flat_agg {ys : List (List PV)} : flat (ys.map PV.agg) = ys.flatten := by
  induction ys with
  | nil => rfl
  | cons y ys ih => simp only [flat, List.map_cons, List.flatMap_cons, List.flatten_cons] at ih ⊢; rw [ih]; rfl

/-- A slice of structs, whose cells are plain or slices. -/
theorem open_slN {r : Reach} {b0 : Nat} {t e : TypeId} {fs : Array Field} {fss : List FS} {v : Value} {d : DataW H} {ps : List MemPlace} {G : List (Nat × Obj)}
    (ht : P.underlying t = some (.slice e)) (he : P.underlying e = some (.struct fs)) (hn : P.cellsOf e = fss.length) (h0 : 0 < fss.length)
    (hf : ∀ i s, fss[i]? = some s → ∃ f : Field, fs[i]? = some f ∧ f.offset = i ∧ P.cellsOf f.type = 1 ∧ FOk P f.type s)
    (hval : Value.okWide P w r b0 t v) (h : DataW.Trod enc P w base sp held t v d ps) :
    ∃ ys : List (List PV), (∀ y ∈ ys, y.length = fss.length ∧ ∀ (i : Nat) (p : PV) (s : FS), y[i]? = some p → fss[i]? = some s → FSays s p) ∧ ys.length ≤ maxLen ∧ V (gmap G) (globs G) w v (.sl fss.length (ys.map PV.agg)) := by
  haveI : Inhabited (Value × PV) := ⟨(undef, .any)⟩
  obtain ⟨n, hn'⟩ := h
  have one : ∀ cs, v.cells.toList = [cs] → (∀ x, cs ≠ .agg x) → v = cs := by
    intro cs hcs hne
    cases v <;> simp [Value.cells] at hcs <;> first | exact hcs | skip
    unfold Value.okWide at hval
    rw [ht] at hval
    simp only [Cell.okWide, Cell.ok, ht] at hval
  rcases Go.Deep.open_slice ht hn' with ⟨hcs, _⟩ | ⟨a, len, cap, m, n2, D, Pl, hcs, hb, hlc, hcap, hm, hx, hel⟩
  · have := one _ hcs (by simp)
    subst this
    exact ⟨[], by simp, Nat.zero_le _, .sl0 _ _ _⟩
  · have := one _ hcs (by simp)
    subst this
    have hspot : a.spot = none := by
      unfold Value.okWide at hval
      rw [ht] at hval
      simp only [Cell.okWide, Cell.ok, ht] at hval
      exact hval.2.2.2.1
    obtain ⟨b, off, spot⟩ := a
    simp only at hspot
    subst hspot
    have hlm : len ≤ m := by rw [hm]; split <;> omega
    by_cases hz : len = 0
    · subst hz
      exact ⟨[], by simp, Nat.zero_le _, .sl0 _ _ _⟩
    have each : ∀ i, i < len → ∃ q : List (Value × PV), q.length = fss.length ∧ ∀ k c, q[k]? = some c → w.cell? ⟨b, off + i * fss.length + k, none⟩ = some c.1 ∧ V (gmap G) (globs G) w c.1 c.2 ∧ c.1.oneCell' = true ∧ ∀ s, fss[k]? = some s → FSays s c.2 := fun i hi => by
      obtain ⟨cs', h1, h2⟩ := hel i (by omega)
      obtain ⟨xs, n3, _, _, hcl, hxl, hfl⟩ := DataW.trod_struct he h2
      obtain ⟨_, hlen, hc⟩ := World.cells?_some h1
      have cell : ∀ k, k < fss.length → ∃ c : Value × PV, w.cell? ⟨b, off + i * fss.length + k, none⟩ = some c.1 ∧ V (gmap G) (globs G) w c.1 c.2 ∧ c.1.oneCell' = true ∧ ∀ s, fss[k]? = some s → FSays s c.2 := fun k hk => by
        obtain ⟨f, g1, g2, g3, g4⟩ := hf k _ (List.getElem?_eq_getElem hk)
        have hkc : k < cs'.length := by rw [hlen, hn]; exact hk
        have hfk := hfl k f g1
        have hkx : k < xs.length := by rw [hxl]; exact (Array.getElem?_eq_some_iff.mp g1).1
        rw [g2, g3, List.getElem?_eq_getElem hkx] at hfk
        have hone : (cs'.drop k).take 1 = [cs'[k]] := by rw [List.drop_eq_getElem_cons hkc]; rfl
        rw [hone] at hfk
        obtain ⟨p, p1, p2, p3⟩ := open_field g4 G hfk
        refine ⟨(cs'[k], p), ?_, p1, p2, fun s hs => ?_⟩
        · have := hc k (by rw [hn]; exact hk)
          rw [List.getElem?_eq_getElem hkc] at this
          rw [← this, ← hn]
          congr 1
          unfold Addr.add
          by_cases hi0 : i * P.cellsOf e = 0 <;> by_cases hk0 : k = 0 <;> simp [hi0, hk0]
        · rw [List.getElem?_eq_getElem hk] at hs; cases hs; exact p3
      obtain ⟨c, hcc⟩ := Go.Deep.choose_lt (α := Value × PV) cell
      refine ⟨(List.range fss.length).map c, by simp, fun k c' hk => ?_⟩
      rw [List.getElem?_map] at hk
      cases hr : (List.range fss.length)[k]? with
      | none => rw [hr] at hk; cases hk
      | some k' =>
        rw [hr] at hk
        simp only [Option.map_some, Option.some.injEq] at hk
        obtain ⟨hkl, hkk⟩ := List.getElem?_eq_some_iff.mp hr
        simp only [List.getElem_range, List.length_range] at hkl hkk
        subst hkk
        subst hk
        exact hcc k hkl
    obtain ⟨f, hfe⟩ := Go.Deep.choose_lt (α := List (Value × PV)) each
    have hyl : ∀ y ∈ (List.range len).map (fun i => (f i).map (·.2)), y.length = fss.length := fun y hy => by
      obtain ⟨i, hi, rfl⟩ := List.mem_map.mp hy
      rw [List.length_map]; exact (hfe i (List.mem_range.mp hi)).1
    refine ⟨(List.range len).map fun i => (f i).map (·.2), fun y hy => ⟨hyl y hy, fun i p s hp hs => ?_⟩, by simpa using by omega, ?_⟩
    · obtain ⟨q, hq, rfl⟩ := List.mem_map.mp hy
      rw [List.getElem?_map] at hp
      cases hr : (f q)[i]? with
      | none => rw [hr] at hp; cases hp
      | some c =>
        rw [hr] at hp
        simp only [Option.map_some, Option.some.injEq] at hp
        subst hp
        exact ((hfe q (List.mem_range.mp hq)).2 i c hr).2.2.2 s hs
    · have hcell : ∀ k, k < (flat (((List.range len).map fun i => (f i).map (·.2)).map PV.agg)).length → ∃ c : Value × PV, (flat (((List.range len).map fun i => (f i).map (·.2)).map PV.agg))[k]? = some c.2 ∧ w.cell? ⟨b, off + k, none⟩ = some c.1 ∧ V (gmap G) (globs G) w c.1 c.2 ∧ c.1.oneCell' = true := fun k hk => by
        rw [flat_agg] at hk ⊢
        obtain ⟨h1, h2, h3⟩ := flatten_at hyl k hk
        have hi : k / fss.length < len := by simpa using h1
        obtain ⟨hq1, hq2⟩ := hfe _ hi
        have hg : ((List.range len).map fun i => (f i).map (·.2)).getD (k / fss.length) [] = (f (k / fss.length)).map (·.2) := by simp [List.getD_eq_getElem?_getD, hi]
        rw [hg, List.getElem?_map] at h3
        have hp : (f (k / fss.length))[k % fss.length]? = some ((f (k / fss.length))[k % fss.length]'(by omega)) := List.getElem?_eq_getElem _
        rw [hp] at h3
        obtain ⟨c1, c2, c3, _⟩ := hq2 _ _ hp
        refine ⟨_, h3, ?_, c2, c3⟩
        have e : off + k / fss.length * fss.length + k % fss.length = off + k := by have := Nat.div_add_mod k fss.length; rw [Nat.mul_comm] at this; omega
        rwa [e] at c1
      obtain ⟨g, hg⟩ := Go.Deep.choose_lt (α := Value × PV) hcell
      have hlen : (((List.range len).map fun i => (f i).map (·.2)).map PV.agg).length = len := by simp
      have hfl : (flat (((List.range len).map fun i => (f i).map (·.2)).map PV.agg)).length = len * fss.length := by
        rw [flat_length (m := fss.length) fun x hx => by
          obtain ⟨y, hy, rfl⟩ := List.mem_map.mp hx
          exact hyl y hy, hlen]
      have hlt : b < w.heap.size := by
        obtain ⟨_, h2, _, _⟩ := hg 0 (by rw [hfl]; exact Nat.mul_pos (by omega) h0)
        unfold World.cell? at h2
        rcases Nat.lt_or_ge b w.heap.size with h | h
        · exact h
        · simp [Array.getElem?_eq_none h] at h2
      have hV : V (gmap G) (globs G) w (.slice (some ⟨b, off, none⟩) (((List.range len).map fun i => (f i).map (·.2)).map PV.agg).length cap) (.sl fss.length (((List.range len).map fun i => (f i).map (·.2)).map PV.agg)) := by
        refine .sl b off cap fss.length _ (fun k => (g k).1) ⟨hlt, fun i hi => (globs_ownless hi).elim⟩ (fun x hx => ?_) (by rw [hlen]; exact hlc) (fun k hk => (hg k hk).2.1) (fun k p hp => ?_) fun k hk => (hg k hk).2.2.2
        · obtain ⟨y, hy, rfl⟩ := List.mem_map.mp hx
          exact hyl y hy
        · obtain ⟨h1, _, h3, _⟩ := hg k (lt_of_get hp)
          rw [hp] at h1; cases h1
          exact h3
      rwa [hlen] at hV

def FOkB (P : Program) (t : TypeId) : FS → Bool
  | .plain g => decide (tagsOf P 12 t = some [g]) && decide (P.cellsOf t = 1)
  | .sl e l agg => (match P.underlying t with
      | some (.slice e') => decide (e' = e)
      | _ => false) && (decide (tagsOf P 12 e = some l) && (decide (l.length = P.cellsOf e) && (decide (0 < l.length) && ((agg || decide (l.length = 1)) && decide (P.cellsOf t = 1)))))
def slNB (P : Program) (e : TypeId) (fss : List FS) : Bool := match P.underlying e with
  | some (.struct fs) => decide (P.cellsOf e = fss.length) && (List.range fss.length).all fun i => match fs[i]?, fss[i]? with
    | some f, some s => decide (f.offset = i) && (decide (P.cellsOf f.type = 1) && FOkB P f.type s)
    | _, _ => false
  | _ => false
theorem FOkB_ok {t : TypeId} {s : FS} (h : FOkB P t s = true) : FOk P t s := by
  cases s with
  | plain g =>
    simp only [FOkB, Bool.and_eq_true, decide_eq_true_eq] at h
    exact h
  | sl e l agg =>
    simp only [FOkB, Bool.and_eq_true, Bool.or_eq_true, decide_eq_true_eq] at h
    obtain ⟨h1, h2, h3, h4, h5, h6⟩ := h
    refine ⟨?_, h2, h3, h4, fun ha => ?_, h6⟩
    · split at h1
      · rename_i e' he
        simp only [decide_eq_true_eq] at h1
        rw [he, h1]
      · cases h1
    · rcases h5 with h5 | h5
      · rw [ha] at h5; cases h5
      · exact h5
/-- A slice of structs, whose cells are plain or slices: what the kernel checks. -/
theorem open_slNB {r : Reach} {b0 : Nat} {t e : TypeId} {fss : List FS} {v : Value} {d : DataW H} {ps : List MemPlace} {G : List (Nat × Obj)}
    (ht : P.underlying t = some (.slice e)) (hB : slNB P e fss = true) (h0 : 0 < fss.length) (hval : Value.okWide P w r b0 t v) (h : DataW.Trod enc P w base sp held t v d ps) :
    ∃ ys : List (List PV), (∀ y ∈ ys, y.length = fss.length ∧ ∀ (i : Nat) (p : PV) (s : FS), y[i]? = some p → fss[i]? = some s → FSays s p) ∧ ys.length ≤ maxLen ∧ V (gmap G) (globs G) w v (.sl fss.length (ys.map PV.agg)) := by
  unfold slNB at hB
  split at hB
  · rename_i fs he
    simp only [Bool.and_eq_true, decide_eq_true_eq] at hB
    refine open_slN ht he hB.1 h0 (fun i s hs => ?_) hval h
    have h1 := List.all_eq_true.mp hB.2 i (List.mem_range.mpr (List.getElem?_eq_some_iff.mp hs).1)
    rw [hs] at h1
    cases hf : fs[i]? with
    | none => rw [hf] at h1; cases h1
    | some f =>
      rw [hf] at h1
      simp only [Bool.and_eq_true, decide_eq_true_eq] at h1
      exact ⟨f, rfl, h1.1, h1.2.1, FOkB_ok h1.2.2⟩
  · cases hB
end
end Go.Proofs.SL
