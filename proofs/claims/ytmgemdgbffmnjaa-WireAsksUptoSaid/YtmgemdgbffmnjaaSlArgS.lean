/-
  SL: slices that a law is handed, of numbers, texts, truths, structs and arrays of such; rows of laws with named variables. No claim by itself.
-/
import Derived.Test.YtmgemdgbffmnjaaSlView
import Derived.Deep.Slices
import Derived.Carry
namespace Go.Proofs.SL
open Go Go.RowKit
set_option linter.unusedSimpArgs false
set_option linter.unusedVariables false

/-- An element, of its cells. -/
def wrapE (agg : Bool) (cs : List PV) : PV := if agg then .agg cs else cs.getD 0 .any

section
variable {H : Type} {enc : TypeId × Value → H} {P : Program} {w : World} {base : Nat} {sp : Nat → Bool} {held : Bool}

theorem globs_ownless {G : List (Nat × Obj)} {i : Nat} (h : AliveM (globs G) i) : False := by
  obtain ⟨o, ho, h1⟩ := h
  obtain ⟨x, _, rfl⟩ := globs_get ho
  cases h1

theorem single_of {y : List PV} {l : List Tag} (hy : y.map tagP = l.map some) (hl : l.length = 1) : ∃ q g, y = [q] ∧ l = [g] ∧ tagP q = some g := by
  obtain ⟨g, rfl⟩ := List.length_eq_one_iff.mp hl
  have h1 := congrArg List.length hy
  simp only [List.length_map, List.length_cons, List.length_nil] at h1
  obtain ⟨q, rfl⟩ := List.length_eq_one_iff.mp h1
  simp only [List.map_cons, List.map_nil, List.cons.injEq, and_true] at hy
  exact ⟨q, g, rfl, rfl, hy⟩
theorem wrap_cells {agg : Bool} {y : List PV} {l : List Tag} (hy : y.map tagP = l.map some) (hagg : agg = false → l.length = 1) : (wrapE agg y).cells = y := by
  cases agg with
  | true => rfl
  | false =>
    obtain ⟨q, g, rfl, _, hq⟩ := single_of hy (hagg rfl)
    cases q <;> simp only [tagP] at hq <;> first | rfl | (cases hq; done)

theorem valP_v {β : Nat → Option Nat} {H' : Heap} {w2 : World} {p : PV} {g : Tag} (h : tagP p = some g) : V β H' w2 (valP p) p ∧ (valP p).oneCell' = true := by
  cases p <;> simp only [tagP] at h <;> first
    | (cases h; done)
    | exact ⟨.bool _, rfl⟩
    | exact ⟨.int _ _, rfl⟩
    | exact ⟨.str _, rfl⟩

theorem flat_wrap {agg : Bool} {ys : List (List PV)} {l : List Tag} (hy : ∀ y ∈ ys, y.map tagP = l.map some) (hagg : agg = false → l.length = 1) : flat (ys.map (wrapE agg)) = ys.flatten := by
  induction ys with
  | nil => rfl
  | cons y ys ih =>
    have h1 := wrap_cells (hy y (by simp)) hagg
    have h2 := ih fun z hz => hy z (List.mem_cons_of_mem _ hz)
    simp only [flat, List.map_cons, List.flatMap_cons, h1, List.flatten_cons] at h2 ⊢
    rw [h2]

theorem flatten_at {ys : List (List PV)} {m : Nat} (h : ∀ y ∈ ys, y.length = m) : ∀ k, k < ys.flatten.length → k / m < ys.length ∧ k % m < m ∧ ys.flatten[k]? = (ys.getD (k / m) [])[k % m]? := by
  induction ys with
  | nil => intro k hk; simp at hk
  | cons y ys ih =>
    intro k hk
    have hy := h y (by simp)
    have ih := ih fun z hz => h z (List.mem_cons_of_mem _ hz)
    rw [List.flatten_cons]
    rcases Nat.lt_or_ge k m with hlt | hge
    · have : 0 < m := by omega
      rw [List.getElem?_append_left (by omega), Nat.div_eq_of_lt hlt, Nat.mod_eq_of_lt hlt]
      exact ⟨by simp, hlt, by simp⟩
    · by_cases hm : m = 0
      · subst hm
        have e : ys.flatten = [] := by
          apply List.eq_nil_of_length_eq_zero
          rw [List.length_flatten]
          have : ys.map List.length = List.replicate ys.length 0 := by
            apply List.ext_getElem?
            intro i
            simp only [List.getElem?_map, List.getElem?_replicate]
            cases hi : ys[i]? with
            | none => rw [if_neg (by simpa using hi)]; rfl
            | some z => rw [if_pos (lt_of_get hi)]; simp [h z (List.mem_cons_of_mem _ (List.mem_of_getElem? hi))]
          rw [this]; simp
        rw [List.flatten_cons, e, List.append_nil] at hk; omega
      · obtain ⟨j, rfl⟩ := Nat.exists_eq_add_of_le hge
        rw [List.flatten_cons, List.length_append] at hk
        obtain ⟨h1, h2, h3⟩ := ih j (by omega)
        have e1 : (m + j) / m = j / m + 1 := by rw [Nat.add_div_left _ (by omega)]
        have e2 : (m + j) % m = j % m := by rw [Nat.add_mod_left]
        rw [e1, e2, List.getElem?_append_right (by omega), hy, Nat.add_sub_cancel_left, h3]
        exact ⟨by simp; exact h1, h2, by simp⟩

/-- A slice that a law is handed. -/
theorem open_sl {r : Reach} {b0 : Nat} {t e : TypeId} {l : List Tag} {v : Value} {d : DataW H} {ps : List MemPlace} {G : List (Nat × Obj)} (agg : Bool)
    (ht : P.underlying t = some (.slice e)) (hl : tagsOf P 12 e = some l) (hn : l.length = P.cellsOf e) (h0 : 0 < l.length) (hagg : agg = false → l.length = 1)
    (hval : Value.okWide P w r b0 t v) (h : DataW.Trod enc P w base sp held t v d ps) :
    ∃ ys : List (List PV), (∀ y ∈ ys, y.map tagP = l.map some ∧ ∀ q ∈ y, wfP q) ∧ ys.length ≤ maxLen ∧ V (gmap G) (globs G) w v (.sl l.length (ys.map (wrapE agg))) := by
  obtain ⟨n, hn'⟩ := h
  have one : ∀ cs, v.cells.toList = [cs] → (∀ x, cs ≠ .agg x) → v = cs := by
    intro cs hcs hne
    cases v <;> simp [Value.cells] at hcs <;> first | exact hcs | skip
    unfold Value.okWide at hval
    rw [ht] at hval
    simp only [Cell.okWide, Cell.ok, ht] at hval
  rcases Go.Deep.open_slice ht hn' with ⟨hcs, _⟩ | ⟨a, len, cap, m, n2, D, Pl, hcs, hb, hlc, hcap, hm, hx, hel⟩
  · have := one _ hcs (by simp)
    subst this
    exact ⟨[], by simp, Nat.zero_le _, .sl0 _ _ _⟩
  · have := one _ hcs (by simp)
    subst this
    have hspot : a.spot = none := by
      unfold Value.okWide at hval
      rw [ht] at hval
      simp only [Cell.okWide, Cell.ok, ht] at hval
      exact hval.2.2.2.1
    obtain ⟨b, off, spot⟩ := a
    simp only at hspot
    subst hspot
    have hlm : len ≤ m := by rw [hm]; split <;> omega
    -- each element's cells
    have each : ∀ i, i < len → ∃ y : List PV, y.map tagP = l.map some ∧ (∀ q ∈ y, wfP q) ∧ ∀ k, k < l.length → w.cell? ⟨b, off + i * l.length + k, none⟩ = (y[k]?).map valP := fun i hi => by
      obtain ⟨cs', h1, h2⟩ := hel i (by omega)
      obtain ⟨y, q1, q2, q3, _⟩ := trod_flat 12 e l hl hn n2 cs' _ h2
      obtain ⟨_, hlen, hc⟩ := World.cells?_some h1
      refine ⟨y, q2, q3, fun k hk => ?_⟩
      have := hc k (by omega)
      rw [q1, List.getElem?_map] at this
      rw [← this, ← hn]
      congr 1
      unfold Addr.add
      by_cases hi0 : i * l.length = 0 <;> by_cases hk0 : k = 0 <;> simp [hi0, hk0]
    obtain ⟨f, hf⟩ := Go.Deep.choose_lt (α := List PV) each
    refine ⟨(List.range len).map f, fun y hy => ?_, by simpa using by omega, ?_⟩
    · obtain ⟨i, hi, rfl⟩ := List.mem_map.mp hy
      have := hf i (List.mem_range.mp hi)
      exact ⟨this.1, this.2.1⟩
    · by_cases hz : len = 0
      · subst hz; exact .sl0 _ _ _
      have hys : ∀ y ∈ (List.range len).map f, y.map tagP = l.map some := fun y hy => by
        obtain ⟨i, hi, rfl⟩ := List.mem_map.mp hy
        exact (hf i (List.mem_range.mp hi)).1
      have hyl : ∀ y ∈ (List.range len).map f, y.length = l.length := fun y hy => by
        have := congrArg List.length (hys y hy)
        simpa using this
      have hfl := flat_wrap hys hagg
      have hlt : b < w.heap.size := by
        obtain ⟨_, _, hc⟩ := hf 0 (by omega)
        have h1 := hc 0 h0
        have h2 := (hf 0 (by omega)).1
        have h3 := congrArg List.length h2
        simp only [List.length_map] at h3
        rw [List.getElem?_eq_getElem (by omega)] at h1
        unfold World.cell? at h1
        rcases Nat.lt_or_ge b w.heap.size with h | h
        · exact h
        · simp [Array.getElem?_eq_none h] at h1
      have hcell : ∀ k, k < (flat (((List.range len).map f).map (wrapE agg))).length → ∃ p, (flat (((List.range len).map f).map (wrapE agg)))[k]? = some p ∧ w.cell? ⟨b, off + k, none⟩ = some (valP p) ∧ ∃ g, tagP p = some g := fun k hk => by
        rw [hfl] at hk ⊢
        obtain ⟨h1, h2, h3⟩ := flatten_at hyl k hk
        have hi : k / l.length < len := by simpa using h1
        obtain ⟨hy, _, hc⟩ := hf _ hi
        have hg : ((List.range len).map f).getD (k / l.length) [] = f (k / l.length) := by simp [List.getD_eq_getElem?_getD, hi]
        rw [hg] at h3
        have hlen := congrArg List.length hy
        simp only [List.length_map] at hlen
        have hp : (f (k / l.length))[k % l.length]? = some ((f (k / l.length))[k % l.length]'(by omega)) := List.getElem?_eq_getElem _
        refine ⟨_, h3.trans hp, ?_, ?_⟩
        · have := hc _ h2
          rw [hp] at this
          have e : off + k / l.length * l.length + k % l.length = off + k := by have := Nat.div_add_mod k l.length; rw [Nat.mul_comm] at this; omega
          rwa [e] at this
        · have h4 := congrArg (·[k % l.length]?) hy
          simp only [List.getElem?_map, hp, Option.map_some] at h4
          cases hl2 : l[k % l.length]? with
          | none => rw [hl2] at h4; cases h4
          | some g => rw [hl2] at h4; simp only [Option.map_some, Option.some.injEq] at h4; exact ⟨g, h4⟩
      have hlen : (((List.range len).map f).map (wrapE agg)).length = len := by simp
      have hV : V (gmap G) (globs G) w (.slice (some ⟨b, off, none⟩) (((List.range len).map f).map (wrapE agg)).length cap) (.sl l.length (((List.range len).map f).map (wrapE agg))) := by
        refine .sl b off cap l.length _ (fun k => valP ((flat (((List.range len).map f).map (wrapE agg))).getD k .any)) ⟨hlt, fun i hi => (globs_ownless hi).elim⟩ (fun x hx => ?_) (by rw [hlen]; exact hlc) (fun k hk => ?_) (fun k p hp => ?_) fun k hk => ?_
        · obtain ⟨y, hy, rfl⟩ := List.mem_map.mp hx
          rw [wrap_cells (hys y hy) hagg, hyl y hy]
        · obtain ⟨p, h1, h2, _⟩ := hcell k hk
          rw [h2, List.getD_eq_getElem?_getD, h1]; rfl
        · obtain ⟨p', h1, _, g, hg⟩ := hcell k (lt_of_get hp)
          rw [hp] at h1; cases h1
          rw [List.getD_eq_getElem?_getD, hp]
          exact (valP_v hg).1
        · obtain ⟨p', h1, _, g, hg⟩ := hcell k hk
          rw [List.getD_eq_getElem?_getD, h1]
          exact (valP_v (β := gmap G) (H' := globs G) (w2 := w) hg).2
      rwa [hlen] at hV

/-- What was handed is read again, behind the call. -/
theorem trod_back {t : TypeId} (hl : laidOutB P = true) (hr : P.readableRec t = true) (hrow : t < P.types.size) {W W' : World} {v : Value} {d : DataW H} {ps : List MemPlace}
    (h : DataW.Trod enc P W 0 (fun _ => true) true t v d ps) (hb : Below W.heap.size W W') : DataW.Trod enc P W' 0 (fun b => decide (b < W.heap.size)) true t v d ps :=
  hb.trod hl hr hrow h (by obtain ⟨n, hn⟩ := h; exact fun p hp => DataW.trod_lt n _ _ _ hn p hp)
end

/-- Slices of bytes, of texts. -/
theorem ys_bytes {ys : List (List PV)} (h : ∀ y ∈ ys, y.map tagP = ([.i .u8] : List Tag).map some ∧ ∀ q ∈ y, wfP q) : ∃ B : List UInt8, ys.map (wrapE false) = B.map (fun b => PV.int .u8 (b.toNat : Nat)) ∧ B.length = ys.length := by
  induction ys with
  | nil => exact ⟨[], rfl, rfl⟩
  | cons y ys ih =>
    obtain ⟨B, hB, hl⟩ := ih fun z hz => h z (List.mem_cons_of_mem _ hz)
    obtain ⟨h1, h2⟩ := h y (by simp)
    obtain ⟨q, g, rfl, hg, h1⟩ := single_of h1 rfl
    cases hg
    obtain ⟨n, rfl, hn⟩ := cell_u8 h1 (h2 q (by simp))
    refine ⟨UInt8.ofNat n :: B, ?_, by simp [hl]⟩
    rw [List.map_cons, hB, List.map_cons]
    have : n % 2 ^ 8 = n := Nat.mod_eq_of_lt (by omega)
    simp only [wrapE, Bool.false_eq_true, if_false, List.getD_cons_zero, UInt8.toNat_ofNat', this]
theorem ys_strs {ys : List (List PV)} (h : ∀ y ∈ ys, y.map tagP = ([.s] : List Tag).map some ∧ ∀ q ∈ y, wfP q) : ∃ l : List (List UInt8), ys.map (wrapE false) = strs l ∧ l.length = ys.length ∧ ∀ a ∈ l, a.length ≤ maxLen := by
  induction ys with
  | nil => exact ⟨[], rfl, rfl, by simp⟩
  | cons y ys ih =>
    obtain ⟨l, hB, hl, hm⟩ := ih fun z hz => h z (List.mem_cons_of_mem _ hz)
    obtain ⟨h1, h2⟩ := h y (by simp)
    obtain ⟨q, g, rfl, hg, h1⟩ := single_of h1 rfl
    cases hg
    obtain ⟨s, rfl, hn⟩ := cell_str h1 (h2 q (by simp))
    refine ⟨s :: l, ?_, by simp [hl], by simp; exact ⟨hn, hm⟩⟩
    rw [List.map_cons, hB]; rfl
theorem ys_i64s {ys : List (List PV)} (h : ∀ y ∈ ys, y.map tagP = ([.i .i64] : List Tag).map some ∧ ∀ q ∈ y, wfP q) : ∃ l : List Int, ys.map (wrapE false) = l.map (fun n => PV.int .i64 n) ∧ l.length = ys.length ∧ ∀ n ∈ l, -9223372036854775808 ≤ n ∧ n ≤ 9223372036854775807 := by
  induction ys with
  | nil => exact ⟨[], rfl, rfl, by simp⟩
  | cons y ys ih =>
    obtain ⟨l, hB, hl, hm⟩ := ih fun z hz => h z (List.mem_cons_of_mem _ hz)
    obtain ⟨h1, h2⟩ := h y (by simp)
    obtain ⟨q, g, rfl, hg, h1⟩ := single_of h1 rfl
    cases hg
    obtain ⟨n, rfl, a, b⟩ := cell_i64 h1 (h2 q (by simp))
    refine ⟨n :: l, ?_, by simp [hl], by simp; exact ⟨⟨a, b⟩, hm⟩⟩
    rw [List.map_cons, hB]; rfl

/-- The wrap for a plain row with named variables, the world's shape kept. -/
theorem returns_named {H : Type} {enc : TypeId × Value → H} {a : Assume} {C : Checked} {os : Os} {f : FuncId} {fn : Func} {s : ChangeSpec} {conds : List PathCond} {apart fresh handsOn again : Bool}
    (own : ownKnob C.prog.godebug = none) (started : os.Started) (noInit : C.prog.inits.idxOf? f = none) (hfn : C.prog.funcs[f]? = some fn)
    (witness : ∃ (w : World) (tape : Tape) (i : Input), w.os = os ∧ (w.forCall tape i).Shaped C.prog ∧ i.vars = [] ∧ Input.okWide C.prog (w.forCall tape i) .any w.heap.size f i ∧
      s.pre6 enc C.prog fn conds apart (w.forCall tape i).memory i.args ∧ a.holds C.prog (lone (Frame.enter C.prog f i.args .normal) [] (w.forCall tape i)))
    (contract : ∀ (W : World) (base : Nat) (args : Array Value) (ds gs : List (DataW H)) (before : List MemPlace),
      (∀ (j : Nat) t v, fn.params[j]? = some t → args[j]? = some v → Value.okWide C.prog W .any base t v) →
      DataW.Whole enc C.prog fn.params.toList s.vars apart W args.toList ds gs before → W.ShapedOpen C.prog →
      Calls C.prog f args W fun e W' => ∃ v, e = .returned v ∧ s.post enc C.prog fn apart fresh handsOn again W args v W') :
    ReturnsInHanded a C os f .any (s.pre6 enc C.prog fn conds apart) (s.post enc C.prog fn apart fresh handsOn again) := by
  refine returnsInHanded_of_calls own started noInit witness ?_
  intro w tape i _ hsh _ hok hpre hholds
  obtain ⟨_, _, _, fn', hfn', _, _, _, _, hval⟩ := hok
  have e : fn' = fn := Option.some.inj (hfn'.symm.trans hfn)
  subst e
  obtain ⟨⟨ds, gs, before, hw, hc⟩, hz⟩ := hpre
  have hw' := DataW.Whole.of_heap (w' := w.forCall tape i) (by rfl) hw
  refine (contract (w.forCall tape i) w.heap.size i.args ds gs before hval hw' hsh).mono fun e W' ⟨v, he, hp⟩ => ?_
  subst he
  exact ChangeSpec.post_blind hp

end Go.Proofs.SL
