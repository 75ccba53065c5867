/-
  SL: operations that change the heap are sound. No claim by itself.
-/
import Derived.Test.YtmgemdgbffmnjaaSlM1
import Derived.Laws.CopyRow
import Derived.Lib.FrozenHead
import Derived.Maps.RangeRun
import Derived.Laws.MakeOwn
import Derived.OrdersHeld
import Derived.RangeFuncIn
import Derived.Scope
import Derived.RangeFuncRecord
namespace Go.Proofs.SL
open Go
set_option linter.unusedSimpArgs false
set_option linter.unusedVariables false
variable {P : Program} {T : Nat → Option TD} {β : Nat → Option Nat} {H : Heap} {w : World}

/-- What is to be shown of an operation that may change the world. -/
def Does (P : Program) (β : Nat → Option Nat) (H : Heap) (w : World) (s : Sem Value) (v : PV) (H' : Heap) : Prop :=
  ∃ x w' β', s.run P w = .ok x w' ∧ Inv β' H' w' ∧ Ext β H w β' H' w' ∧ V β' H' w' x v

def YesE (P : Program) (ρ : Operand → Value) (o : Oper) (β : Nat → Option Nat) (H : Heap) (w : World) (v : PV) (H' : Heap) : Prop :=
  ∃ nx x w' β', (execOp ρ o).run P w = .ok nx w' ∧ (nx = .value x ∨ (nx = .skip ∧ x = undef)) ∧ Inv β' H' w' ∧ Ext β H w β' H' w' ∧ V β' H' w' x v

theorem yes_does {ρ : Operand → Value} {o : Oper} {v : PV} {H' : Heap} {s : Sem Value} (e : execOp ρ o = (do pure (.value (← s)))) (h : Does P β H w s v H') : YesE P ρ o β H w v H' := by
  obtain ⟨x, w', β', hr, h1, h2, h3⟩ := h
  refine ⟨.value x, x, w', β', ?_, .inl rfl, h1, h2, h3⟩
  rw [e]
  simp only [Sem.run_bind, hr, Result.andThen_ok]
  rfl

theorem same_push (w : World) (o : Obj) : Same w { w with heap := w.heap.push o } := ⟨rfl, rfl, rfl, by simp⟩
theorem push_old (w : World) (o : Obj) {b : Nat} (h : b < w.heap.size) : ({ w with heap := w.heap.push o } : World).heap[b]? = w.heap[b]? := by
  simp only [Array.getElem?_push]
  rw [if_neg (by omega)]

/-- A new block, that is an object of the heap. -/
theorem new_obj (hI : Inv β H w) {w' : World} (hw : Same w w') {c : Array Value} {t : TypeId} {fz : Nat × Nat} {cs : List PV} {f : Nat → Value} {b : Nat} (hb : w.heap.size ≤ b)
    (hp : ∀ k, k < w.heap.size → w'.heap[k]? = w.heap[k]?) (hh : w'.heap[b]? = some (.cells c t fz)) (hsz : cs.length ≤ c.size)
    (hf : ∀ k, k < cs.length → c[k]? = some (f k)) (hV : ∀ (k : Nat) (p : PV), cs[k]? = some p → V β H w (f k) p) (hone : ∀ k, k < cs.length → (f k).oneCell' = true) (ver : Nat) (hfz : FzOk c.size ver fz) :
    Ext β H w (more β H.length (some b)) (H ++ [some (.cells ver cs)]) w' ∧ Inv (more β H.length (some b)) (H ++ [some (.cells ver cs)]) w' := by
  have hr : ∀ x, some b = some x → w.heap.size ≤ x := fun x hx => by cases hx; exact hb
  have he := push_ext hI hw hp (o := .cells ver cs) (r := some b) hr
  refine ⟨he, push_inv hI hp hr he ⟨fun hn => ?_, fun x hx => ?_⟩⟩
  · rw [more_self] at hn; cases hn
  · rw [more_self] at hx
    cases hx
    exact ⟨c, t, fz, f, hh, hsz, hf, fun k p hkp => (hV k p hkp).mono he, hone, hfz⟩

theorem live_new (H : Heap) (ver : Nat) (cs : List PV) : (H ++ [some (.cells ver cs)])[H.length]? = some (some (OB.cells ver cs)) := by simp
theorem ref_new (H : Heap) (ver : Nat) (cs : List PV) : Ref (H ++ [some (.cells ver cs)]) H.length ver :=
  ⟨by simp, fun o ho => by rw [live_new] at ho; cases ho; exact Nat.le_refl _⟩

theorem bsize_eq {w : World} {b : Nat} {c : Array Value} {t : TypeId} {fz : Nat × Nat} (h : w.heap[b]? = some (.cells c t fz)) : bsize w b = c.size := by unfold bsize; rw [h]

/-- A new variable. -/
theorem new_var (hI : Inv β H w) (t : TypeId) {x : Value} {p : PV} (hx : V β H w x p) (hp : p ≠ .any) (ha : p.cells.all PV.one = true) : Does P β H w (do pure (.pointer (some (← newVar t x)))) (.ptr H.length 0 0) (H ++ [some (.cells 0 p.cells)]) := by
  obtain ⟨h1, h2⟩ := hx.cellsOf hp
  have hf : ∀ k, k < p.cells.length → x.cells[k]? = some (x.cells.getD k undef) := fun k hk => by simp [Array.getD, h1, hk]
  obtain ⟨he, hi⟩ := new_obj hI (same_push w (.cells x.cells t)) (c := x.cells) (t := t) (fz := (0, 0)) (cs := p.cells) (f := fun k => x.cells.getD k undef) (b := w.heap.size) (Nat.le_refl _)
    (fun k hk => push_old w _ hk) (by simp) (by omega) hf (fun k q hq => by
      have hk : k < p.cells.length := by
        rcases Nat.lt_or_ge k p.cells.length with h | h
        · exact h
        · rw [List.getElem?_eq_none h] at hq; cases hq
      exact h2 k _ q (hf k hk) hq) (fun k hk => (h2 k _ _ (hf k hk) (List.getElem?_eq_getElem hk)).oneCell (List.all_eq_true.mp ha _ (List.getElem_mem hk))) 0 FzOk.nil
  refine ⟨_, _, _, rfl, hi, he, .ptr _ _ _ _ (ref_new ..) fun _ => ?_⟩
  rw [more_self]

theorem box_ok (hI : Inv β H w) (t : TypeId) {x : Value} {p : PV} (hx : V β H w x p) (hp : p ≠ .any) (ha : p.cells.all PV.one = true) : Does P β H w (Instr.box t x) (.ptr H.length 0 0) (H ++ [some (.cells 0 p.cells)]) :=
  new_var hI t hx hp ha

theorem alloc_ok {t : TypeId} {d : TD} (hT : TdOk P t d) (hI : Inv β H w) (hp : d.zero ≠ .any) (ha : d.zero.cells.all PV.one = true) : Does P β H w (Instr.alloc t true (.tuple #[])) (.ptr H.length 0 0) (H ++ [some (.cells 0 d.zero.cells)]) := by
  obtain ⟨z, hz, hzV⟩ := run_zeroValue' (w := w) (β := β) (H := H) hT
  obtain ⟨x, w', β', hr, h1, h2, h3⟩ := new_var (P := P) hI t hzV hp ha
  refine ⟨x, w', β', ?_, h1, h2, h3⟩
  unfold Instr.alloc
  simp only [Sem.run_bind, hz, Result.andThen_ok]
  exact hr

/-- A new block whose slice is read only, or an object. -/
theorem new_slice (hI : Inv β H w) {w' : World} (hw : Same w w') (mu : Bool) {m : Nat} {xs : List PV} {c : Array Value} {t : TypeId} {fz : Nat × Nat} {f : Nat → Value} {b cap : Nat} (hb : w.heap.size ≤ b) (hbl : b < w'.heap.size)
    (hp : ∀ k, k < w.heap.size → w'.heap[k]? = w.heap[k]?) (hh : w'.heap[b]? = some (.cells c t fz)) (hm : ∀ x ∈ xs, x.cells.length = m) (hsz : (flat xs).length ≤ cap * m) (hcs : c.size = cap * m) (hcap : xs.length ≤ cap)
    (hf : ∀ k, k < (flat xs).length → c[k]? = some (f k)) (hV : ∀ (k : Nat) (p : PV), (flat xs)[k]? = some p → V β H w (f k) p) (hone : ∀ k, k < (flat xs).length → (f k).oneCell' = true) {ver : Nat} (hfz : FzOk c.size ver fz)
    {cc : Bool} {r : R} (hr : newSlice mu cc H m xs ver = r) :
    ∃ v H' β', r = .val cc v H' ∧ Inv β' H' w' ∧ Ext β H w β' H' w' ∧ V β' H' w' (.slice (some ⟨b, 0, none⟩) xs.length cap) v := by
  unfold newSlice at hr
  cases mu with
  | true =>
    simp only [if_true] at hr
    obtain ⟨he, hi⟩ := new_obj hI hw hb hp hh (cs := flat xs) (by omega) hf hV hone ver hfz
    refine ⟨_, _, _, hr.symm, hi, he, .buf _ _ _ _ _ _ _ _ hcap (fun _ => ⟨b, rfl⟩) (ref_new ..) fun hl => ⟨fun hn => ?_, fun b' hb' => .inr ?_⟩⟩
    · rw [more_self] at hn; cases hn
    · rw [more_self] at hb'
      cases hb'
      refine ⟨rfl, by rw [bsize_eq hh]; omega, fun _ => ⟨rfl, ?_⟩⟩
      unfold olen
      rw [live_new]
      exact hsz
  | false =>
    simp only [Bool.false_eq_true, if_false] at hr
    have he := quiet_ext hI hw hp
    refine ⟨_, _, β, hr.symm, quiet_inv hI hw hp, he, ?_⟩
    refine .sl b 0 cap m xs f ⟨hbl, fun i hi hbi => ?_⟩ hm hcap (fun k hk => ?_) (fun k p hk => (hV k p hk).mono he) hone
    · have := hI.block hi.alive hbi; omega
    · rw [Nat.zero_add, cell_of hh]; exact hf k hk


theorem run_storeCells_free (g o : Nat) (t : TypeId) (fz : Nat × Nat) : ∀ (vs : List Value) (i : Nat) (cur : Array Value) (w : World), w.heap[g]? = some (.cells cur t fz) →
    (∀ k, k < cur.size → ¬ (fz.1 ≤ k ∧ k < fz.2)) → o + i + vs.length ≤ cur.size → (∀ v ∈ vs, v.oneCell' = true) →
    (storeCells ⟨g, o, none⟩ vs i).run P w = .ok () (w.setRow g (cur.toList.take (o + i) ++ vs ++ cur.toList.drop (o + i + vs.length)).toArray)
  | [], i, cur, w, hg, _, _, _ => by
    simp only [storeCells, List.append_nil, List.length_nil, Nat.add_zero, List.take_append_drop, Array.toArray_toList]
    rw [setRow_self w g cur t fz hg]
    rfl
  | v :: rest, i, cur, w, hg, hfz, hl, h1 => by
    have hi : o + i < cur.size := by simp at hl; omega
    have hadd : (⟨g, o, none⟩ : Addr).add i = ⟨g, o + i, none⟩ := addr_add ..
    have hcell : w.cell? ⟨g, o + i, none⟩ = some cur[o + i] := by simp [World.cell?, hg, hi]
    have hfro : w.frozen? ⟨g, o + i, none⟩ = false := by
      have := hfz (o + i) hi
      obtain ⟨lo, hi'⟩ := fz
      simp only [World.frozen?, hg, Bool.and_eq_false_iff, decide_eq_false_iff_not]
      simp only at this
      omega
    have hst : (store ((⟨g, o, none⟩ : Addr).add i) v).run P w = .ok () (w.setRow g (cur.setIfInBounds (o + i) v)) := by
      rw [hadd, run_store P w _ v _ (h1 v (by simp)), hcell]
      simp [hfro, setCell_eq_setRow w g (o + i) cur t fz v hg]
    have ih := run_storeCells_free g o t fz rest (i + 1) (cur.setIfInBounds (o + i) v) (w.setRow g (cur.setIfInBounds (o + i) v)) (setRow_heap w g cur _ t _ hg) (by simpa using hfz) (by simp at hl ⊢; omega) (fun x hx => h1 x (by simp [hx]))
    simp only [storeCells, Sem.run_bind, hst, Result.andThen_ok, ih, setRow_setRow]
    congr 3
    have e := list_seg_step cur.toList (o + i) v rest (by simp at hl ⊢; omega)
    simpa [Array.toList_setIfInBounds, Nat.add_assoc] using e

/-- Cells of an object's block are stored into. -/
theorem store_cells (hI : Inv β H w) {i ver ver' : Nat} {cs cs' : List PV} (ho : H[i]? = some (some (.cells ver cs))) {b : Nat} (hb : β i = some b) {off : Nat} {vs : List Value} {ps : List PV}
    (hl : vs.length = ps.length) (hV : ∀ (k : Nat) (v : Value) (p : PV), vs[k]? = some v → ps[k]? = some p → V β H w v p) (h1 : ∀ v ∈ vs, v.oneCell' = true)
    (hroom : off + ps.length ≤ bsize w b) (hlen : cs'.length ≤ bsize w b)
    (hcs : ∀ (k : Nat) (p : PV), cs'[k]? = some p → (off ≤ k ∧ k < off + ps.length ∧ ps[k - off]? = some p) ∨ (¬ (off ≤ k ∧ k < off + ps.length) ∧ cs[k]? = some p))
    (hv : ver < ver' ∨ (ver' = ver ∧ cs'.length = cs.length)) :
    ∃ w', (storeCells ⟨b, off, none⟩ vs).run P w = .ok () w' ∧ Inv β (H.set i (some (.cells ver' cs'))) w' ∧ Ext β H w β (H.set i (some (.cells ver' cs'))) w' ∧ bsize w' b = bsize w b := by
  obtain ⟨_, hbb⟩ := hI.cells ho
  obtain ⟨c, t, fz, f, hh, hsz, hf, hfV, hfo, hfz⟩ := hbb b hb
  rw [bsize_eq hh] at hroom hlen
  have hrun := run_storeCells_free (P := P) b off t fz vs 0 c w hh hfz.1 (by omega) h1
  simp only [Nat.add_zero] at hrun
  generalize hc' : (c.toList.take off ++ vs ++ c.toList.drop (off + vs.length)).toArray = c' at hrun
  have hcs' : c'.size = c.size := by rw [← hc']; simp; omega
  have hget : ∀ k, c'[k]? = if off ≤ k ∧ k < off + vs.length then vs[k - off]? else c[k]? := by
    intro k
    rw [← hc']
    simp only [List.getElem?_toArray, List.append_assoc, List.getElem?_append, List.length_take, Array.length_toList, List.getElem?_take, List.getElem?_drop, Array.getElem?_toList]
    have e1 : min off c.size = off := by omega
    rw [e1]
    by_cases k1 : k < off
    · rw [if_pos k1, if_pos k1, if_neg (by omega)]
    · rw [if_neg k1]
      by_cases k2 : k - off < vs.length
      · rw [if_pos k2, if_pos (by omega)]
      · rw [if_neg k2, if_neg (by omega)]
        congr 1; omega
  have hp : ∀ k, k < w.heap.size → k ≠ b → (w.setRow b c').heap[k]? = w.heap[k]? := fun k _ hk => setRow_other w b k c' hk
  have hnew := setRow_heap w b c c' t fz hh
  have hsame : Same w (w.setRow b c') := ⟨rfl, rfl, rfl, by simp⟩
  have hbs : bsize (w.setRow b c') b = bsize w b := by rw [bsize_eq hh, bsize_eq hnew, hcs']
  have he : Ext β H w β (H.set i (some (.cells ver' cs'))) (w.setRow b c') := set_ext hI hsame ho hb hp hbs hv
  refine ⟨_, hrun, set_inv hI ho hb hp he ⟨(fun hn => by rw [hb] at hn; cases hn), fun b' hb' => ?_⟩, he, hbs⟩
  rw [hb] at hb'
  cases hb'
  have hcase : ∀ k, k < cs'.length → (off ≤ k ∧ k < off + vs.length ∧ ∃ v, vs[k - off]? = some v ∧ c'.getD k undef = v) ∨ (k < cs.length ∧ c'.getD k undef = f k) := fun k hk => by
    have hgk := hget k
    rw [Array.getElem?_eq_getElem (by omega)] at hgk
    have hgd : c'.getD k undef = c'[k]'(by omega) := by simp [Array.getD, show k < c'.size by omega]
    rcases hcs k _ (List.getElem?_eq_getElem hk) with ⟨h1', h2', h3'⟩ | ⟨h1', h2'⟩
    · rw [if_pos (by omega)] at hgk
      exact .inl ⟨h1', by omega, _, hgk.symm, hgd⟩
    · rw [if_neg (by omega)] at hgk
      have hkc : k < cs.length := by
        rcases Nat.lt_or_ge k cs.length with h | h
        · exact h
        · rw [List.getElem?_eq_none h] at h2'; cases h2'
      rw [hf k hkc] at hgk
      simp only [Option.some.injEq] at hgk
      exact .inr ⟨hkc, by rw [hgd, hgk]⟩
  refine ⟨c', t, fz, fun k => c'.getD k undef, hnew, by omega, fun k hk => by simp [Array.getD, show k < c'.size by omega], fun k p hkp => ?_, fun k hk => ?_, by rw [show c'.size = c.size by omega]; exact ⟨hfz.1, fun h => hfz.2 (by omega)⟩⟩
  · have hk : k < cs'.length := by
      rcases Nat.lt_or_ge k cs'.length with h | h
      · exact h
      · rw [List.getElem?_eq_none h] at hkp; cases hkp
    rcases hcs k p hkp with ⟨h1', h2', h3'⟩ | ⟨h1', h2'⟩
    · rcases hcase k hk with ⟨_, _, v, hv, e⟩ | ⟨hkc, e⟩
      · simp only [e]; exact (hV (k - off) v p hv h3').mono he
      · have hgk := hget k
        rw [if_pos (by omega), Array.getElem?_eq_getElem (by omega)] at hgk
        have hgd : c'.getD k undef = c'[k]'(by omega) := by simp [Array.getD, show k < c'.size by omega]
        simp only [hgd]
        exact (hV (k - off) _ p hgk.symm h3').mono he
    · rcases hcase k hk with ⟨h3', h4', _⟩ | ⟨hkc, e⟩
      · exact absurd ⟨h3', by omega⟩ h1'
      · simp only [e]; exact (hfV k p h2').mono he
  · rcases hcase k hk with ⟨_, _, v, hv, e⟩ | ⟨hkc, e⟩
    · simp only [e]; exact h1 v (List.mem_of_getElem? hv)
    · simp only [e]; exact hfo k hkc

theorem ptr_block (hI : Inv β H w) {i ver : Nat} {cs : List PV} (ho : H[i]? = some (some (.cells ver cs))) {b : Nat} (hb : β i = some b) : cs.length ≤ bsize w b := by
  obtain ⟨_, hbb⟩ := hI.cells ho
  obtain ⟨c, t, fz, f, hh, hsz, _⟩ := hbb b hb
  rw [bsize_eq hh]; exact hsz

theorem store_ok (hT : TOk P T) (hI : Inv β H w) {t : Nat} {d : TD} (hd : T t = some d) {i ver off : Nat} {cs cs' : List PV} {x y : Value} {p : PV} (hx : V β H w x (.ptr i ver off)) (hy : V β H w y p)
    (ho : obj H i ver = some cs) {c : Bool} (h : storeV d cs off p = (c, cs')) (hc : c = true) :
    ∃ w', (Instr.storeAt t x y).run P w = .ok () w' ∧ Inv β (H.set i (some (.cells ver cs'))) w' ∧ Ext β H w β (H.set i (some (.cells ver cs'))) w' := by
  have ho := obj_some ho
  obtain ⟨b, rfl, hl, hlv⟩ := hx.ptr_inv
  have hb := hlv (live_of ho)
  have hbs := ptr_block hI ho hb
  unfold Instr.storeAt Instr.sureAddr storeVar
  simp only [Sem.run_bind, Sem.run_pure, Result.andThen_ok, run_sizeOf' (hT t d hd)]
  unfold storeV at h
  split at h
  · split at h
    · rename_i vs
      simp only [Prod.mk.injEq] at h; obtain ⟨rfl, rfl⟩ := h
      simp only [Bool.and_eq_true, decide_eq_true_eq] at hc
      obtain ⟨h1, h2, h3⟩ := hc
      obtain ⟨ws, rfl, hs, hv⟩ := hy.agg_inv
      obtain ⟨w', hr, hi', he', _⟩ := store_cells (P := P) hI ho hb (ver' := ver) (cs' := cs.take off ++ vs ++ cs.drop (off + d.size)) (off := off) (vs := ws.toList) (ps := vs) (by simpa using hs)
        (fun k v p hk hp => hv k v p (by simpa using hk) hp)
        (fun v hv' => by
          obtain ⟨k, hk, rfl⟩ := List.mem_iff_getElem.mp hv'
          simp only [Array.length_toList] at hk
          exact (hv k _ (vs[k]'(hs ▸ hk)) (by simp [hk]) (by simp [hs ▸ hk])).oneCell (List.all_eq_true.mp h3 _ (List.getElem_mem _)))
        (by omega) (by simp; omega) (fun k q hk => by
          simp only [List.append_assoc, List.getElem?_append, List.length_take, List.getElem?_take, List.getElem?_drop] at hk
          have e1 : min off cs.length = off := by omega
          rw [e1] at hk
          by_cases k1 : k < off
          · rw [if_pos k1, if_pos k1] at hk; exact .inr ⟨by omega, hk⟩
          · rw [if_neg k1] at hk
            by_cases k2 : k - off < vs.length
            · rw [if_pos k2] at hk; exact .inl ⟨by omega, by omega, hk⟩
            · rw [if_neg k2] at hk
              refine .inr ⟨by omega, ?_⟩
              rw [← hk]; congr 1; omega) (.inr ⟨rfl, by simp; omega⟩)
      refine ⟨w', ?_, hi', he'⟩
      have : ws.size = d.size := by omega
      simp only [Value.cells, this, ne_eq, not_true_eq_false, if_false, hr]
    · simp only [Prod.mk.injEq] at h; rw [← h.1] at hc; cases hc
  · simp only [Prod.mk.injEq] at h; obtain ⟨rfl, rfl⟩ := h
    simp only [Bool.and_eq_true, decide_eq_true_eq] at hc
    obtain ⟨h1, h2, h3⟩ := hc
    have hone := hy.oneCell h2
    have hcl : y.cells = #[y] := by cases y <;> first | rfl | simp [Value.oneCell'] at hone
    obtain ⟨w', hr, hi', he', _⟩ := store_cells (P := P) hI ho hb (ver' := ver) (cs' := cs.set off p) (off := off) (vs := [y]) (ps := [p]) rfl
      (fun k v q hk hq => by
        cases k with
        | zero => simp at hk hq; subst hk; subst hq; exact hy
        | succ k => simp at hk)
      (fun v hv => by simp at hv; subst hv; exact hone) (by simp; omega) (by simp; omega) (fun k q hk => by
        simp only [List.length_singleton]
        by_cases e : k = off
        · subst e
          rw [List.getElem?_set_self h1] at hk
          exact .inl ⟨by omega, by omega, by simpa using hk⟩
        · rw [List.getElem?_set_ne (Ne.symm e)] at hk
          exact .inr ⟨by omega, hk⟩) (.inr ⟨rfl, by simp⟩)
    refine ⟨w', ?_, hi', he'⟩
    simp only [hcl, h3]
    simpa using hr

end Go.Proofs.SL

/-
  SL: operations that change the heap are sound: slices. No claim by itself.
-/
namespace Go.Proofs.SL
open Go
set_option linter.unusedSimpArgs false
set_option linter.unusedVariables false
variable {P : Program} {T : Nat → Option TD} {β : Nat → Option Nat} {H : Heap} {w : World}

theorem V.cells_one {v : Value} {p : PV} (h : V β H w v p) (hv : v.oneCell' = true) : p.cells = [p] := by
  cases h <;> first | rfl | simp [Value.oneCell'] at hv

theorem chunk_ok {m : Nat} {agg : Bool} (hm : agg = true ∨ m = 1) : ∀ (n : Nat) (cs : List PV), cs.length = n * m → (∀ p ∈ cs, p.cells = [p]) →
    flat (chunk m agg n cs) = cs ∧ (chunk m agg n cs).length = n ∧ ∀ x ∈ chunk m agg n cs, x.cells.length = m
  | 0, cs, h, _ => by
    have : cs = [] := List.eq_nil_of_length_eq_zero (by simpa using h)
    subst this
    exact ⟨rfl, rfl, by simp [chunk]⟩
  | n + 1, cs, h, h1 => by
    rw [Nat.succ_mul] at h
    have hd : (cs.drop m).length = n * m := by simp; omega
    obtain ⟨e1, e2, e3⟩ := chunk_ok hm n (cs.drop m) hd (fun p hp => h1 p (List.mem_of_mem_drop hp))
    have hc : (if agg then PV.agg (cs.take m) else cs.getD 0 .any).cells = cs.take m := by
      cases agg with
      | true => rfl
      | false =>
        obtain rfl : m = 1 := by simpa using hm
        cases cs with
        | nil => simp at h
        | cons c cs => simp [h1 c (by simp)]
    refine ⟨?_, by simp [chunk, e2], fun x hx => ?_⟩
    · unfold chunk
      rw [flat_cons, hc, e1, List.take_append_drop]
    · unfold chunk at hx
      rcases List.mem_cons.mp hx with rfl | hx
      · rw [hc]; simp; omega
      · exact e3 x hx

/-- A source of elements: a slice or a string. -/
structure Src (P : Program) (β : Nat → Option Nat) (H : Heap) (w : World) (d : TD) (x : Value) (xs : List PV) : Prop where
  len : (Builtin.lenOf x).run P w = .ok xs.length w
  hm : ∀ y ∈ xs, y.cells.length = d.size
  f : ∃ f : Nat → Value, (∀ n, n ≤ xs.length → ∀ w2 : World, w2.heap = w.heap → (Builtin.firstCells d.size n x).run P w2 = .ok ((List.range (n * d.size)).map f).toArray w2) ∧
    (∀ (k : Nat) (p : PV), (flat xs)[k]? = some p → V β H w (f k) p) ∧ ∀ k, k < (flat xs).length → (f k).oneCell' = true

theorem str_flat (s : List UInt8) : flat (s.map fun b => PV.int .u8 b.toNat) = s.map fun b => PV.int .u8 b.toNat := by
  induction s with
  | nil => rfl
  | cons b s ih => rw [List.map_cons, flat_cons, ih]; rfl

theorem toList_data (s : ByteArray) : s.toList = s.data.toList := by simp [ByteArray.toList_eq]

theorem src_nil {d : TD} (a : Option Addr) (cap : Nat) : Src P β H w d (.slice a 0 cap) [] where
  len := rfl
  hm := by simp
  f := ⟨fun _ => undef, fun n hn w2 _ => by
    obtain rfl : n = 0 := by simpa using hn
    cases a with
    | none => simp [Builtin.firstCells]
    | some a => simp [Builtin.firstCells, loadCells, loadCellsFrom], by simp [flat], by simp [flat]⟩

theorem elemsOf_ok (hI : Inv β H w) {d : TD} {x : Value} {p : PV} (hx : V β H w x p) {c : Bool} {xs : List PV} (h : elemsOf H d p = some (c, xs)) (hc : c = true) : Src P β H w d x xs := by
  unfold elemsOf at h
  split at h
  · rename_i m ys
    simp only [Option.some.injEq, Prod.mk.injEq] at h; obtain ⟨rfl, rfl⟩ := h
    have hm' : m = d.size := of_decide_eq_true hc
    obtain ⟨a, cap, rfl, hcap, hsl⟩ := hx.sl_inv
    by_cases hne : ys = []
    · subst hne; exact src_nil a cap
    · obtain ⟨b, off, rfl, him, hm, f, h1, h2, h3⟩ := hsl hne
      subst hm'
      refine ⟨rfl, hm, f, fun n hn w2 hw2 => ?_, h2, h3⟩
      show (loadCells ⟨b, off, none⟩ (n * d.size)).run P w2 = _
      refine run_loadCells w2 _ _ f fun j hj => ?_
      rw [addr_add, cell?_of_heap (w := w) (by rw [hw2])]
      refine h1 j ?_
      rw [flat_length hm]
      exact Nat.lt_of_lt_of_le hj (Nat.mul_le_mul_right _ hn)
  · rename_i s
    simp only [Option.some.injEq, Prod.mk.injEq] at h; obtain ⟨rfl, rfl⟩ := h
    simp only [Bool.and_eq_true, decide_eq_true_eq] at hc
    obtain rfl := hx.str_inv
    refine ⟨?_, fun y hy => ?_, fun k => .int .u8 (s.get! k).toNat, fun n hn w2 _ => ?_, fun k p hk => ?_, fun k _ => rfl⟩
    · show (Pure.pure s.size : Sem Nat).run P w = _
      rw [Sem.run_pure]; congr 1; rw [List.length_map, toList_data, Array.length_toList]; rfl
    · obtain ⟨b, _, rfl⟩ := List.mem_map.mp hy; rw [hc.1]; rfl
    · rw [hc.1, Nat.mul_one]
      unfold Builtin.firstCells
      rw [Sem.run_pure]
      congr 1
      simp only [List.length_map, toList_data, Array.length_toList] at hn
      apply Array.ext
      · have hss : s.size = s.data.size := rfl
        simp [ByteArray.data_extract]; omega
      · intro i h1 h2
        simp at h2
        simp only [Array.getElem_map, ByteArray.data_extract, Array.getElem_extract, Nat.zero_add, List.getElem_toArray, List.getElem_map, List.getElem_range]
        congr 2
        show s.data[i].toNat = (s.data[i]!).toNat
        rw [getElem!_pos s.data i (by omega)]
    · rw [str_flat, List.getElem?_map] at hk
      cases hb : s.toList[k]? with
      | none => rw [hb] at hk; cases hk
      | some b =>
        rw [hb] at hk
        simp only [Option.map_some, Option.some.injEq] at hk
        subst hk
        have : s.get! k = b := by
          rw [toList_data, Array.getElem?_toList] at hb
          show s.data[k]! = b
          rw [getElem!_def, hb]
        simp only [this]
        exact .int ..
  · simp only [Option.some.injEq, Prod.mk.injEq] at h; obtain ⟨_, rfl⟩ := h
    rw [hx.nils_inv]; exact src_nil none 0
  · simp only [Option.some.injEq, Prod.mk.injEq] at h; obtain ⟨_, rfl⟩ := h
    obtain ⟨a, rfl⟩ := hx.empt_inv; exact src_nil a 0
  · rename_i i ver off len m tip
    split at h
    · rename_i cs ho
      simp only [Option.some.injEq, Prod.mk.injEq] at h; obtain ⟨rfl, rfl⟩ := h
      simp only [Bool.and_eq_true, decide_eq_true_eq, Bool.or_eq_true] at hc
      obtain ⟨rfl, hle, hag⟩ := hc
      have ho := obj_some ho
      obtain ⟨a, cap, rfl, hcap, ha, hl, hlv⟩ := hx.buf_inv
      by_cases hz : len = 0
      · subst hz; exact src_nil a cap
      · obtain ⟨b, rfl⟩ := ha hz
        obtain ⟨h0, h1⟩ := hlv (live_of ho)
        have hb : β i = some b := by
          cases hbj : β i with
          | none => have := (h0 hbj).1; omega
          | some b' =>
            rcases h1 b' hbj with ⟨h5, _⟩ | ⟨h5, _⟩
            · omega
            · simp only [Option.some.injEq, Addr.mk.injEq] at h5; rw [h5.1]
        obtain ⟨_, hbb⟩ := hI.cells ho
        obtain ⟨c', t', fz, f, hh, hsz, hf, hV, hone, _⟩ := hbb b hb
        have hsub : (subCells cs off (len * d.size)).length = len * d.size := by simp [subCells]; omega
        have hget : ∀ (k : Nat) (p : PV), (subCells cs off (len * d.size))[k]? = some p → k < len * d.size ∧ cs[off + k]? = some p := fun k p hp => by
          simp only [subCells, List.getElem?_take, List.getElem?_drop] at hp
          split at hp
          · exact ⟨by assumption, hp⟩
          · cases hp
        obtain ⟨e1, e2, e3⟩ := chunk_ok hag len (subCells cs off (len * d.size)) hsub (fun p hp => by
          obtain ⟨k, hk, rfl⟩ := List.mem_iff_getElem.mp hp
          obtain ⟨hk1, hk2⟩ := hget k _ (List.getElem?_eq_getElem hk)
          exact (hV _ _ hk2).cells_one (hone _ (by omega)))
        refine ⟨by rw [e2]; rfl, e3, fun k => f (off + k), fun n hn w2 hw2 => ?_, fun k p hp => ?_, fun k hk => ?_⟩
        · rw [e2] at hn
          show (loadCells ⟨b, off, none⟩ (n * d.size)).run P w2 = _
          refine run_loadCells w2 _ _ (fun k => f (off + k)) fun j hj => ?_
          rw [addr_add, cell?_of_heap (w := w) (by rw [hw2]), cell_of hh]
          have : n * d.size ≤ len * d.size := Nat.mul_le_mul_right _ hn
          exact hf _ (by omega)
        · rw [e1] at hp
          exact hV _ p (hget k p hp).2
        · rw [e1, hsub] at hk
          exact hone _ (by omega)
    · cases h
  · cases h


theorem zeroCells_size (z : Array Value) (n : Nat) : (Builtin.zeroCells z n).size = n * z.size := by simp [Builtin.zeroCells]

theorem nextslice_le (need cap : Nat) (h : cap < need) : Builtin.nextslicecap need cap ≤ 2 * need := by
  unfold Builtin.nextslicecap
  split
  · omega
  · split
    · omega
    · have grow : ∀ (r c : Nat), c ≤ 2 * need → Builtin.growBy need r c ≤ 2 * need := by
        intro r
        induction r with
        | zero => intro c hc; simp only [Builtin.growBy]; omega
        | succ r ih =>
          intro c hc
          simp only [Builtin.growBy]
          split
          · omega
          · exact ih _ (by omega)
      exact grow 4 cap (by omega)

theorem info_ok {t : Nat} {d : TD} (hT : TdOk P t d) : ∃ i z, P.info? t = some i ∧ i.size = d.size ∧ i.bytes = d.bytes ∧ i.zero = some z ∧ z.cells.size = d.size := by
  obtain ⟨i, z, h1, h2, h3, h4, _, h5⟩ := hT.info
  exact ⟨i, z, h1, h2, h3, h4, h5⟩

theorem run_typeInfo' {t : Nat} {i : TypeInfo} (h : P.info? t = some i) : (typeInfo t).run P w = .ok i w := by
  unfold typeInfo; simp [h]

/-- What 'append' does that makes a new block. -/
theorem append_grow {ts ue : Nat} {e : Nat} {de : TD} (hs : P.underlying ts = some (.slice e)) {du : TypeDesc} (hu : P.underlying ue = some du) (hud : ∀ k, du ≠ .int k) (hT : TdOk P e de) {ty : TypeId}
    {base : Option Addr} {len cap : Nat} {olds : Array Value} (hold : ∀ w2 : World, w2.heap = w.heap → (Builtin.firstCells de.size len (.slice base len cap)).run P w2 = .ok olds w2)
    {x : Value} {n : Nat} (hlen : (Builtin.lenOf x).run P w = .ok n w) {news : Array Value} (hnew : ∀ w2 : World, w2.heap = w.heap → (Builtin.firstCells de.size n x).run P w2 = .ok news w2)
    (hcap : cap < len + n) (hb : (len + n) * de.bytes ≤ most) (hb' : len + n ≤ most) :
    ∃ w' ncap, ∃ rest : Array Value, (Builtin.append_ #[ts, ue] ty #[.slice base len cap, x]).run P w = .ok (.slice (some ⟨w.heap.size, 0, none⟩) (len + n) ncap) w' ∧ Same w w' ∧
      w'.heap = w.heap.push (.cells (olds ++ news ++ rest) e) ∧ len + n ≤ ncap ∧ rest.size = (ncap - (len + n)) * de.size := by
  obtain ⟨i, z, hi, hsz, hby, hz, hzs⟩ := info_ok hT
  have hn : ¬ (len + n ≤ cap) := by omega
  have hmost : most = 70368744177664 := rfl
  have h63 : ¬ (9223372036854775807 < ((len : Int) + (n : Int))) := by omega
  have h48 : ¬ (281474976710656 < Builtin.nextslicecap (len + n) cap * i.bytes) := by
    have h1 := nextslice_le (len + n) cap hcap
    have h2 : Builtin.nextslicecap (len + n) cap * i.bytes ≤ 2 * (len + n) * i.bytes := Nat.mul_le_mul_right _ h1
    rw [hby] at h2 ⊢
    have h3 : 2 * (len + n) * de.bytes = 2 * ((len + n) * de.bytes) := Nat.mul_assoc ..
    omega
  let w1 : World := { w with drawn := w.drawn + 1 }
  have ho1 := hold w1 rfl
  have hn1 := hnew w1 rfl
  generalize hq : (Question.appendCap (len + n) cap e).cut (w.tape w.drawn (.appendCap (len + n) cap e)) = ncap
  refine ⟨{ w1 with heap := w1.heap.push (.cells (olds ++ news ++ Builtin.zeroCells z.cells (ncap - (len + n))) e) }, ncap, Builtin.zeroCells z.cells (ncap - (len + n)), ?_, ⟨rfl, rfl, rfl, by simp [w1]⟩, rfl, ?_, by rw [zeroCells_size, hzs]⟩
  · rw [← hsz] at ho1 hn1
    have hdu' : ∀ (s1 s2 : Bool), (match (some du : Option TypeDesc) with | some (.int _) => s1 | _ => s2) = s2 := by
      intro s1 s2
      cases du <;> first | rfl | exact absurd rfl (hud _)
    have hl2 : ∀ w2 : World, (Builtin.lenOf x).run P w2 = .ok n w2 := by
      intro w2
      cases x <;> simp [Builtin.lenOf] at hlen ⊢ <;> assumption
    simp [Builtin.append_, run_underlying hs, run_underlying hu, sizeOf, typeInfo, zeroValue, hi, hz, hl2, hn, h63, h48, Question.forced, newRow]
    have ho2 : (Builtin.firstCells i.size len (.slice base len cap)).run P w.drew = .ok olds w.drew := ho1
    have hn2 : (Builtin.firstCells i.size n x).run P w.drew = .ok news w.drew := hn1
    rw [ho2, Result.andThen_ok, hn2, Result.andThen_ok, hq]
    rfl
  · rw [← hq]; simp only [Question.cut]; omega


/-- What 'append' does that has room. -/
theorem append_room {ts ue : Nat} {e : Nat} {de : TD} (hs : P.underlying ts = some (.slice e)) {du : TypeDesc} (hu : P.underlying ue = some du) (hud : ∀ k, du ≠ .int k) (hT : TdOk P e de) {ty : TypeId}
    {base : Option Addr} {len cap : Nat} {x : Value} {n : Nat} (hlen : (Builtin.lenOf x).run P w = .ok n w) {news : Array Value} (hnew : ∀ w2 : World, w2.heap = w.heap → (Builtin.firstCells de.size n x).run P w2 = .ok news w2)
    (hcap : len + n ≤ cap) : (Builtin.append_ #[ts, ue] ty #[.slice base len cap, x]).run P w =
      match base with
      | none => .ok (.slice base (len + n) cap) w
      | some a => ((storeCells (a.add (len * de.size)) news.toList).run P w).andThen fun _ w' => .ok (.slice base (len + n) cap) w' := by
  obtain ⟨i, z, hi, hsz, hby, hz, hzs⟩ := info_ok hT
  have hn1 := hnew w rfl
  rw [← hsz] at hn1 ⊢
  cases base with
  | none =>
    simp [Builtin.append_, run_underlying hs, run_underlying hu, sizeOf, typeInfo, zeroValue, hi, hz, hlen, hcap, hn1]
  | some a =>
    simp [Builtin.append_, run_underlying hs, run_underlying hu, sizeOf, typeInfo, zeroValue, hi, hz, hlen, hcap, hn1]


theorem heap_push {w w' : World} {o : Obj} (h : w'.heap = w.heap.push o) : (∀ k, k < w.heap.size → w'.heap[k]? = w.heap[k]?) ∧ w'.heap[w.heap.size]? = some o ∧ w.heap.size < w'.heap.size := by
  rw [h]
  refine ⟨fun k hk => ?_, by simp, by simp⟩
  rw [Array.getElem?_push, if_neg (by omega)]

theorem getElem?_lt {α : Type} {l : List α} {k : Nat} {x : α} (h : l[k]? = some x) : k < l.length := by
  rcases Nat.lt_or_ge k l.length with h' | h'
  · exact h'
  · rw [List.getElem?_eq_none h'] at h; cases h

/-- A slice of no elements, grown. -/
theorem append_nil_ok {ts ue : Nat} {e : Nat} {de : TD} (hs : P.underlying ts = some (.slice e)) {du : TypeDesc} (hu : P.underlying ue = some du) (hud : ∀ k, du ≠ .int k) (hT : TdOk P e de) (hI : Inv β H w) {ty : TypeId}
    {a : Option Addr} {x : Value} {xs : List PV} (hx : Src P β H w de x xs) (mu : Bool) (hb : xs.length * de.bytes ≤ most) (hb' : xs.length ≤ most) {cc : Bool} {r : R} (hr : newSlice mu cc H de.size xs = r) :
    ∃ v H', r = .val cc v H' ∧ Does P β H w (Builtin.append_ #[ts, ue] ty #[.slice a 0 0, x]) v H' := by
  obtain ⟨f, hf, hV, hone⟩ := hx.f
  have hfl := flat_length hx.hm
  by_cases hne : xs = []
  · subst hne
    have hroom := append_room (P := P) (w := w) hs hu hud hT (ty := ty) (base := a) (len := 0) (cap := 0) hx.len (fun w2 h2 => hf _ (Nat.le_refl _) w2 h2) (by simp)
    have hrun : (Builtin.append_ #[ts, ue] ty #[.slice a 0 0, x]).run P w = .ok (.slice a 0 0) w := by
      rw [hroom]
      cases a with
      | none => rfl
      | some a => simp [storeCells]
    unfold newSlice at hr
    cases mu with
    | true =>
      simp only [if_true] at hr
      have hre : ∀ b, (none : Option Nat) = some b → w.heap.size ≤ b := fun b hb => by cases hb
      have he := push_ext hI ⟨rfl, rfl, rfl, Nat.le_refl _⟩ (fun _ _ => rfl) (o := .cells 0 (flat [])) (r := none) hre (w' := w)
      refine ⟨_, _, hr.symm, _, _, _, hrun, push_inv hI (fun _ _ => rfl) hre he ⟨fun _ => rfl, fun b hb => ?_⟩, he, .buf _ _ _ _ _ _ _ _ (Nat.le_refl _) (fun h => absurd rfl h) (ref_new ..) fun hl => ⟨fun _ => ⟨rfl, fun _ => rfl⟩, fun b hb => ?_⟩⟩
      · rw [more_self] at hb; cases hb
      · rw [more_self] at hb; cases hb
    | false =>
      simp only [Bool.false_eq_true, if_false] at hr
      exact ⟨_, _, hr.symm, _, _, β, hrun, hI, Ext.refl .., .sl0 ..⟩
  · have hn : 0 < xs.length := List.length_pos_iff.mpr hne
    have hold : ∀ w2 : World, w2.heap = w.heap → (Builtin.firstCells de.size 0 (.slice a 0 0)).run P w2 = .ok #[] w2 := fun w2 _ => by
      cases a with
      | none => rfl
      | some a => simp [Builtin.firstCells, loadCells, loadCellsFrom]
    obtain ⟨w', ncap, rest, hrun, hsame, hheap, hcap, hrest⟩ := append_grow (P := P) (w := w) hs hu hud hT (ty := ty) (base := a) (len := 0) (cap := 0) (olds := #[]) hold hx.len
      (fun w2 h2 => hf _ (Nat.le_refl _) w2 h2) (by omega) (by simpa using hb) (by simpa using hb')
    obtain ⟨h1, h2, h3⟩ := heap_push hheap
    simp only [Nat.zero_add] at hrun hcap hrest
    have hsum : xs.length * de.size + (ncap - xs.length) * de.size = ncap * de.size := by rw [← Nat.add_mul]; congr 1; omega
    have hle : xs.length * de.size ≤ ncap * de.size := Nat.mul_le_mul_right _ hcap
    obtain ⟨v, H', β', hr', hi', he', hv'⟩ := new_slice hI hsame mu (m := de.size) (xs := xs) (cap := ncap) (f := f) (Nat.le_refl _) h3 h1 h2 hx.hm (by rw [hfl]; exact hle)
      (by simp [hrest]; exact hsum) hcap (fun k hk => by
        rw [hfl] at hk
        simp [Array.getElem?_append, List.getElem?_range, hk]) hV hone FzOk.nil hr
    exact ⟨v, H', hr', _, _, _, hrun, hi', he', hv'⟩

theorem bump_ext (hI : Inv β H w) {i : Nat} {o o' : OB} (ho : H[i]? = some (some o)) (hv : o.ver < o'.ver) (hown : o.own = true := by rfl) : Ext β H w β (H.set i (some o')) w where
  len := by simp
  live := fun j ver hj => by
    have hil : i < H.length := Alive.lt ⟨o, ho⟩
    refine ⟨⟨by simp; exact hj.1, fun x hx => ?_⟩, fun hl => ?_⟩
    · rw [set_get hil] at hx
      split at hx
      · rename_i e
        subst e
        simp only [Option.some.injEq] at hx
        subst hx
        have := hj.2 o ho
        omega
      · exact hj.2 x hx
    · obtain ⟨x, hx, hxv⟩ := hl
      have hxx := hx
      rw [set_get hil] at hx
      split at hx
      · rename_i e
        subst e
        simp only [Option.some.injEq] at hx
        subst hx
        have h1 := hj.2 o ho
        omega
      · rename_i e
        refine ⟨⟨x, hx, hxv⟩, rfl, ?_, fun b' hb' => rfl⟩
        unfold olen; rw [hxx, hx]
  imm := fun k hk => ⟨rfl, hk.1, fun j hj => hk.2 j (aliveM_set ho hown hj)⟩
  os := rfl
  tape := rfl
  output := rfl
  size := Nat.le_refl _

end Go.Proofs.SL

/-
  SL: maps that are made and change; ranges over maps. No claim by itself.
-/
namespace Go.Proofs.SL
open Go Go.MapKept
set_option linter.unusedSimpArgs false
set_option linter.unusedVariables false

section
variable {P : Program} {β : Nat → Option Nat} {H : Heap} {w : World}
theorem makeMap_ok (hI : Inv β H w) (t : TypeId) : Does P β H w (Instr.makeMap t none) (.mp H.length) (H ++ [some (.map [])]) := by
  have hp : ∀ k, k < w.heap.size → ({ w with heap := w.heap.push (.map #[] 0) } : World).heap[k]? = w.heap[k]? := fun k hk => push_old w _ hk
  have hr : ∀ x, some w.heap.size = some x → w.heap.size ≤ x := fun x hx => by cases hx; exact Nat.le_refl _
  have he := push_ext hI (same_push w (.map #[] 0)) hp (o := .map []) (r := some w.heap.size) hr
  have hi := push_inv (o := .map []) hI hp hr he ⟨w.heap.size, #[], 0, more_self .., by simp, rfl, fun j e p h => by simp at h, fun j e h => by simp at h, fun i j e f h => by simp at h⟩
  refine ⟨.map (some w.heap.size), _, _, rfl, hi, he, .mp _ _ ⟨by simp, fun o ho => Nat.zero_le _⟩ fun _ => more_self ..⟩

theorem update_run (hI : Inv β H w) {mty kt et : TypeId} {dk : TD} (hm : P.underlying mty = some (.map kt et)) (hD : TdOk P kt dk)
    {i : Nat} {es : List (PV × PV)} (ho : H[i]? = some (some (.map es))) {x k y : Value} {p v : PV} (hx : V β H w x (.mp i)) (hv : V β H w k p) (hy : V β H w y v) (hp : isKeyP dk p = true) (hK : ∀ q ∈ es, isKeyP dk q.1 = true) :
    ∃ w', (Instr.mapUpdate mty x k y).run P w = .ok () w' ∧ Inv β (H.set i (some (.map (putM p v es)))) w' ∧ Ext β H w β (H.set i (some (.map (putM p v es)))) w' := by
  obtain ⟨b, rfl, hr, hl⟩ := hx.mp_inv
  obtain ⟨b', c, n, hb, hh, hsz, hV, hborn, hord⟩ := hI.ok i _ ho
  have hbb : b = b' := by
    have := hl ⟨_, ho, rfl⟩
    rw [hb] at this; cases this; rfl
  subst hbb
  have hblt := hI.block ⟨_, ho⟩ hb
  have hfind := find_rel hD hv hp c.toList es (by simpa using hsz) (fun j e q h1 h2 => hV j e q (by simpa using h1) h2) hK
  have main : ∀ (c' : Array MapEntry) (n' : Nat) (es' : List (PV × PV)), c'.size = es'.length →
      (∀ (j : Nat) (e : MapEntry) (q : PV × PV), c'[j]? = some e → es'[j]? = some q → V β H w e.key q.1 ∧ V β H w e.val q.2) → (∀ (j : Nat) (e : MapEntry), c'[j]? = some e → e.born < n') →
      (∀ (i j : Nat) (e f : MapEntry), c'[i]? = some e → c'[j]? = some f → i < j → e.born < f.born) →
      Inv β (H.set i (some (.map es'))) { w with heap := w.heap.setIfInBounds b (.map c' n') } ∧ Ext β H w β (H.set i (some (.map es'))) { w with heap := w.heap.setIfInBounds b (.map c' n') } := by
    intro c' n' es' h1 h2 h3 h4
    have hp1 : ∀ k, k < w.heap.size → k ≠ b → ({ w with heap := w.heap.setIfInBounds b (.map c' n') } : World).heap[k]? = w.heap[k]? := fun k _ hk => by
      simp only; rw [Array.getElem?_setIfInBounds_ne (Ne.symm hk)]
    have hnew : ({ w with heap := w.heap.setIfInBounds b (.map c' n') } : World).heap[b]? = some (.map c' n') := by simp [hblt]
    have he := set_ext hI (w' := { w with heap := w.heap.setIfInBounds b (.map c' n') }) ⟨rfl, rfl, rfl, by simp⟩ ho hb hp1 (by unfold bsize; rw [hnew, hh]) (o' := .map es') (.inr ⟨rfl, rfl⟩)
    exact ⟨set_inv hI ho hb hp1 he ⟨b, c', n', hb, hnew, h1, fun j e q a1 a2 => ⟨(h2 j e q a1 a2).1.mono he, (h2 j e q a1 a2).2.mono he⟩, h3, h4⟩, he⟩
  unfold putM
  rcases hfind with ⟨h1, h2⟩ | ⟨j, e, q, h1, h2, h3, h4, h5⟩
  · rw [h1]
    simp only
    obtain ⟨m1, m2⟩ := main (c.push { key := k, val := y, born := n }) (n + 1) (es ++ [(p, v)]) (by simp [hsz]) (fun j e q a1 a2 => by
      rw [Array.getElem?_push] at a1
      split at a1
      · rename_i hj
        cases a1
        rw [hj, hsz, List.getElem?_append_right (Nat.le_refl _), Nat.sub_self] at a2
        cases a2
        exact ⟨hv, hy⟩
      · have hj : j < c.size := by
          rcases Nat.lt_or_ge j c.size with h | h
          · exact h
          · rw [Array.getElem?_eq_none h] at a1; cases a1
        rw [List.getElem?_append_left (by omega)] at a2
        exact hV j e q a1 a2) (fun j e a1 => by
      rw [Array.getElem?_push] at a1
      split at a1
      · cases a1; exact Nat.lt_succ_self _
      · exact Nat.lt_succ_of_lt (hborn j e a1)) (fun i j e f a1 a2 hij => by
      rw [Array.getElem?_push] at a1 a2
      split at a2
      · rename_i hj
        cases a2
        split at a1
        · omega
        · exact hborn i e a1
      · rename_i hj
        have hjl : j < c.size := by
          rcases Nat.lt_or_ge j c.size with h | h
          · exact h
          · rw [Array.getElem?_eq_none h] at a2; cases a2
        split at a1
        · omega
        · exact hord i j e f a1 a2 hij)
    refine ⟨_, ?_, m1, m2⟩
    simp [Instr.mapUpdate, run_underlying hm, Go.MapKept.run_getObj_map hh, run_ck hD hv hp, h2, Go.MapKept.run_setObj_map _ hh, Result.andThen]
  · rw [h1]
    simp only
    have hcj : c[j]? = some e := by simpa using h3
    have hek : e.key = k := (key_val hv (hV j e q hcj h4).1 hp h5).symm
    have hmod : ∀ j' e', (c.modify j fun e => { e with key := k, val := y })[j']? = some e' → ∃ e0, c[j']? = some e0 ∧ e' = if j = j' then { e0 with key := k, val := y } else e0 := fun j' e' a => by
      rw [Array.getElem?_modify] at a
      split at a
      · rename_i hj
        obtain ⟨e0, h, rfl⟩ := Option.map_eq_some_iff.mp a
        exact ⟨e0, h, by rw [if_pos hj]⟩
      · rename_i hj
        exact ⟨e', a, by rw [if_neg hj]⟩
    obtain ⟨m1, m2⟩ := main (c.modify j fun e => { e with key := k, val := y }) n (es.set j (p, v)) (by simp [hsz]) (fun j' e' q' a1 a2 => by
      obtain ⟨e0, b1, rfl⟩ := hmod j' e' a1
      by_cases hj : j = j'
      · subst hj
        rw [if_pos rfl]
        have hjl : j < es.length := by
          rcases Nat.lt_or_ge j es.length with h | h
          · exact h
          · rw [List.getElem?_eq_none h] at h4; cases h4
        rw [List.getElem?_set_self hjl] at a2
        cases a2
        exact ⟨hv, hy⟩
      · rw [if_neg hj]
        rw [List.getElem?_set_ne hj] at a2
        exact hV j' e0 q' b1 a2) (fun j' e' a1 => by
      obtain ⟨e0, b1, rfl⟩ := hmod j' e' a1
      have := hborn j' e0 b1
      split <;> exact this) (fun i' j' e' f' a1 a2 hij => by
      obtain ⟨e0, b1, rfl⟩ := hmod i' e' a1
      obtain ⟨f0, b2, rfl⟩ := hmod j' f' a2
      have := hord i' j' e0 f0 b1 b2 hij
      split <;> split <;> exact this)
    refine ⟨_, ?_, m1, m2⟩
    simp [Instr.mapUpdate, run_underlying hm, Go.MapKept.run_getObj_map hh, run_ck hD hv hp, h2, hcj, hek, run_stays hv hp, Go.MapKept.run_setObj_map _ hh, Result.andThen]

theorem map_set (hI : Inv β H w) {i : Nat} {es : List (PV × PV)} (ho : H[i]? = some (some (.map es))) {b : Nat} {c : Array MapEntry} {n : Nat} (hb : β i = some b) (hh : w.heap[b]? = some (.map c n))
    (c' : Array MapEntry) (n' : Nat) (es' : List (PV × PV)) (h1 : c'.size = es'.length)
    (h2 : ∀ (j : Nat) (e : MapEntry) (q : PV × PV), c'[j]? = some e → es'[j]? = some q → V β H w e.key q.1 ∧ V β H w e.val q.2) (h3 : ∀ (j : Nat) (e : MapEntry), c'[j]? = some e → e.born < n')
    (h4 : ∀ (i j : Nat) (e f : MapEntry), c'[i]? = some e → c'[j]? = some f → i < j → e.born < f.born) :
    Inv β (H.set i (some (.map es'))) { w with heap := w.heap.setIfInBounds b (.map c' n') } ∧ Ext β H w β (H.set i (some (.map es'))) { w with heap := w.heap.setIfInBounds b (.map c' n') } := by
  have hblt := hI.block ⟨_, ho⟩ hb
  have hp1 : ∀ k, k < w.heap.size → k ≠ b → ({ w with heap := w.heap.setIfInBounds b (.map c' n') } : World).heap[k]? = w.heap[k]? := fun k _ hk => by
    simp only; rw [Array.getElem?_setIfInBounds_ne (Ne.symm hk)]
  have hnew : ({ w with heap := w.heap.setIfInBounds b (.map c' n') } : World).heap[b]? = some (.map c' n') := by simp [hblt]
  have he := set_ext hI (w' := { w with heap := w.heap.setIfInBounds b (.map c' n') }) ⟨rfl, rfl, rfl, by simp⟩ ho hb hp1 (by unfold bsize; rw [hnew, hh]) (o' := .map es') (.inr ⟨rfl, rfl⟩)
  exact ⟨set_inv hI ho hb hp1 he ⟨b, c', n', hb, hnew, h1, fun j e q a1 a2 => ⟨(h2 j e q a1 a2).1.mono he, (h2 j e q a1 a2).2.mono he⟩, h3, h4⟩, he⟩

theorem delete_run (hI : Inv β H w) {mty kt et ty : TypeId} {ats : Array TypeId} (hat : ats[0]? = some mty) {dk : TD} (hm : P.underlying mty = some (.map kt et)) (hD : TdOk P kt dk)
    {i : Nat} {es : List (PV × PV)} (ho : H[i]? = some (some (.map es))) {x k : Value} {p : PV} (hx : V β H w x (.mp i)) (hv : V β H w k p) (hp : isKeyP dk p = true) (hK : ∀ q ∈ es, isKeyP dk q.1 = true) :
    ∃ w', (Builtin.delete_ ats ty #[x, k]).run P w = .ok (.tuple #[]) w' ∧ Inv β (H.set i (some (.map (delM p es)))) w' ∧ Ext β H w β (H.set i (some (.map (delM p es)))) w' := by
  obtain ⟨b, rfl, hr, hl⟩ := hx.mp_inv
  obtain ⟨b', c, n, hb, hh, hsz, hV, hborn, hord⟩ := hI.ok i _ ho
  have hbb : b = b' := by
    have := hl ⟨_, ho, rfl⟩
    rw [hb] at this; cases this; rfl
  subst hbb
  have hfind := find_rel hD hv hp c.toList es (by simpa using hsz) (fun j e q h1 h2 => hV j e q (by simpa using h1) h2) hK
  unfold delM
  rcases hfind with ⟨h1, h2⟩ | ⟨j, e, q, h1, h2, h3, h4, h5⟩
  · rw [h1]
    simp only
    obtain ⟨m1, m2⟩ := map_set hI ho hb hh c n es hsz hV hborn hord
    refine ⟨_, ?_, m1, m2⟩
    simp [Builtin.delete_, hat, run_underlying hm, Go.MapKept.run_getObj_map hh, run_ck hD hv hp, h2, Go.MapKept.run_setObj_map _ hh, Result.andThen]
  · rw [h1]
    simp only
    have hcj : c[j]? = some e := by simpa using h3
    have hjl : j < c.size := by
      rcases Nat.lt_or_ge j c.size with h | h
      · exact h
      · rw [Array.getElem?_eq_none h] at hcj; cases hcj
    have hget : ∀ i, (c.eraseIdxIfInBounds j)[i]? = if i < j then c[i]? else c[i + 1]? := fun i => by
      rw [← Array.getElem?_toList, Array.toList_eraseIdxIfInBounds, List.getElem?_eraseIdx]
      simp
    have hgetL : ∀ i, (es.eraseIdx j)[i]? = if i < j then es[i]? else es[i + 1]? := fun i => List.getElem?_eraseIdx ..
    obtain ⟨m1, m2⟩ := map_set hI ho hb hh (c.eraseIdxIfInBounds j) n (es.eraseIdx j) (by rw [← Array.length_toList, Array.toList_eraseIdxIfInBounds, List.length_eraseIdx, List.length_eraseIdx, Array.length_toList, hsz]) (fun a e q a1 a2 => by
      rw [hget] at a1
      rw [hgetL] at a2
      split at a1
      · rename_i ha; rw [if_pos ha] at a2; exact hV _ _ _ a1 a2
      · rename_i ha; rw [if_neg ha] at a2; exact hV _ _ _ a1 a2) (fun a e a1 => by
      rw [hget] at a1
      split at a1 <;> exact hborn _ _ a1) (fun a a' e f a1 a2 haa => by
      rw [hget] at a1 a2
      split at a1 <;> split at a2 <;> exact hord _ _ _ _ a1 a2 (by omega))
    refine ⟨_, ?_, m1, m2⟩
    simp [Builtin.delete_, hat, run_underlying hm, Go.MapKept.run_getObj_map hh, run_ck hD hv hp, h2, Go.MapKept.run_setObj_map _ hh, Result.andThen]

theorem eraseIdx_mp {α γ : Type} (f : α → γ) (l : List α) (j : Nat) : (l.eraseIdx j).map f = (l.map f).eraseIdx j := by
  apply List.ext_getElem?
  intro i
  simp only [List.getElem?_map, List.getElem?_eraseIdx]
  split <;> rfl

theorem delete_runx (hI : Inv β H w) {mty kt et ty : TypeId} {ats : Array TypeId} (hat : ats[0]? = some mty) {dk : TD} (hm : P.underlying mty = some (.map kt et)) (hD : TdOk P kt dk)
    {i n : Nat} {bs : List Nat} {es : List (PV × PV)} (ho : H[i]? = some (some (.mapx n bs es))) {x k : Value} {p : PV} (hx : V β H w x (.mp i)) (hv : V β H w k p) (hp : isKeyP dk p = true) (hK : ∀ q ∈ es, isKeyP dk q.1 = true) :
    ∃ w', (Builtin.delete_ ats ty #[x, k]).run P w = .ok (.tuple #[]) w' ∧ Inv β (H.set i (some (.mapx n (delB p bs es) (delM p es)))) w' ∧ Ext β H w β (H.set i (some (.mapx n (delB p bs es) (delM p es)))) w' := by
  obtain ⟨b, rfl, hr, hl⟩ := hx.mp_inv
  obtain ⟨b', c, hb, hh, hsz, hV, hbs, hlt, hpw⟩ := hI.ok i _ ho
  have hbb : b = b' := by
    have := hl ⟨_, ho, rfl⟩
    rw [hb] at this; cases this; rfl
  subst hbb
  have hblt := hI.block ⟨_, ho⟩ hb
  have hfind := find_rel hD hv hp c.toList es (by simpa using hsz) (fun j e q h1 h2 => hV j e q (by simpa using h1) h2) hK
  have main : ∀ (c' : Array MapEntry) (bs' : List Nat) (es' : List (PV × PV)), c'.size = es'.length →
      (∀ (j : Nat) (e : MapEntry) (q : PV × PV), c'[j]? = some e → es'[j]? = some q → V β H w e.key q.1 ∧ V β H w e.val q.2) → c'.toList.map (·.born) = bs' → (∀ x ∈ bs', x < n) → bs'.Pairwise (· < ·) →
      Inv β (H.set i (some (.mapx n bs' es'))) { w with heap := w.heap.setIfInBounds b (.map c' n) } ∧ Ext β H w β (H.set i (some (.mapx n bs' es'))) { w with heap := w.heap.setIfInBounds b (.map c' n) } := by
    intro c' bs' es' h1 h2 h3 h4 h5
    have hp1 : ∀ k, k < w.heap.size → k ≠ b → ({ w with heap := w.heap.setIfInBounds b (.map c' n) } : World).heap[k]? = w.heap[k]? := fun k _ hk => by
      simp only; rw [Array.getElem?_setIfInBounds_ne (Ne.symm hk)]
    have hnew : ({ w with heap := w.heap.setIfInBounds b (.map c' n) } : World).heap[b]? = some (.map c' n) := by simp [hblt]
    have he := set_ext hI (w' := { w with heap := w.heap.setIfInBounds b (.map c' n) }) ⟨rfl, rfl, rfl, by simp⟩ ho hb hp1 (by unfold bsize; rw [hnew, hh]) (o' := .mapx n bs' es') (.inr ⟨rfl, rfl⟩)
    exact ⟨set_inv hI ho hb hp1 he ⟨b, c', hb, hnew, h1, fun j e q a1 a2 => ⟨(h2 j e q a1 a2).1.mono he, (h2 j e q a1 a2).2.mono he⟩, h3, h4, h5⟩, he⟩
  unfold delM delB
  rcases hfind with ⟨h1, h2⟩ | ⟨j, e, q, h1, h2, h3, h4, h5⟩
  · rw [h1]
    simp only
    obtain ⟨m1, m2⟩ := main c bs es hsz hV hbs hlt hpw
    refine ⟨_, ?_, m1, m2⟩
    simp [Builtin.delete_, hat, run_underlying hm, Go.MapKept.run_getObj_map hh, run_ck hD hv hp, h2, Go.MapKept.run_setObj_map _ hh, Result.andThen]
  · rw [h1]
    simp only
    have hget : ∀ i, (c.eraseIdxIfInBounds j)[i]? = if i < j then c[i]? else c[i + 1]? := fun i => by
      rw [← Array.getElem?_toList, Array.toList_eraseIdxIfInBounds, List.getElem?_eraseIdx]
      simp
    have hgetL : ∀ i, (es.eraseIdx j)[i]? = if i < j then es[i]? else es[i + 1]? := fun i => List.getElem?_eraseIdx ..
    obtain ⟨m1, m2⟩ := main (c.eraseIdxIfInBounds j) (bs.eraseIdx j) (es.eraseIdx j) (by rw [← Array.length_toList, Array.toList_eraseIdxIfInBounds, List.length_eraseIdx, List.length_eraseIdx, Array.length_toList, hsz]) (fun a e q a1 a2 => by
      rw [hget] at a1
      rw [hgetL] at a2
      split at a1
      · rename_i ha; rw [if_pos ha] at a2; exact hV _ _ _ a1 a2
      · rename_i ha; rw [if_neg ha] at a2; exact hV _ _ _ a1 a2) (by rw [Array.toList_eraseIdxIfInBounds, ← hbs, eraseIdx_mp]) (fun x hx => hlt x (List.mem_of_mem_eraseIdx hx)) (hpw.sublist (List.eraseIdx_sublist _ _))
    refine ⟨_, ?_, m1, m2⟩
    simp [Builtin.delete_, hat, run_underlying hm, Go.MapKept.run_getObj_map hh, run_ck hD hv hp, h2, Go.MapKept.run_setObj_map _ hh, Result.andThen]

/-- A range over a map begins. -/
theorem rangeM_ok (hI : Inv β H w) {t kt et : TypeId} (hm : P.underlying t = some (.map kt et)) {i n : Nat} {bs : List Nat} {es : List (PV × PV)} (ho : H[i]? = some (some (.mapx n bs es))) {x : Value} (hx : V β H w x (.mp i)) :
    Does P β H w (Instr.range t x) (.ptr H.length 0 0) (H ++ [some (.mapit i n [] n)]) := by
  obtain ⟨b, rfl, hr, hl⟩ := hx.mp_inv
  obtain ⟨b', c, hb, hh, hsz, hV, hbs, hlt, hpw⟩ := hI.ok i _ ho
  have hbb : b = b' := by
    have := hl ⟨_, ho, rfl⟩
    rw [hb] at this; cases this; rfl
  subst hbb
  have hp : ∀ k, k < w.heap.size → ({ w with heap := w.heap.push (.mapIter (some b) n #[] n) } : World).heap[k]? = w.heap[k]? := fun k hk => push_old w _ hk
  have hr1 : ∀ x, some w.heap.size = some x → w.heap.size ≤ x := fun x hx => by cases hx; exact Nat.le_refl _
  have he := push_ext hI (same_push w (.mapIter (some b) n #[] n)) hp (o := .mapit i n [] n) (r := some w.heap.size) hr1
  have hil : i < H.length := Alive.lt ⟨_, ho⟩
  have hi := push_inv (o := .mapit i n [] n) hI hp hr1 he ⟨w.heap.size, b, more_self .., by simp, (he.live i 0 hr).1, fun hlv => (((he.live i 0 hr).2 hlv).2.1).trans hb⟩
  refine ⟨.pointer (some ⟨w.heap.size, 0, none⟩), _, _, ?_, hi, he, .ptr _ _ _ _ ⟨by simp, fun o ho => Nat.zero_le _⟩ fun _ => more_self ..⟩
  simp [Instr.range, run_underlying hm, Go.MapKept.run_getObj_map hh, newObj, Result.andThen]
  rfl

/-- A step of a range over a map. -/
theorem nextM_ok (hI : Inv β H w) {it m since last n : Nat} {seen bs : List Nat} {es : List (PV × PV)} (hit : H[it]? = some (some (.mapit m since seen last))) (ho : H[m]? = some (some (.mapx n bs es)))
    (hlt' : ∀ b ∈ bs, b < since) (hsl : since ≤ last) {x : Value} (hx : V β H w x (.ptr it 0 0)) (ty : TypeId) :
    ∃ v H', NextM H it m since seen n bs es v H' ∧ Does P β H w (Instr.next x false ty) v H' := by
  obtain ⟨b, rfl, _, hl⟩ := hx.ptr_inv
  obtain ⟨b1, bm, e1, hh1, hrm, hlm⟩ := hI.ok it _ hit
  obtain ⟨bm', cm, e2, hh2, hsz, hV, hbs, hlt, hpw⟩ := hI.ok m _ ho
  have hbe : b = b1 := by
    have := hl ⟨_, hit, rfl⟩
    rw [e1] at this; cases this; rfl
  subst hbe
  have hbm : bm = bm' := by
    have := hlm ⟨_, ho, rfl⟩
    rw [e2] at this; cases this; rfl
  subst hbm
  have hborn : ∀ (j : Nat) (e : MapEntry), cm[j]? = some e → bs[j]? = some e.born := fun j e he => by
    rw [← hbs, List.getElem?_map]
    simp [he]
  rcases Go.run_next_at (P := P) w ty b bm since last seen.toArray cm n hh1 hh2 (fun e he => hlt' e.born (by rw [← hbs]; exact List.mem_map_of_mem (f := fun e : MapEntry => e.born) he)) hsl with ⟨h1, h2⟩ | ⟨e, he, w1, hw1, h2⟩
  · refine ⟨_, _, .inl ⟨rfl, rfl, fun x hx => ?_⟩, .tuple #[.bool false], w, β, h2, hI, Ext.refl .., .tup _ _ rfl fun j v p hv hp => by
      rcases j with _ | j
      · cases hv; cases hp; exact .bool _
      · simp at hv⟩
    rw [← hbs] at hx
    obtain ⟨e, he, rfl⟩ := List.mem_map.mp hx
    have hnil : Go.leftOf cm seen.toArray = #[] := Array.eq_empty_of_size_eq_zero h1
    unfold Go.leftOf at hnil
    rw [Array.filter_eq_empty_iff] at hnil
    have := hnil e (by simpa using he)
    simpa using this
  · have he' : e ∈ cm.toList ∧ e.born ∉ seen := by
      unfold Go.leftOf at he
      simpa using he
    obtain ⟨j, hj, hje⟩ := List.getElem_of_mem he'.1
    have hce : cm[j]? = some e := by rw [← hje]; simp [Array.getElem?_eq_getElem (by simpa using hj)]
    have hjes : j < es.length := by rw [← hsz]; simpa using hj
    have hq : es[j]? = some es[j] := List.getElem?_eq_getElem hjes
    obtain ⟨v1, v2⟩ := hV j e _ hce hq
    have hH : w1.heap = w.heap := by rcases hw1 with rfl | rfl <;> rfl
    have hso : w1.os = w.os ∧ w1.tape = w.tape ∧ w1.output = w.output := by rcases hw1 with rfl | rfl <;> exact ⟨rfl, rfl, rfl⟩
    have hblt := hI.block ⟨_, hit⟩ e1
    have hnew : (ChangeMaps.setBlock w1 b (.mapIter (some bm) since (seen.toArray.push e.born) n)).heap = w.heap.setIfInBounds b (.mapIter (some bm) since (seen.toArray.push e.born) n) := by
      simp [ChangeMaps.setBlock, hH]
    have hp1 : ∀ k, k < w.heap.size → k ≠ b → (ChangeMaps.setBlock w1 b (.mapIter (some bm) since (seen.toArray.push e.born) n)).heap[k]? = w.heap[k]? := fun k _ hk => by
      rw [hnew, Array.getElem?_setIfInBounds_ne (Ne.symm hk)]
    have hat : (ChangeMaps.setBlock w1 b (.mapIter (some bm) since (seen.toArray.push e.born) n)).heap[b]? = some (.mapIter (some bm) since (seen.toArray.push e.born) n) := by rw [hnew]; simp [hblt]
    have hext := set_ext hI (w' := ChangeMaps.setBlock w1 b (.mapIter (some bm) since (seen.toArray.push e.born) n)) ⟨hso.1, hso.2.1, hso.2.2, by rw [hnew]; simp⟩ hit e1 hp1 (by unfold bsize; rw [hat, hh1]) (o' := .mapit m since (seen ++ [e.born]) n) (.inr ⟨rfl, rfl⟩)
    have hinv := set_inv hI hit e1 hp1 hext (o' := .mapit m since (seen ++ [e.born]) n) ⟨b, bm, e1, by rw [hat]; simp, (hext.live m 0 hrm).1, fun hlv => (((hext.live m 0 hrm).2 hlv).2.1).trans e2⟩
    exact ⟨_, _, .inr ⟨j, e.born, es[j], hq, hborn j e hce, he'.2, rfl, rfl⟩, _, _, β, h2, hinv, hext, .tup _ _ rfl fun i v p hv hp => by
      rcases i with _ | _ | _ | i
      · cases hv; cases hp; exact .bool _
      · cases hv; cases hp; exact v1.mono hext
      · cases hv; cases hp; exact v2.mono hext
      · simp at hv⟩
end
end Go.Proofs.SL

/-
  SL: operations that change the heap are sound: append to an object, and what is left. No claim by itself.
-/
namespace Go.Proofs.SL
open Go
set_option linter.unusedSimpArgs false
set_option linter.unusedVariables false
variable {P : Program} {T : Nat → Option TD} {β : Nat → Option Nat} {H : Heap} {w : World}

theorem ref_set {i ver : Nat} {o : OB} (hi : i < H.length) (hv : ver ≤ o.ver) : Ref (H.set i (some o)) i ver :=
  ⟨by simp; exact hi, fun x hx => by rw [List.getElem?_set_self hi] at hx; cases hx; exact hv⟩

theorem olen_set {i : Nat} {o : OB} (hi : i < H.length) : olen (H.set i (some o)) i = o.len := by
  unfold olen; rw [List.getElem?_set_self hi]

/-- An object moves to a new block as it grows. -/
theorem append_move {ts ue : Nat} {e : Nat} {de : TD} (hs : P.underlying ts = some (.slice e)) {du : TypeDesc} (hu : P.underlying ue = some du) (hud : ∀ k, du ≠ .int k) (hT : TdOk P e de) (hI : Inv β H w) {ty : TypeId}
    {i ver len cap : Nat} {a : Option Addr} {cs : List PV} (ho : H[i]? = some (some (.cells ver cs))) (hlen : len * de.size = cs.length)
    {x : Value} {xs : List PV} (hx : Src P β H w de x xs) (hb : (len + xs.length) * de.bytes ≤ most) (hb' : len + xs.length ≤ most) (hcap : cap < len + xs.length)
    {olds : Array Value} (hold : ∀ w2 : World, w2.heap = w.heap → (Builtin.firstCells de.size len (.slice a len cap)).run P w2 = .ok olds w2) (hol : olds.size = cs.length)
    (hoV : ∀ (k : Nat) (v : Value) (p : PV), olds[k]? = some v → cs[k]? = some p → V β H w v p) (hoo : ∀ (k : Nat) (v : Value), olds[k]? = some v → v.oneCell' = true) :
    Does P β H w (Builtin.append_ #[ts, ue] ty #[.slice a len cap, x]) (.buf i (ver + 1) 0 (len + xs.length) de.size true) (H.set i (some (.cells (ver + 1) (cs ++ flat xs)))) := by
  obtain ⟨f, hf, hV, hone⟩ := hx.f
  have hfl := flat_length hx.hm
  have hil : i < H.length := Alive.lt ⟨_, ho⟩
  have hver : (OB.cells ver cs).ver < (OB.cells (ver + 1) (cs ++ flat xs)).ver := Nat.lt_succ_self _
  obtain ⟨w', ncap, rest, hrun, hsame, hheap, hnc, hrest⟩ := append_grow (P := P) (w := w) hs hu hud hT (ty := ty) (base := a) (len := len) (cap := cap) (olds := olds) hold hx.len
    (fun w2 h2 => hf _ (Nat.le_refl _) w2 h2) hcap hb hb'
  obtain ⟨h1, h2, h3⟩ := heap_push hheap
  have hsum : (len + xs.length) * de.size + (ncap - (len + xs.length)) * de.size = ncap * de.size := by rw [← Nat.add_mul]; congr 1; omega
  rw [Nat.add_mul] at hsum
  have hcsz : (olds ++ ((List.range (xs.length * de.size)).map f).toArray ++ rest).size = ncap * de.size := by simp [hrest, hol]; omega
  have he := move_ext hI hsame (i := i) (b := w.heap.size) ho (Nat.le_refl _) h1 hver
  have hcl : (cs ++ flat xs).length = (len + xs.length) * de.size := by rw [List.length_append, hfl, ← hlen, Nat.add_mul]
  have hmb : more β i (some w.heap.size) i = some w.heap.size := more_self
  have hget : ∀ k, k < (cs ++ flat xs).length → ∃ v, (olds ++ ((List.range (xs.length * de.size)).map f).toArray ++ rest)[k]? = some v ∧ v.oneCell' = true ∧ ∀ p, (cs ++ flat xs)[k]? = some p → V β H w v p := by
    intro k hk
    rw [hcl, Nat.add_mul] at hk
    simp only [Array.getElem?_append, Array.size_append, List.size_toArray, List.length_map, List.length_range, hol]
    rw [if_pos (by omega)]
    by_cases hkc : k < cs.length
    · rw [if_pos hkc]
      obtain ⟨v, hv⟩ : ∃ v, olds[k]? = some v := ⟨olds[k]'(by omega), by simp [show k < olds.size by omega]⟩
      exact ⟨v, hv, hoo k v hv, fun p hp => hoV k v p hv (by rwa [List.getElem?_append_left hkc] at hp)⟩
    · rw [if_neg hkc]
      have hk2 : k - cs.length < xs.length * de.size := by omega
      refine ⟨f (k - cs.length), by simp [List.getElem?_range, hk2], hone _ (by omega), fun p hp => hV _ p ?_⟩
      rwa [List.getElem?_append_right (by omega)] at hp
  refine ⟨_, _, _, hrun, move_inv hI ho (Nat.le_refl _) h1 he ⟨(fun hn => by rw [hmb] at hn; cases hn), fun b hb => ?_⟩, he, ?_⟩
  · rw [hmb] at hb
    cases hb
    refine ⟨_, _, _, fun k => (olds ++ ((List.range (xs.length * de.size)).map f).toArray ++ rest).getD k undef, h2, ?_, fun k hk => ?_, fun k p hkp => ?_, fun k hk => ?_, FzOk.nil⟩
    · rw [hcsz, hcl, Nat.add_mul]; omega
    · obtain ⟨v, hv, _⟩ := hget k hk
      simp only [Array.getD_eq_getD_getElem?, hv, Option.getD_some]
    · obtain ⟨v, hv, _, hvV⟩ := hget k (getElem?_lt hkp)
      simp only [Array.getD_eq_getD_getElem?, hv, Option.getD_some]
      exact (hvV p hkp).mono he
    · obtain ⟨v, hv, hv1, _⟩ := hget k hk
      simp only [Array.getD_eq_getD_getElem?, hv, Option.getD_some]
      exact hv1
  · refine .buf _ _ _ _ _ _ _ _ hnc (fun _ => ⟨_, rfl⟩) (ref_set hil (Nat.le_refl _)) fun _ => ⟨(fun hn => by rw [hmb] at hn; cases hn), fun b hb => .inr ?_⟩
    rw [hmb] at hb
    cases hb
    refine ⟨rfl, by rw [bsize_eq h2, hcsz]; omega, fun _ => ⟨rfl, ?_⟩⟩
    rw [olen_set hil]
    show (cs ++ flat xs).length ≤ _
    rw [hcl]
    exact Nat.mul_le_mul_right _ hnc

theorem append_buf_ok {ts ue : Nat} {e : Nat} {de : TD} (hs : P.underlying ts = some (.slice e)) {du : TypeDesc} (hu : P.underlying ue = some du) (hud : ∀ k, du ≠ .int k) (hT : TdOk P e de) (hI : Inv β H w) {ty : TypeId}
    {s : Value} {i ver len : Nat} (hsv : V β H w s (.buf i ver 0 len de.size true)) {cs : List PV} (ho : H[i]? = some (some (.cells ver cs))) (hlen : len * de.size = cs.length)
    {x : Value} {xs : List PV} (hx : Src P β H w de x xs) (hb : (len + xs.length) * de.bytes ≤ most) (hb' : len + xs.length ≤ most) :
    Does P β H w (Builtin.append_ #[ts, ue] ty #[s, x]) (.buf i (ver + 1) 0 (len + xs.length) de.size true) (H.set i (some (.cells (ver + 1) (cs ++ flat xs)))) := by
  obtain ⟨f, hf, hV, hone⟩ := hx.f
  have hfl := flat_length hx.hm
  obtain ⟨a, cap, rfl, hcap, ha, hl, hlv⟩ := hsv.buf_inv
  obtain ⟨h0, h1⟩ := hlv (live_of ho)
  have hil : i < H.length := hl.1
  have hver : (OB.cells ver cs).ver < (OB.cells (ver + 1) (cs ++ flat xs)).ver := Nat.lt_succ_self _
  cases hbi : β i with
  | none =>
    obtain ⟨rfl, _⟩ := h0 hbi
    obtain rfl : len = 0 := by omega
    have hcs : cs = [] := (hI.cells ho).1 hbi
    subst hcs
    by_cases hne : xs = []
    · subst hne
      have hroom := append_room (P := P) (w := w) hs hu hud hT (ty := ty) (base := a) (len := 0) (cap := 0) hx.len (fun w2 h2 => hf _ (Nat.le_refl _) w2 h2) (by simp)
      have hrun : (Builtin.append_ #[ts, ue] ty #[.slice a 0 0, x]).run P w = .ok (.slice a 0 0) w := by
        rw [hroom]
        cases a with
        | none => rfl
        | some a => simp [storeCells]
      have he := bump_ext hI ho hver
      refine ⟨_, _, β, hrun, ⟨fun j o hj => ?_, fun j k b hj hk => hI.inj j k b ((alive_set ⟨_, ho⟩).mp hj) ((alive_set ⟨_, ho⟩).mp hk)⟩, he, ?_⟩
      · rw [set_get hil] at hj
        split at hj
        · rename_i e'
          subst e'
          simp only [Option.some.injEq] at hj
          subst hj
          exact ⟨fun _ => rfl, fun b hb => by rw [hbi] at hb; cases hb⟩
        · exact (hI.ok j o hj).mono he rfl fun _ _ => rfl
      · exact .buf _ _ _ _ _ _ _ _ (Nat.le_refl _) (fun h => absurd rfl h) (ref_set hil (Nat.le_refl _)) fun _ => ⟨fun _ => ⟨rfl, fun _ => rfl⟩, fun b hb => by rw [hbi] at hb; cases hb⟩
    · have hn : 0 < xs.length := List.length_pos_iff.mpr hne
      exact append_move hs hu hud hT hI ho hlen hx hb hb' (by omega) (olds := #[]) (fun w2 _ => by
        cases a with
        | none => rfl
        | some a => simp [Builtin.firstCells, loadCells, loadCellsFrom]) rfl (by simp) (by simp)
  | some b =>
    rcases h1 b hbi with ⟨_, htf⟩ | ⟨rfl, hsz, htp⟩
    · cases htf
    · obtain ⟨_, hol⟩ := htp rfl
      obtain ⟨_, hbb⟩ := hI.cells ho
      obtain ⟨c, t, fz, g, hh, hcsz, hg, hgV, hgo, hfz⟩ := hbb b hbi
      by_cases hc : len + xs.length ≤ cap
      · -- in place
        have hmul : (len + xs.length) * de.size ≤ cap * de.size := Nat.mul_le_mul_right _ hc
        rw [Nat.add_mul] at hmul
        have hroom := append_room (P := P) (w := w) hs hu hud hT (ty := ty) (base := some ⟨b, 0, none⟩) (len := len) (cap := cap) hx.len (fun w2 h2 => hf _ (Nat.le_refl _) w2 h2) hc
        obtain ⟨w', hr, hi', he', hbs'⟩ := store_cells (P := P) hI ho hbi (ver' := ver + 1) (cs' := cs ++ flat xs) (off := len * de.size) (vs := (List.range (xs.length * de.size)).map f) (ps := flat xs) (by simp [hfl])
          (fun k v p hk hp => by
            have hk2 : k < xs.length * de.size := by rw [← hfl]; exact getElem?_lt hp
            simp only [List.getElem?_map, List.getElem?_range hk2, Option.map_some, Option.some.injEq] at hk
            subst hk
            exact hV k p hp)
          (fun v hv => by
            obtain ⟨k, hk, rfl⟩ := List.mem_map.mp hv
            exact hone k (by rw [hfl]; exact List.mem_range.mp hk))
          (by rw [hfl]; omega) (by rw [List.length_append, hfl, ← hlen]; omega)
          (fun k p hk => by
            rw [hlen]
            by_cases hkc : k < cs.length
            · rw [List.getElem?_append_left hkc] at hk; exact .inr ⟨by omega, hk⟩
            · have := getElem?_lt hk
              rw [List.length_append] at this
              rw [List.getElem?_append_right (by omega)] at hk; exact .inl ⟨by omega, by omega, hk⟩) (.inl (Nat.lt_succ_self _))
        refine ⟨.slice (some ⟨b, 0, none⟩) (len + xs.length) cap, w', β, ?_, hi', he', ?_⟩
        · rw [hroom]
          simp only [addr_add, Nat.zero_add]
          rw [hr]
          rfl
        · refine .buf _ _ _ _ _ _ _ _ hc (fun _ => ⟨_, rfl⟩) (ref_set hil (Nat.le_refl _)) fun _ => ⟨(fun hn => by rw [hbi] at hn; cases hn), fun b' hb' => .inr ?_⟩
          rw [hbi] at hb'
          cases hb'
          refine ⟨rfl, by rw [hbs']; exact hsz, fun _ => ⟨rfl, ?_⟩⟩
          rw [olen_set hil]
          show (cs ++ flat xs).length ≤ _
          rw [List.length_append, hfl, ← hlen]
          exact hmul
      · refine append_move hs hu hud hT hI ho hlen hx hb hb' (by omega) (olds := ((List.range (len * de.size)).map g).toArray) (fun w2 h2 => ?_) (by simp [hlen]) (fun k v p hk hp => ?_) fun k v hk => ?_
        · show (loadCells ⟨b, 0, none⟩ (len * de.size)).run P w2 = _
          refine run_loadCells w2 _ _ g fun j hj => ?_
          rw [addr_add, Nat.zero_add, cell?_of_heap (w := w) (by rw [h2]), cell_of hh]
          exact hg j (by omega)
        · have hk2 : k < len * de.size := by rw [hlen]; exact getElem?_lt hp
          simp only [List.getElem?_toArray, List.getElem?_map, List.getElem?_range hk2, Option.map_some, Option.some.injEq] at hk
          subst hk
          exact hgV k p hp
        · simp only [List.getElem?_toArray, List.getElem?_map] at hk
          rcases Nat.lt_or_ge k (len * de.size) with hk2 | hk2
          · simp only [List.getElem?_range hk2, Option.map_some, Option.some.injEq] at hk
            subst hk
            exact hgo k (by omega)
          · rw [List.getElem?_eq_none (by simpa using hk2)] at hk; cases hk


theorem buildSlice_ok {t e n : Nat} {de : TD} (hu : P.underlying t = some (.slice e)) (hT : TdOk P e de) (hI : Inv β H w) {ρ : Operand → Value} {g : Operand → PV} (hg : ∀ x, V β H w (ρ x) (g x)) {parts : Array (Nat × Operand)} {c : Bool} {cs : List PV}
    (hf : fillV (fun i => some (i * de.size, de.size)) (List.replicate (n * de.size) .any) (parts.toList.map fun p => (p.1, g p.2)) = (c, .agg cs)) (hc : c = true) (hone : cs.all PV.one = true) (hn : n * de.size ≤ 16777216)
    (hag : de.agg = true ∨ de.size = 1) (mu : Bool) {cc : Bool} {r : R} (hr : newSlice mu cc H de.size (chunk de.size de.agg n cs) = r) :
    ∃ v H', r = .val cc v H' ∧ Does P β H w (Instr.buildSlice t n (parts.map fun (i, x) => (i, ρ x))) v H' := by
  obtain ⟨z, hz, hzV⟩ := run_zeroValue' (w := w) (β := β) (H := H) hT
  have hrel : ∀ (i : Nat) (x : Nat × Value) (y : Nat × PV), (parts.map fun (i, x) => (i, ρ x)).toList[i]? = some x → (parts.toList.map fun p => (p.1, g p.2))[i]? = some y → x.1 = y.1 ∧ V β H w x.2 y.2 := by
    intro i x y hx hy
    simp only [Array.toList_map, List.getElem?_map, Array.getElem?_toList] at hx hy
    cases ho : parts[i]? with
    | none => rw [ho] at hx; cases hx
    | some o =>
      rw [ho] at hx hy
      simp only [Option.map_some, Option.some.injEq] at hx hy
      subst hx; subst hy
      exact ⟨rfl, hg _⟩
  obtain ⟨zero, hz1, hz2⟩ : ∃ zero : Array Value, (n * de.size = 0 → zero = #[]) ∧ (¬ n * de.size = 0 → zero = z.cells) := by
    by_cases h0 : n * de.size = 0
    · exact ⟨#[], fun _ => rfl, fun h => absurd h0 h⟩
    · exact ⟨z.cells, fun h => absurd h h0, fun _ => rfl⟩
  obtain ⟨r', hr', hV⟩ := fill_ok _ _ _ ((Array.range (n * de.size)).map (zero[· % zero.size]!)) (List.replicate (n * de.size) .any) (by simp) hrel (by simp) (fun i v p _ hp => by
    rw [List.getElem?_replicate] at hp
    split at hp
    · cases hp; exact .any v
    · cases hp) hf hc
  obtain ⟨ws, hws, hsz, hwV⟩ := hV.agg_inv
  cases hws
  have hlen : cs.length = n * de.size := by
    have key : ∀ (l : List (Nat × PV)) (ps : List PV) (c : Bool) (out : List PV), fillV (fun i => some (i * de.size, de.size)) ps l = (c, .agg out) → c = true → out.length = ps.length := by
      intro l
      induction l with
      | nil => intro ps c out h _; simp only [fillV, Prod.mk.injEq, PV.agg.injEq] at h; rw [h.2]
      | cons y l ih =>
        intro ps c out h hc'
        subst hc'
        obtain ⟨i, y⟩ := y
        unfold fillV at h
        split at h
        · simp [no] at h
        · simp [no] at h
        · rename_i off m hpl hany
          simp only [Prod.mk.injEq, Bool.and_eq_true, decide_eq_true_eq] at h
          obtain ⟨⟨h1, h2, h3⟩, h4⟩ := h
          rw [ih _ true out (by rw [← h4, ← h3]) rfl]
          simp; omega
    rw [key _ _ _ _ hf hc]; simp
  have hone' : ∀ p ∈ cs, p.cells = [p] := fun p hp => by
    have := List.all_eq_true.mp hone p hp
    cases p <;> first | rfl | simp [PV.one] at this
  obtain ⟨e1, e2, e3⟩ := chunk_ok hag n cs hlen hone'
  have hrs : r'.size = n * de.size := by rw [hsz, hlen]
  obtain ⟨v, H', β', hr1, hi1, he1, hv1⟩ := new_slice hI (same_push w (.cells r' e)) mu (xs := chunk de.size de.agg n cs) (m := de.size) (cap := n) (f := fun k => r'.getD k undef) (Nat.le_refl _) (by simp)
    (fun k hk => push_old w _ hk) (c := r') (t := e) (fz := (0, 0)) (by simp) e3 (by rw [e1, hlen]; exact Nat.le_refl _) hrs (by rw [e2]; exact Nat.le_refl _)
    (fun k hk => by rw [e1] at hk; simp [Array.getD, show k < r'.size by omega])
    (fun k p hk => by
      rw [e1] at hk
      have := getElem?_lt hk
      exact hwV k _ p (by simp [Array.getD, show k < r'.size by omega]) hk)
    (fun k hk => by
      rw [e1] at hk
      have h2 : k < r'.size := by omega
      have := hwV k (r'.getD k undef) cs[k] (by simp [Array.getD, h2]) (List.getElem?_eq_getElem hk)
      exact this.oneCell (List.all_eq_true.mp hone _ (List.getElem_mem hk))) FzOk.nil hr
  refine ⟨v, H', hr1, .slice (some ⟨w.heap.size, 0, none⟩) n n, { w with heap := w.heap.push (.cells r' e) }, β', ?_, hi1, he1, ?_⟩
  · unfold Instr.buildSlice
    have hn' : ¬ n * de.size > 2 ^ 24 := by omega
    simp only [Sem.run_bind, run_underlying hu, Result.andThen_ok, run_sizeOf' hT, hn', if_false]
    by_cases h0 : n * de.size = 0
    · rw [if_pos h0]
      rw [hz1 h0] at hr'
      simp only [Sem.run_bind, Sem.run_pure, Result.andThen_ok, hr']
      rfl
    · rw [if_neg h0]
      rw [hz2 h0] at hr'
      simp only [Sem.run_bind, hz, Sem.run_pure, Result.andThen_ok, hr']
      rfl
  · rw [e2] at hv1; exact hv1

theorem range_ok {t : Nat} (hu : P.underlying t = some .string) (hI : Inv β H w) (s : ByteArray) :
    Does P β H w (Instr.range t (.string s)) (.ptr H.length 0 0) (H ++ [some (.striter s 0)]) := by
  have hr : ∀ b, (some w.heap.size) = some b → w.heap.size ≤ b := fun b hb => by cases hb; exact Nat.le_refl _
  have he := push_ext hI (same_push w (.stringIter s 0)) (fun k hk => push_old w _ hk) (o := .striter s 0) (r := some w.heap.size) hr
  refine ⟨_, _, _, ?_, push_inv hI (fun k hk => push_old w _ hk) hr he ⟨w.heap.size, more_self, by simp⟩, he, .ptr w.heap.size _ _ _ ⟨by simp, fun o ho => Nat.zero_le _⟩ fun _ => more_self⟩
  unfold Instr.range
  simp only [Sem.run_bind, run_underlying hu, Result.andThen_ok]
  rfl

theorem next_ok (hI : Inv β H w) {i : Nat} {s : ByteArray} {pos : Nat} (ho : H[i]? = some (some (.striter s pos))) {x : Value} (hx : V β H w x (.ptr i 0 0)) (ty : TypeId) :
    (pos < s.size → Does P β H w (Instr.next x true ty) (.tup [.bool true, .int .i64 pos, .int .i32 (Utf8.decode s pos).1]) (H.set i (some (.striter s (pos + (Utf8.decode s pos).2))))) ∧
    (¬ pos < s.size → Does P β H w (Instr.next x true ty) (.tup [.bool false]) H) := by
  obtain ⟨b, rfl, hl, hlv⟩ := hx.ptr_inv
  have hb := hlv ⟨_, ho, rfl⟩
  obtain ⟨b', hb', hh⟩ := hI.ok i _ ho
  rw [hb] at hb'
  cases hb'
  have hblt := hI.block ⟨_, ho⟩ hb
  constructor
  · intro hp
    have hp1 : ∀ k, k < w.heap.size → k ≠ b → ({ w with heap := w.heap.setIfInBounds b (.stringIter s (pos + (Utf8.decode s pos).2)) } : World).heap[k]? = w.heap[k]? := fun k _ hk => by
      simp only; rw [Array.getElem?_setIfInBounds_ne (Ne.symm hk)]
    have hnew : ({ w with heap := w.heap.setIfInBounds b (.stringIter s (pos + (Utf8.decode s pos).2)) } : World).heap[b]? = some (.stringIter s (pos + (Utf8.decode s pos).2)) := by
      simp [hblt]
    have he := set_ext hI (w' := { w with heap := w.heap.setIfInBounds b (.stringIter s (pos + (Utf8.decode s pos).2)) }) ⟨rfl, rfl, rfl, by simp⟩ ho hb hp1 (by unfold bsize; rw [hnew, hh])
      (o' := .striter s (pos + (Utf8.decode s pos).2)) (.inr ⟨rfl, rfl⟩)
    refine ⟨.tuple #[.bool true, goInt pos, .int .i32 (Utf8.decode s pos).1], _, β, ?_, set_inv hI ho hb hp1 he ⟨b, hb, hnew⟩, he, .tup _ _ rfl fun j v p hv hq => ?_⟩
    · unfold Instr.next getObj setObj
      simp only [Sem.run_bind, Sem.run, hh, Result.andThen_ok, hp, if_true, Sem.run_pure]
    · match j with
      | 0 => simp at hv hq; subst hv; subst hq; exact .bool _
      | 1 => simp at hv hq; subst hv; subst hq; exact .int ..
      | 2 => simp at hv hq; subst hv; subst hq; exact .int ..
      | j + 3 => simp at hv
  · intro hp
    refine ⟨.tuple #[.bool false], w, β, ?_, hI, Ext.refl .., .tup _ _ rfl fun j v p hv hq => ?_⟩
    · unfold Instr.next getObj
      simp only [Sem.run_bind, Sem.run, hh, Result.andThen_ok, hp, if_false]
      rfl
    · match j with
      | 0 => simp at hv hq; subst hv; subst hq; exact .bool _
      | j + 1 => simp at hv


theorem elemTy_ok (hT : TOk P T) {t e : Nat} {de : TD} (h : elemTy T t = some (e, de)) : P.underlying t = some (.slice e) ∧ TdOk P e de := by
  unfold elemTy at h
  split at h
  · cases h
  rename_i d hd
  split at h
  · rename_i e' hk
    split at h
    · rename_i de' hde
      simp only [Option.some.injEq, Prod.mk.injEq] at h
      obtain ⟨rfl, rfl⟩ := h
      obtain ⟨u, hu, hku, _⟩ := (hT t d hd).und
      rw [hk] at hku
      obtain rfl := kOk_slice hku
      exact ⟨hu, hT _ _ hde⟩
    · cases h
  · cases h

theorem bytes_ok {t e : Nat} {de : TD} (hu : P.underlying t = some (.slice e)) (hT : TdOk P e de) (hk : de.k = .int .u8) (hsz : de.size = 1) {src : Nat} {us : TypeDesc} (hs : P.underlying src = some us) (hI : Inv β H w) (s : ByteArray)
    (mu : Bool) {cc : Bool} {r : R} (hr : newSlice mu cc H 1 (s.toList.map fun b => .int .u8 b.toNat) 1 = r) :
    ∃ v H', r = .val cc v H' ∧ Does P β H w (convert src t (.string s)) v H' := by
  obtain ⟨ue, hue, hke, _⟩ := hT.und
  rw [hk] at hke
  obtain rfl := kOk_int hke
  generalize hq : (Question.appendCap s.size 0 e).cut (w.tape w.drawn (.appendCap s.size 0 e)) = cap
  have hcap : s.size ≤ cap := by rw [← hq]; simp only [Question.cut]; omega
  let cells : Array Value := (s.data.map fun b => Value.int .u8 b.toNat) ++ Array.replicate (cap - s.size) (.int .u8 0)
  have hss : s.size = s.data.size := rfl
  have hcs : cells.size = cap := by simp [cells]; omega
  let w' : World := { w with drawn := w.drawn + 1, heap := w.heap.push (.cells cells e (cap, cap + 1)) }
  have hsame : Same w w' := ⟨rfl, rfl, rfl, by simp [w']⟩
  have hp := heap_push (w := w) (w' := w') (o := .cells cells e (cap, cap + 1)) rfl
  have hfl : flat (s.toList.map fun b => PV.int .u8 b.toNat) = s.toList.map fun b => PV.int .u8 b.toNat := str_flat _
  have hlen : (s.toList.map fun b => PV.int .u8 (b.toNat : Int)).length = s.size := by rw [List.length_map, toList_data, Array.length_toList]; rfl
  obtain ⟨v, H', β', h1, h2, h3, h4⟩ := new_slice hI hsame mu (m := 1) (xs := s.toList.map fun b => PV.int .u8 b.toNat) (cap := cap) (f := fun k => cells.getD k undef) (Nat.le_refl _) hp.2.2 hp.1 hp.2.1
    (fun x hx => by obtain ⟨b, _, rfl⟩ := List.mem_map.mp hx; rfl) (by rw [hfl, hlen]; omega) (by rw [hcs]; omega) (by rw [hlen]; exact hcap)
    (fun k hk => by
      rw [hfl, hlen] at hk
      simp [Array.getD, show k < cells.size by omega])
    (fun k p hk => by
      rw [hfl] at hk
      have hkl := getElem?_lt hk
      rw [hlen] at hkl
      rw [List.getElem?_map, toList_data, Array.getElem?_toList, Array.getElem?_eq_getElem (by omega)] at hk
      simp only [Option.map_some, Option.some.injEq] at hk
      subst hk
      have : cells.getD k undef = .int .u8 (s.data[k]'(by omega)).toNat := by
        have e2 : cells[k]? = some (.int .u8 (s.data[k]'(by omega)).toNat) := by
          simp only [cells]
          rw [Array.getElem?_append_left (by simp; omega), Array.getElem?_map, Array.getElem?_eq_getElem (by omega)]; rfl
        simp only [Array.getD_eq_getD_getElem?, e2, Option.getD_some]
      simp only [this]
      exact .int ..)
    (fun k hk => by
      rw [hfl, hlen] at hk
      have e2 : cells[k]? = some (.int .u8 (s.data[k]'(by omega)).toNat) := by
        simp only [cells]
        rw [Array.getElem?_append_left (by simp; omega), Array.getElem?_map, Array.getElem?_eq_getElem (by omega)]; rfl
      simp only [Array.getD_eq_getD_getElem?, e2, Option.getD_some]; rfl)
    (ver := 1) ⟨fun k hk => by simp only; omega, fun h => absurd h (by decide)⟩ hr
  rw [hlen] at h4
  refine ⟨v, H', h1, .slice (some ⟨w.heap.size, 0, none⟩) s.size cap, w', β', ?_, h2, h3, h4⟩
  have hrun : (Conv.stringToBytes e s).run P w = .ok (.slice (some ⟨w.heap.size, 0, none⟩) s.size cap) w' := by
    unfold Conv.stringToBytes newRow markStringish
    simp only [Sem.run_bind, run_choose, Question.forced, Bool.false_eq_true, if_false, hq, Result.andThen_ok, run_newObj, Sem.run_pure, run_shape, World.shape?]
    simp [World.freeze, hcs, w', cells]
    apply Array.ext_getElem?
    intro k
    rw [Array.getElem?_modify]
    simp only [Array.getElem?_push]
    by_cases hkk : k = w.heap.size
    · subst hkk; simp
    · rw [if_neg (Ne.symm hkk), if_neg hkk, if_neg hkk]
  unfold convert
  simp only [Sem.run_bind, run_underlying hs, run_underlying hu, run_underlying hue, Result.andThen_ok]
  cases us <;> exact hrun


theorem appendable_ok {u : TypeDesc} {k : TK} (h : kOk u k) (ha : appendable k = true) : ∀ i, u ≠ .int i := by
  intro i e
  subst e
  cases k <;> simp [kOk, appendable] at h ha

theorem append_ok (hT : TOk P T) (hI : Inv β H w) {t u : Nat} {s x : Value} {ps px : PV} (hs : V β H w s ps) (hx : V β H w x px) (mu : Bool) {c : Bool} {v : PV} {H' : Heap} (ty : TypeId)
    (h : appendE T mu H t u ps px = .val c v H') (hc : c = true) : Does P β H w (Builtin.append_ #[t, u] ty #[s, x]) v H' := by
  unfold appendE at h
  split at h
  · rename_i e de du het hdu
    obtain ⟨hut, hTe⟩ := elemTy_ok hT het
    obtain ⟨uu, huu, hku, _⟩ := (hT u du hdu).und
    split at h
    · cases h
    · rename_i cx xs hel
      have key : ∀ {cc : Bool}, newSlice mu (cx && (appendable du.k && (decide (xs.length * de.bytes ≤ most) && decide (xs.length ≤ most)))) H de.size xs = .val c v H' → ∀ a, s = .slice a 0 0 →
          Does P β H w (Builtin.append_ #[t, u] ty #[s, x]) v H' := by
        intro _ h a ha
        subst ha
        have hcc : (cx && (appendable du.k && (decide (xs.length * de.bytes ≤ most) && decide (xs.length ≤ most)))) = c := by
          unfold newSlice at h
          split at h <;> (simp only [R.val.injEq] at h; exact h.1)
        rw [← hcc] at hc
        simp only [Bool.and_eq_true, decide_eq_true_eq] at hc
        obtain ⟨hcx, hap, hb, hb'⟩ := hc
        have hsrc := elemsOf_ok (P := P) hI hx hel hcx
        obtain ⟨v', H'', e1, e2⟩ := append_nil_ok (P := P) (ty := ty) (a := a) hut huu (appendable_ok hku hap) hTe hI hsrc mu hb hb' (cc := (cx && (appendable du.k && (decide (xs.length * de.bytes ≤ most) && decide (xs.length ≤ most))))) rfl
        rw [h] at e1
        simp only [R.val.injEq] at e1
        obtain ⟨_, rfl, rfl⟩ := e1
        exact e2
      split at h
      · exact key (cc := true) h none hs.nils_inv
      · obtain ⟨a, ha⟩ := hs.empt_inv
        exact key (cc := true) h a ha
      · rename_i i ver off len m
        split at h
        · rename_i cs ho
          simp only [R.val.injEq] at h
          obtain ⟨rfl, rfl, rfl⟩ := h
          simp only [Bool.and_eq_true, decide_eq_true_eq] at hc
          obtain ⟨hcx, hap, hm, rfl, hlen, hb, hb'⟩ := hc
          subst hm
          exact append_buf_ok hut huu (appendable_ok hku hap) hTe hI hs (obj_some ho) hlen (elemsOf_ok hI hx hel hcx) hb hb'
        · cases h
      · cases h
  · cases h

theorem getD_mod {z : Array Value} (hz : 0 < z.size) (k : Nat) : z[k % z.size]! = z.getD (k % z.size) undef := by
  have : k % z.size < z.size := Nat.mod_lt _ hz
  simp [this, Array.getD]

theorem makeSlice_ok {t e : Nat} {de : TD} (hu : P.underlying t = some (.slice e)) (hT : TdOk P e de) (hI : Inv β H w) {k k' : IntKind} {n : Int} (h0 : 0 ≤ n) (hb : n.toNat * de.bytes ≤ most) (hm : n.toNat ≤ most) (hone : de.zero.cells.all PV.one = true)
    (hpos : 0 < de.size) (hzl : de.zero.cells.length = de.size) (mu : Bool) {cc : Bool} {r : R} (hr : newSlice mu cc H de.size (List.replicate n.toNat de.zero) = r) :
    ∃ v H', r = .val cc v H' ∧ Does P β H w (Instr.makeSlice t (.int k n) (.int k' n)) v H' := by
  obtain ⟨i, z, hi, hsz, hby, hz, hzd, hzs⟩ := hT.info
  have hany : de.zero ≠ .any := fun h => by
    rw [h] at hone; simp [PV.cells, PV.one] at hone
  have hzV : V β H w z de.zero := by rw [hzd]; exact V.ofValue β H w z
  obtain ⟨_, hcV⟩ := hzV.cellsOf hany
  have hz0 : 0 < z.cells.size := by omega
  let cells : Array Value := (Array.range (n.toNat * de.size)).map (z.cells[· % z.cells.size]!)
  have hcs : cells.size = n.toNat * de.size := by simp [cells]
  have hget : ∀ k, k < n.toNat * de.size → cells[k]? = some (z.cells.getD (k % de.size) undef) := fun k hk => by
    have h1 : cells[k]? = some (z.cells[k % z.cells.size]!) := by simp [cells, hk]
    rw [h1, getD_mod hz0, hzs]
  have hfl : ∀ m, flat (List.replicate m de.zero) = (List.replicate m de.zero.cells).flatten := by
    intro m
    induction m with
    | zero => rfl
    | succ m ih => rw [List.replicate_succ, List.replicate_succ, flat_cons, ih, List.flatten_cons]
  have hfg : ∀ m k, (flat (List.replicate m de.zero))[k]? = if k < m * de.size then de.zero.cells[k % de.size]? else none := by
    intro m
    induction m with
    | zero => intro k; simp [flat]
    | succ m ih =>
      intro k
      rw [List.replicate_succ, flat_cons, List.getElem?_append, hzl]
      by_cases h : k < de.size
      · rw [if_pos h, if_pos (by rw [Nat.succ_mul]; omega), Nat.mod_eq_of_lt h]
      · have em : k % de.size = (k - de.size) % de.size := Nat.mod_eq_sub_mod (by omega)
        rw [if_neg h, ih, Nat.succ_mul, em]
        by_cases h2 : k < m * de.size + de.size
        · rw [if_pos (by omega), if_pos h2]
        · rw [if_neg (by omega), if_neg h2]
  have hlen : (flat (List.replicate n.toNat de.zero)).length = n.toNat * de.size := by
    rw [hfl]; simp [hzl, List.length_flatten, List.sum_replicate_nat]
  have hV : ∀ (k : Nat) (p : PV), (flat (List.replicate n.toNat de.zero))[k]? = some p → V β H w (z.cells.getD (k % de.size) undef) p := fun k p hp => by
    rw [hfg] at hp
    split at hp
    · have hk : k % de.size < z.cells.size := by rw [hzs]; exact Nat.mod_lt _ hpos
      exact hcV (k % de.size) _ p (by simp [Array.getD, hk]) hp
    · cases hp
  obtain ⟨v, H', β', h1, h2, h3, h4⟩ := new_slice hI (same_push w (.cells cells e)) mu (xs := List.replicate n.toNat de.zero) (m := de.size) (cap := n.toNat) (f := fun k => z.cells.getD (k % de.size) undef) (Nat.le_refl _) (by simp)
    (fun k hk => push_old w _ hk) (c := cells) (t := e) (fz := (0, 0)) (by simp) (fun x hx => by rw [(List.mem_replicate.mp hx).2]; exact hzl) (by rw [hlen]; exact Nat.le_refl _) hcs (by simp)
    (fun k hk => hget k (by omega)) hV (fun k hk => by
      have hq := hfg n.toNat k
      rw [if_pos (by omega)] at hq
      have hkz : k % de.size < de.zero.cells.length := by rw [hzl]; exact Nat.mod_lt _ hpos
      rw [List.getElem?_eq_getElem hkz] at hq
      exact (hV k _ hq).oneCell (List.all_eq_true.mp hone _ (List.getElem_mem hkz))) FzOk.nil hr
  rw [List.length_replicate] at h4
  refine ⟨v, H', h1, _, { w with heap := w.heap.push (.cells cells e) }, β', ?_, h2, h3, h4⟩
  have hmost : most = 70368744177664 := rfl
  have hbi : (i.bytes : Int) * n ≤ 281474976710656 := by
    have e1 : ((n.toNat * de.bytes : Nat) : Int) = (i.bytes : Int) * n := by
      rw [Int.natCast_mul, Int.toNat_of_nonneg h0, hby, Int.mul_comm]
    rw [← e1]
    omega
  have h63 : n ≤ 9223372036854775807 := by omega
  have hrun := run_make w t e i z hu hi hz k k' n n h0 (Int.le_refl _) hbi h63
  rw [hsz] at hrun
  exact hrun

theorem copy_ok (hT : TOk P T) (hI : Inv β H w) {t e : Nat} {de : TD} (hu : P.underlying t = some (.slice e)) (hTe : TdOk P e de) {y : Value} {x : Value} {px : PV} {i ver off len m : Nat} {tip : Bool} {cs : List PV} {c : Bool} {xs : List PV}
    (hy : V β H w y (.buf i ver off len m tip)) (hx : V β H w x px) (hel : elemsOf H de px = some (c, xs)) (hc : c = true) (ho : H[i]? = some (some (.cells ver cs))) (hm : de.size = m) (hle : off + len * m ≤ cs.length)
    (hxm : ∀ x ∈ xs, x.cells.length = m) (hx1 : ∀ x ∈ xs, x.cells.all PV.one = true) (ts : List Nat) (ty : TypeId) :
    Does P β H w (Builtin.copy_ (t :: ts).toArray ty #[y, x]) (.int .i64 (min xs.length len : Nat)) (H.set i (some (.cells ver (cs.take off ++ flat (xs.take (min xs.length len)) ++ cs.drop (off + min xs.length len * m))))) := by
  have hs := elemsOf_ok (P := P) hI hx hel hc
  obtain ⟨f, hf1, hf2, hf3⟩ := hs.f
  obtain ⟨a, cap, rfl, hlc, ha, hi, hl⟩ := hy.buf_inv
  obtain ⟨hn, hsb⟩ := hl ⟨_, ho, rfl⟩
  generalize hk : min xs.length len = k
  have hkx : k ≤ xs.length := by omega
  have hkl : k ≤ len := by omega
  have hkm : (xs.length).min len = k := hk
  have hfl : (flat (xs.take k)).length = k * m := by
    rw [flat_take (m := m) k hxm, List.length_take, flat_length hxm]
    exact Nat.min_eq_left (Nat.mul_le_mul_right _ hkx)
  have hlenm : k * m ≤ len * m := Nat.mul_le_mul_right _ hkl
  have run1 : (Builtin.firstCells de.size k x).run P w = .ok ((List.range (k * m)).map f).toArray w := by rw [← hm]; exact hf1 k hkx w rfl
  unfold Builtin.copy_
  by_cases hz : len = 0
  · -- nothing is copied
    have hk0 : k = 0 := by omega
    subst hk0
    have hset : cs.take off ++ flat (xs.take 0) ++ cs.drop (off + 0 * m) = cs := by simp [flat, List.take_append_drop]
    rw [hset]
    have hsetH : H.set i (some (.cells ver cs)) = H := by
      have hlt : i < H.length := Alive.lt ⟨_, ho⟩
      rw [List.getElem?_eq_getElem hlt, Option.some.injEq] at ho
      rw [← ho]; exact List.set_getElem_self hlt
    rw [hsetH]
    refine ⟨.int .i64 (0 : Nat), w, β, ?_, hI, Ext.refl .., .int ..⟩
    have run0 : (Builtin.firstCells de.size 0 x).run P w = .ok #[] w := by rw [run1]; simp
    simp only [List.getElem?_toArray, List.getElem?_cons_zero, List.getElem?_cons_succ, Sem.run_bind, run_underlying hu, Result.andThen_ok, hs.len, hkm, run_sizeOf' hTe, run0]
    cases a with
    | none => rfl
    | some a => rfl
  · obtain ⟨b, rfl⟩ := ha hz
    cases hb : β i with
    | none => have := (hn hb).1; omega
    | some b' =>
      have hb' : b = b' := by
        rcases hsb b' hb with ⟨h, _⟩ | ⟨h, _⟩
        · exact absurd h hz
        · cases h; rfl
      subst hb'
      have hpb := ptr_block hI ho hb
      obtain ⟨w', hr, h1, h2, _⟩ := store_cells (P := P) (ver' := ver) (cs' := cs.take off ++ flat (xs.take k) ++ cs.drop (off + k * m)) hI ho hb (off := off) (vs := (List.range (k * m)).map f) (ps := flat (xs.take k)) (by simp [hfl])
        (fun j v p hv hp => by
          have hj : j < k * m := by have := getElem?_lt hp; omega
          rw [List.getElem?_map, List.getElem?_range hj] at hv
          cases hv
          refine hf2 j p ?_
          rw [flat_take (m := m) k hxm, List.getElem?_take_of_lt hj] at hp
          exact hp)
        (fun v hv => by
          obtain ⟨j, hj, rfl⟩ := List.mem_map.mp hv
          refine hf3 j ?_
          rw [flat_length hxm]
          have := List.mem_range.mp hj
          have := Nat.mul_le_mul_right m hkx
          omega)
        (by rw [hfl]; omega)
        (by simp only [List.length_append, List.length_take, List.length_drop, hfl]; omega)
        (fun j p hp => by
          rw [hfl]
          by_cases hj1 : j < off
          · refine .inr ⟨by omega, ?_⟩
            rw [List.append_assoc, List.getElem?_append_left (by rw [List.length_take]; omega), List.getElem?_take_of_lt hj1] at hp
            exact hp
          · by_cases hj2 : j < off + k * m
            · refine .inl ⟨by omega, hj2, ?_⟩
              rw [List.append_assoc, List.getElem?_append_right (by rw [List.length_take]; omega), List.length_take, Nat.min_eq_left (by omega), List.getElem?_append_left (by rw [hfl]; omega)] at hp
              exact hp
            · refine .inr ⟨by omega, ?_⟩
              rw [List.getElem?_append_right (by simp only [List.length_append, List.length_take, hfl]; omega), List.getElem?_drop] at hp
              simp only [List.length_append, List.length_take, hfl] at hp
              rw [show off + k * m + (j - (min off cs.length + k * m)) = j by omega] at hp
              exact hp)
        (.inr ⟨rfl, by simp only [List.length_append, List.length_take, List.length_drop, hfl]; omega⟩)
      refine ⟨.int .i64 (k : Nat), w', β, ?_, h1, h2, .int ..⟩
      simp only [List.getElem?_toArray, List.getElem?_cons_zero, List.getElem?_cons_succ, Sem.run_bind, run_underlying hu, Result.andThen_ok, hs.len, hkm, run_sizeOf' hTe, run1]
      simp only [hr, Result.andThen_ok]
      rfl

theorem flat_repl {z : PV} {s : Nat} (hzl : z.cells.length = s) : ∀ n k, (flat (List.replicate n z))[k]? = if k < n * s then z.cells[k % s]? else none
  | 0, k => by simp [flat]
  | n + 1, k => by
    rw [List.replicate_succ, flat_cons, List.getElem?_append, hzl]
    by_cases h : k < s
    · rw [if_pos h, if_pos (by rw [Nat.succ_mul]; omega), Nat.mod_eq_of_lt h]
    · have em : k % s = (k - s) % s := Nat.mod_eq_sub_mod (by omega)
      rw [if_neg h, flat_repl hzl n, Nat.succ_mul, em]
      by_cases h2 : k < n * s + s
      · rw [if_pos (by omega), if_pos h2]
      · rw [if_neg (by omega), if_neg h2]
theorem flat_repl_len {z : PV} {s n : Nat} (hzl : z.cells.length = s) : (flat (List.replicate n z)).length = n * s :=
  (flat_length (m := s) fun x hx => by rw [(List.mem_replicate.mp hx).2]; exact hzl).trans (by rw [List.length_replicate])

theorem clear_ok (hI : Inv β H w) {t e : Nat} {de : TD} (hu : P.underlying t = some (.slice e)) (hTe : TdOk P e de) {y : Value} {i ver off len m : Nat} {tip : Bool} {cs : List PV}
    (hy : V β H w y (.buf i ver off len m tip)) (ho : H[i]? = some (some (.cells ver cs))) (hm : de.size = m) (hzl : de.zero.cells.length = m) (hpos : 0 < m) (hle : off + len * m ≤ cs.length) (hone : de.zero.cells.all PV.one = true)
    (ts : List Nat) (ty : TypeId) :
    Does P β H w (Builtin.clear_ (t :: ts).toArray ty #[y]) (.tup []) (H.set i (some (.cells ver (cs.take off ++ flat (List.replicate len de.zero) ++ cs.drop (off + len * m))))) := by
  obtain ⟨inf, z, hi, hsz, hby, hz, hzd, hzs⟩ := hTe.info
  have hany : de.zero ≠ .any := fun h => by
    rw [h] at hone; simp [PV.cells, PV.one] at hone
  have hzV : V β H w z de.zero := by rw [hzd]; exact V.ofValue β H w z
  obtain ⟨_, hcV⟩ := hzV.cellsOf hany
  obtain ⟨a, cap, rfl, hlc, ha, hir, hl⟩ := hy.buf_inv
  obtain ⟨hn, hsb⟩ := hl ⟨_, ho, rfl⟩
  have hfl : (flat (List.replicate len de.zero)).length = len * m := flat_repl_len hzl
  unfold Builtin.clear_
  by_cases hz0 : len = 0
  · subst hz0
    have hset : cs.take off ++ flat (List.replicate 0 de.zero) ++ cs.drop (off + 0 * m) = cs := by simp [flat, List.take_append_drop]
    rw [hset]
    have hsetH : H.set i (some (.cells ver cs)) = H := by
      have hlt : i < H.length := Alive.lt ⟨_, ho⟩
      rw [List.getElem?_eq_getElem hlt, Option.some.injEq] at ho
      rw [← ho]; exact List.set_getElem_self hlt
    rw [hsetH]
    refine ⟨.tuple #[], w, β, ?_, hI, Ext.refl .., .tup _ _ rfl fun j v p hv hp => by simp at hv⟩
    simp only [List.getElem?_toArray, List.getElem?_cons_zero, List.getElem?_cons_succ, Sem.run_bind, run_underlying hu, Result.andThen_ok]
    cases a with
    | none => rfl
    | some a => rfl
  · obtain ⟨b, rfl⟩ := ha hz0
    cases hb : β i with
    | none => have := (hn hb).1; omega
    | some b' =>
      have hb' : b = b' := by
        rcases hsb b' hb with ⟨h, _⟩ | ⟨h, _⟩
        · exact absurd h hz0
        · cases h; rfl
      subst hb'
      have hpb := ptr_block hI ho hb
      have hzc : ∀ k, k < len * m → ((Builtin.zeroCells z.cells len).toList)[k]? = some (z.cells.getD (k % m) undef) := fun k hk => by
        have h1 : (Builtin.zeroCells z.cells len)[k]? = some (z.cells[k % z.cells.size]!) := by
          unfold Builtin.zeroCells
          simp [hzs, hm, hk]
        rw [Array.getElem?_toList, h1, getD_mod (by omega), hzs, hm]
      have hzlen : ((Builtin.zeroCells z.cells len).toList).length = len * m := by rw [Array.length_toList, zeroCells_size, hzs, hm]
      have hV : ∀ (k : Nat) (p : PV), (flat (List.replicate len de.zero))[k]? = some p → V β H w (z.cells.getD (k % m) undef) p := fun k p hp => by
        rw [flat_repl hzl] at hp
        split at hp
        · have hk : k % m < z.cells.size := by rw [hzs, hm]; exact Nat.mod_lt _ hpos
          exact hcV (k % m) _ p (by simp [Array.getD, hk]) hp
        · cases hp
      obtain ⟨w', hr, h1, h2, _⟩ := store_cells (P := P) (ver' := ver) (cs' := cs.take off ++ flat (List.replicate len de.zero) ++ cs.drop (off + len * m)) hI ho hb (off := off) (vs := (Builtin.zeroCells z.cells len).toList) (ps := flat (List.replicate len de.zero)) (by rw [hzlen, hfl])
        (fun j v p hv hp => by
          have hj : j < len * m := by have := getElem?_lt hp; omega
          rw [hzc j hj] at hv
          cases hv
          exact hV j p hp)
        (fun v hv => by
          obtain ⟨k, hk, rfl⟩ := List.getElem_of_mem hv
          have hk' : k < len * m := by rw [hzlen] at hk; exact hk
          have h3 := hzc k hk'
          rw [List.getElem?_eq_getElem hk, Option.some.injEq] at h3
          rw [h3]
          have hq := flat_repl hzl len k
          rw [if_pos hk'] at hq
          have hkz : k % m < de.zero.cells.length := by rw [hzl]; exact Nat.mod_lt _ hpos
          rw [List.getElem?_eq_getElem hkz] at hq
          exact (hV k _ hq).oneCell (List.all_eq_true.mp hone _ (List.getElem_mem hkz)))
        (by rw [hfl]; omega)
        (by simp only [List.length_append, List.length_take, List.length_drop, hfl]; omega)
        (fun j p hp => by
          rw [hfl]
          by_cases hj1 : j < off
          · refine .inr ⟨by omega, ?_⟩
            rw [List.append_assoc, List.getElem?_append_left (by rw [List.length_take]; omega), List.getElem?_take_of_lt hj1] at hp
            exact hp
          · by_cases hj2 : j < off + len * m
            · refine .inl ⟨by omega, hj2, ?_⟩
              rw [List.append_assoc, List.getElem?_append_right (by rw [List.length_take]; omega), List.length_take, Nat.min_eq_left (by omega), List.getElem?_append_left (by rw [hfl]; omega)] at hp
              exact hp
            · refine .inr ⟨by omega, ?_⟩
              rw [List.getElem?_append_right (by simp only [List.length_append, List.length_take, hfl]; omega), List.getElem?_drop] at hp
              simp only [List.length_append, List.length_take, hfl] at hp
              rw [show off + len * m + (j - (min off cs.length + len * m)) = j by omega] at hp
              exact hp)
        (.inr ⟨rfl, by simp only [List.length_append, List.length_take, List.length_drop, hfl]; omega⟩)
      refine ⟨.tuple #[], w', β, ?_, h1, h2, .tup _ _ rfl fun j v p hv hp => by simp at hv⟩
      have hzv : (zeroValue e).run P w = .ok z w := by simp [zeroValue, typeInfo, hi, hz]
      obtain ⟨n, rfl⟩ : ∃ n, len = n + 1 := ⟨len - 1, by omega⟩
      simp only [List.getElem?_toArray, List.getElem?_cons_zero, List.getElem?_cons_succ, Sem.run_bind, run_underlying hu, Result.andThen_ok, hzv]
      simp only [hr, Result.andThen_ok]
      rfl

theorem newSlice_val {mu c : Bool} {m ver : Nat} {xs : List PV} {c' : Bool} {v : PV} {H' : Heap} (h : newSlice mu c H m xs ver = .val c' v H') : c' = c := by
  unfold newSlice at h
  split at h <;> (simp only [R.val.injEq] at h; exact h.1.symm)

theorem eff_ok (hT : TOk P T) (hI : Inv β H w) {ρ : Operand → Value} {g : Operand → PV} (hg : ∀ x, V β H w (ρ x) (g x)) {o : Oper} {mu c : Bool} {v : PV} {H' : Heap}
    (hp : pureOp T g o.op = none) (h : effOp T mu g H o.op = .val c v H') (hc : c = true) : YesE P ρ o β H w v H' := by
  obtain ⟨dst, op, ty, pos, after, guard⟩ := o
  cases op <;> simp only [effOp] at h <;> try (cases h; done)
  case store t a x =>
    unfold storeE at h
    split at h
    · cases h
    · rename_i d hd
      split at h
      · rename_i i ver off e
        split at h
        · rename_i cs ho
          simp only [R.val.injEq] at h
          obtain ⟨h1, rfl, rfl⟩ := h
          have hx := hg a
          rw [e] at hx
          obtain ⟨w', hr, hi, he⟩ := store_ok hT hI hd hx (hg x) ho (c := (storeV d cs off (g x)).1) (cs' := (storeV d cs off (g x)).2) rfl (by rw [h1]; exact hc)
          refine ⟨.skip, undef, w', β, ?_, .inr ⟨rfl, rfl⟩, hi, he, .any _⟩
          simp only [execOp, Sem.run_bind, hr, Result.andThen_ok]
          rfl
        · cases h
      · cases h
  case box t x =>
    unfold boxE at h
    split at h
    · cases h
    · rename_i hne
      simp only [R.val.injEq] at h
      obtain ⟨rfl, rfl, rfl⟩ := h
      exact yes_does rfl (box_ok hI t (hg x) hne hc)
  case alloc t =>
    split at h
    · rename_i d hd
      unfold boxE at h
      split at h
      · cases h
      · rename_i hne
        simp only [R.val.injEq] at h
        obtain ⟨rfl, rfl, rfl⟩ := h
        exact yes_does rfl (alloc_ok (hT t d hd) hI hne hc)
    · cases h
  case buildSlice t n parts =>
    unfold buildSliceE at h
    split at h
    · cases h
    · rename_i e de het
      obtain ⟨hut, hTe⟩ := elemTy_ok hT het
      split at h
      · rename_i c' cs hfv
        have hcc := newSlice_val h
        rw [hcc] at hc
        simp only [Bool.and_eq_true, decide_eq_true_eq, Bool.or_eq_true] at hc
        obtain ⟨v', H'', e1, e2⟩ := buildSlice_ok (P := P) hut hTe hI hg hfv hc.1 hc.2.1 hc.2.2.1 hc.2.2.2 mu h
        simp only [R.val.injEq] at e1
        obtain ⟨_, rfl, rfl⟩ := e1
        exact yes_does rfl e2
      · cases h
  case convert src t x =>
    unfold bytesE at h
    split at h
    · cases h
    · rename_i e de het
      obtain ⟨hut, hTe⟩ := elemTy_ok hT het
      split at h
      · rename_i s hk hs
        have hcc := newSlice_val h
        rw [hcc] at hc
        have hsz : de.size = 1 := of_decide_eq_true hc
        have hx := hg x
        rw [hs] at hx
        -- the source type is known
        have : ∃ us, P.underlying src = some us := by
          simp only [pureOp] at hp
          split at hp
          · rename_i ds dd hds hdd
            obtain ⟨us, hus, _⟩ := (hT src ds hds).und
            exact ⟨us, hus⟩
          · cases hp
        obtain ⟨us, hus⟩ := this
        obtain ⟨v', H'', e1, e2⟩ := bytes_ok (P := P) hut hTe hk hsz hus hI s mu h
        simp only [R.val.injEq] at e1
        obtain ⟨_, rfl, rfl⟩ := e1
        refine yes_does (s := convert src t (ρ x)) rfl ?_
        rw [hx.str_inv]; exact e2
      · cases h
  case range t x =>
    unfold rangeE at h
    split at h
    · cases h
    · rename_i d hd
      split at h
      · rename_i s hk hs
        simp only [R.val.injEq] at h
        obtain ⟨rfl, rfl, rfl⟩ := h
        obtain ⟨u, hu, hku, _⟩ := (hT t d hd).und
        rw [hk] at hku
        obtain rfl := kOk_str hku
        have hx := hg x
        rw [hs] at hx
        refine yes_does (s := Instr.range t (ρ x)) rfl ?_
        rw [hx.str_inv]; exact range_ok hu hI s
      · rename_i kt et i hk hx
        obtain ⟨u, hu, hku, _⟩ := (hT t d hd).und
        rw [hk] at hku
        split at h
        · rename_i n bs es ho
          simp only [R.val.injEq] at h
          obtain ⟨rfl, rfl, rfl⟩ := h
          have hgx := hg x
          rw [hx] at hgx
          cases u <;> simp only [kOk] at hku
          exact yes_does (s := Instr.range t (ρ x)) rfl (rangeM_ok hI hu ho hgx)
        · cases h
      · cases h
  case next it isStr =>
    unfold nextE at h
    (repeat' split at h) <;> cases h
  case makeMap t r =>
    cases r with
    | some r => cases h
    | none =>
      simp only [makeMapE, R.val.injEq] at h
      obtain ⟨rfl, rfl, rfl⟩ := h
      exact yes_does rfl (makeMap_ok hI t)
  case mapUpdate t m k x =>
    unfold putE at h
    split at h
    · rename_i tk de i hmt hx
      split at h
      · rename_i es ho
        simp only [R.val.injEq] at h
        obtain ⟨h1, rfl, rfl⟩ := h
        rw [← h1] at hc
        simp only [Bool.and_eq_true] at hc
        obtain ⟨kt, et, hm, hkd, hTe⟩ := mapTy_ok hT hmt
        have hgx := hg m
        rw [hx] at hgx
        obtain ⟨w', r1, i1, e1⟩ := update_run (P := P) hI hm hkd ho hgx (hg k) (hg x) hc.1 (List.all_eq_true.mp hc.2)
        refine ⟨.skip, undef, w', β, ?_, .inr ⟨rfl, rfl⟩, i1, e1, .any _⟩
        simp only [execOp, Sem.run_bind, r1, Result.andThen_ok]
        rfl
      · cases h
    · cases h
  case insert t m k x =>
    unfold putE at h
    split at h
    · rename_i tk de i hmt hx
      split at h
      · rename_i es ho
        simp only [R.val.injEq] at h
        obtain ⟨h1, rfl, rfl⟩ := h
        rw [← h1] at hc
        simp only [Bool.and_eq_true] at hc
        obtain ⟨kt, et, hm, hkd, hTe⟩ := mapTy_ok hT hmt
        have hgx := hg m
        rw [hx] at hgx
        obtain ⟨w', r1, i1, e1⟩ := update_run (P := P) hI hm hkd ho hgx (hg k) (hg x) hc.1 (List.all_eq_true.mp hc.2)
        refine ⟨.skip, undef, w', β, ?_, .inr ⟨rfl, rfl⟩, i1, e1, .any _⟩
        simp only [execOp, Sem.run_bind, r1, Result.andThen_ok]
        rfl
      · cases h
    · cases h
  case call cl =>
    obtain ⟨callee, args, ts⟩ := cl
    simp only at h
    split at h
    · unfold callE at h
      split at h <;> cases h
    · split at h
      · rename_i t u s x hts hargs
        obtain ⟨xs, xx, hl, hs, hx⟩ := two_args hg hargs
        have hta : ts = #[t, u] := by apply Array.ext'; exact hts
        have haa : args.map ρ = #[xs, xx] := by apply Array.ext'; exact hl
        subst hta
        refine yes_does (s := Builtin.append_ #[t, u] ty (args.map ρ)) rfl ?_
        rw [haa]
        exact append_ok hT hI hs hx mu ty h hc
      · cases h
    · split at h
      · rename_i t ts' d x hts hargs
        obtain ⟨yv, xv, hl, hy, hx⟩ := two_args hg hargs
        have hta : ts = (t :: ts').toArray := by apply Array.ext'; exact hts
        have haa : args.map ρ = #[yv, xv] := by apply Array.ext'; exact hl
        subst hta
        unfold copyE at h
        split at h
        · rename_i e de i ver off len m tip het
          obtain ⟨hut, hTe⟩ := elemTy_ok hT het
          split at h
          · rename_i c' xs cs hel ho
            simp only [R.val.injEq] at h
            obtain ⟨rfl, rfl, rfl⟩ := h
            simp only [Bool.and_eq_true, decide_eq_true_eq, List.all_eq_true] at hc
            refine yes_does (s := Builtin.copy_ (t :: ts').toArray ty (args.map ρ)) rfl ?_
            rw [haa]
            exact copy_ok hT hI hut hTe hy hx hel hc.1 (obj_some ho) hc.2.1 hc.2.2.1 (fun x hx => (hc.2.2.2 x hx).1) (fun x hx => List.all_eq_true.mpr (hc.2.2.2 x hx).2) ts' ty
          · cases h
        · cases h
      · cases h
    · split at h
      · rename_i t ts' d x hts hargs
        obtain ⟨yv, xv, hl, hy, hx⟩ := two_args hg hargs
        have hta : ts = (t :: ts').toArray := by apply Array.ext'; exact hts
        have haa : args.map ρ = #[yv, xv] := by apply Array.ext'; exact hl
        subst hta
        unfold delE at h
        split at h
        · rename_i dk de i hmt
          obtain ⟨kt, et, hm, hkd, hTe⟩ := mapTy_ok hT hmt
          split at h
          · rename_i es ho
            simp only [R.val.injEq] at h
            obtain ⟨h1, rfl, rfl⟩ := h
            rw [hc] at h1
            simp only [Bool.and_eq_true] at h1
            refine yes_does (s := Builtin.delete_ (t :: ts').toArray ty (args.map ρ)) rfl ?_
            rw [haa]
            obtain ⟨w', r1, i1, e1⟩ := delete_run (P := P) (ats := (t :: ts').toArray) (ty := ty) hI rfl hm hkd ho hy hx h1.1 (List.all_eq_true.mp h1.2)
            exact ⟨_, w', β, r1, i1, e1, .tup _ _ rfl fun j v p hv hp => by simp at hv⟩
          · rename_i n bs es ho
            simp only [R.val.injEq] at h
            obtain ⟨h1, rfl, rfl⟩ := h
            rw [hc] at h1
            simp only [Bool.and_eq_true] at h1
            refine yes_does (s := Builtin.delete_ (t :: ts').toArray ty (args.map ρ)) rfl ?_
            rw [haa]
            obtain ⟨w', r1, i1, e1⟩ := delete_runx (P := P) (ats := (t :: ts').toArray) (ty := ty) hI rfl hm hkd ho hy hx h1.1 (List.all_eq_true.mp h1.2)
            exact ⟨_, w', β, r1, i1, e1, .tup _ _ rfl fun j v p hv hp => by simp at hv⟩
          · cases h
        · cases h
      · cases h
    · split at h
      · rename_i t ts' x hts hargs
        obtain ⟨yv, hl, hy⟩ := one_arg hg hargs
        have hta : ts = (t :: ts').toArray := by apply Array.ext'; exact hts
        have haa : args.map ρ = #[yv] := by apply Array.ext'; exact hl
        subst hta
        unfold clearE at h
        split at h
        · rename_i e de i ver off len m tip het
          obtain ⟨hut, hTe⟩ := elemTy_ok hT het
          split at h
          · rename_i cs ho
            simp only [R.val.injEq] at h
            obtain ⟨rfl, rfl, rfl⟩ := h
            simp only [Bool.and_eq_true, decide_eq_true_eq] at hc
            refine yes_does (s := Builtin.clear_ (t :: ts').toArray ty (args.map ρ)) rfl ?_
            rw [haa]
            exact clear_ok hI hut hTe hy (obj_some ho) hc.1 hc.2.1 hc.2.2.1 hc.2.2.2.1 hc.2.2.2.2 ts' ty
          · cases h
        · cases h
      · cases h
    · cases h
  case makeSlice t l cp =>
    unfold makeSliceE at h
    split at h
    · rename_i e de k n k' n' het hl hcp
      obtain ⟨hut, hTe⟩ := elemTy_ok hT het
      have hcc := newSlice_val h
      rw [hcc] at hc
      simp only [Bool.and_eq_true, decide_eq_true_eq] at hc
      obtain ⟨h1, h2, h3, h4, h5, h6, h7⟩ := hc
      subst h1
      obtain ⟨v', H'', e1, e2⟩ := makeSlice_ok (P := P) hut hTe hI (k := k) (k' := k') h2 h3 h4 h5 h6 h7 mu h
      simp only [R.val.injEq] at e1
      obtain ⟨_, rfl, rfl⟩ := e1
      have hx1 := hg l
      have hx2 := hg cp
      rw [hl] at hx1
      rw [hcp] at hx2
      refine yes_does (s := Instr.makeSlice t (ρ l) (ρ cp)) rfl ?_
      rw [hx1.int_inv, hx2.int_inv]; exact e2
    · cases h

end Go.Proofs.SL

/-
  SL: regions whose order is drawn: one order will do for all. No claim by itself.
-/
namespace Go.Proofs.SL
open Go
set_option linter.unusedSimpArgs false
set_option linter.unusedVariables false

/-- As 'wpAny', and an operation that is quiet by its number ('q') leaves the heap. -/
def wpAnyM (P : Program) (md : Region.Mode) (ops : Array Oper) (Q : Exit → Act → World → Prop) (q : Nat → Bool) : Nat → Array Bool → Act → World → Prop
  | 0, listed, a, w => Region.ready md ops listed = [] ∧ Q .normal a w
  | fuel + 1, listed, a, w =>
    (Region.ready md ops listed = [] → Q .normal a w) ∧
    ∀ i ∈ Region.ready md ops listed, wpOp P ops Q i (fun a' w' => (q i = true → w'.heap = w.heap) ∧ wpAnyM P md ops Q q fuel (listed.setIfInBounds i true) a' w') a w

section
variable {P : Program} {ops : Array Oper} {Q : Exit → Act → World → Prop} {md : Region.Mode} {q : Nat → Bool}

theorem wpAny_of_m : ∀ (fuel : Nat) (listed : Array Bool) (a : Act) (w : World), wpAnyM P md ops Q q fuel listed a w → wpAny P md ops Q fuel listed a w
  | 0, _, _, _, h => h
  | fuel + 1, _, _, _, h => ⟨h.1, fun i hi => wpOp_mono (fun a' w' h' => wpAny_of_m fuel _ a' w' h'.2) (h.2 i hi)⟩

/-- An operation that may come up now may be taken first. -/
theorem wpAnyM_firstD {i : Nat} {oi : Oper} {v : Value} (S : World → Prop) (D : Nat → Prop) (hD : ∀ j oj, ops[j]? = some oj → D j → ∃ e ∈ oj.after, Region.binds md e = true ∧ (e.on = i ∨ D e.on)) (hi : ops[i]? = some oi) (hsel : ∀ (j : Nat) (o : Oper) cs b, ops[j]? = some o → o.op ≠ .select cs b)
    (hQ : ∀ c a w, Q (.panic c) (a.put oi.dst v) w → Q (.panic c) a w) (hS : ∀ w w' : World, S w → w'.heap = w.heap → S w') :
    ∀ (fuel : Nat) (listed : Array Bool) (a : Act) (w : World),
      (∀ j oj, ops[j]? = some oj → j ≠ i → listed.getD j true = false → (∀ e ∈ oj.after, Region.binds md e = true → e.on ≠ i) → ¬ D j → oi.apart ops oj = true ∧ (q j = true ∨ ∀ w, S w)) →
      (∀ j, D j → listed.getD j false = false) → i ∈ Region.ready md ops listed → YieldsIf P ops S oi v a → S w →
      wpAnyM P md ops Q q fuel (listed.setIfInBounds i true) (a.put oi.dst v) w → wpAnyM P md ops Q q (fuel + 1) listed a w := by
  intro fuel
  induction fuel with
  | zero =>
    intro listed a w _ hDl hr hy hSw Hh
    refine ⟨fun h => (by rw [h] at hr; cases hr), fun j hj => ?_⟩
    by_cases hji : j = i
    · subst hji; exact hy.wpOp hi hSw ⟨fun _ => rfl, Hh⟩
    · have := ready_mono hj hji
      rw [Hh.1] at this
      cases this
  | succ fuel ih =>
    intro listed a w hfree hDl hr hy hSw Hh
    refine ⟨fun h => (by rw [h] at hr; cases hr), fun j hj => ?_⟩
    by_cases hji : j = i
    · subst hji; exact hy.wpOp hi hSw ⟨fun _ => rfl, Hh⟩
    · have h1 := Hh.2 j (ready_mono hj hji)
      obtain ⟨hjun, oj, hoj, hall⟩ := mem_ready.1 hj
      have hnot : ∀ e ∈ oj.after, Region.binds md e = true → e.on ≠ i := fun e he hb heq => by
        have h1 := hall e he hb
        have h0 := (mem_ready.1 hr).1
        rw [heq] at h1
        rcases Nat.lt_or_ge i listed.size with h' | h'
        · simp [h'] at h0 h1; rw [h0] at h1; cases h1
        · simp [Array.getElem?_eq_none h'] at h1
      have hnotD : ¬ D j := fun hd => by
        obtain ⟨e, he, hb, hon⟩ := hD j oj hoj hd
        rcases hon with hon | hon
        · exact hnot e he hb hon
        · have := hall e he hb
          rw [hDl e.on hon] at this; cases this
      obtain ⟨hap, hq⟩ := hfree j oj hoj hji hjun hnot hnotD
      have h2 := wpOp_putIf hoj hap (fun cs b => hsel i oi cs b hi) (fun cs b => hsel j oj cs b hoj) hQ hy h1
      have hfree' : ∀ k ok, ops[k]? = some ok → k ≠ i → (listed.setIfInBounds j true).getD k true = false →
          (∀ e ∈ ok.after, Region.binds md e = true → e.on ≠ i) → ¬ D k → oi.apart ops ok = true ∧ (q k = true ∨ ∀ w, S w) := fun k ok hk hki hun hno hnd => by
        refine hfree k ok hk hki ?_ hno hnd
        by_cases hjk : j = k
        · subst hjk; exact hjun
        · rw [getD_set_ne true hjk] at hun; exact hun
      refine wpOp_mono (fun a' w' h3 => ⟨h3.2.1, ih (listed.setIfInBounds j true) a' w' hfree' (fun m hm => by
        have hmj : m ≠ j := fun e => hnotD (e ▸ hm)
        rw [getD_set_ne false (fun e => hmj e.symm)]; exact hDl m hm) (ready_mono hr (Ne.symm hji)) h3.1 ?_ ?_⟩) h2
      · rcases hq with hq | hq
        · exact hS w w' hSw (h3.2.1 hq)
        · exact hq w'
      · rw [Array.setIfInBounds_comm _ _ hji]
        exact h3.2.2

/-- An operation that may come up now may be taken first. -/
theorem wpAnyM_first {i : Nat} {oi : Oper} {v : Value} (S : World → Prop) (hi : ops[i]? = some oi) (hsel : ∀ (j : Nat) (o : Oper) cs b, ops[j]? = some o → o.op ≠ .select cs b)
    (hQ : ∀ c a w, Q (.panic c) (a.put oi.dst v) w → Q (.panic c) a w) (hS : ∀ w w' : World, S w → w'.heap = w.heap → S w')
    (fuel : Nat) (listed : Array Bool) (a : Act) (w : World)
      (hf : ∀ j oj, ops[j]? = some oj → j ≠ i → listed.getD j true = false → (∀ e ∈ oj.after, Region.binds md e = true → e.on ≠ i) → oi.apart ops oj = true ∧ (q j = true ∨ ∀ w, S w))
      (hr : i ∈ Region.ready md ops listed) (hy : YieldsIf P ops S oi v a) (hSw : S w)
      (h : wpAnyM P md ops Q q fuel (listed.setIfInBounds i true) (a.put oi.dst v) w) : wpAnyM P md ops Q q (fuel + 1) listed a w :=
  wpAnyM_firstD S (fun _ => False) (fun _ _ _ h => h.elim) hi hsel hQ hS fuel listed a w (fun j oj h1 h2 h3 h4 _ => hf j oj h1 h2 h3 h4) (fun _ h => h.elim) hr hy hSw h

theorem wpAnyM_done {listed : Array Bool} {a : Act} {w : World} (hr : Region.ready md ops listed = []) (h : Q .normal a w) : ∀ fuel, wpAnyM P md ops Q q fuel listed a w
  | 0 => ⟨hr, h⟩
  | _ + 1 => ⟨fun _ => h, by rw [hr]; simp⟩

theorem wpAnyM_forced {i : Nat} {fuel : Nat} {listed : Array Bool} {a : Act} {w : World} (hr : Region.ready md ops listed = [i])
    (h : wpOp P ops Q i (fun a' w' => (q i = true → w'.heap = w.heap) ∧ wpAnyM P md ops Q q fuel (listed.setIfInBounds i true) a' w') a w) : wpAnyM P md ops Q q (fuel + 1) listed a w :=
  ⟨fun h0 => (by rw [hr] at h0; cases h0), fun j hj => by rw [hr] at hj; obtain rfl := List.mem_singleton.mp hj; exact h⟩
end

/-- Operations that hang on their operands alone, whatever these are. -/
def blindOp (T : Nat → Option TD) : Op → Bool
  | .binOp op t _ _ _ => !ptrEq T op t
  | .move _ | .assign _ | .pick .. | .unOp .. | .index .. | .extract .. | .field .. | .fieldAddr .. | .indexAddr .. | .build .. | .makeFunc .. | .makeInterface .. | .nilCheck _ | .sliceToArrayPointer .. => true
  | .convert s d _ => match T s, T d with
    | some s, some d => match d.k with
      | .int _ => true
      | .slice _ => false
      | .str => match s.k with
        | .slice _ => false
        | _ => true
      | _ => true
    | _, _ => true
  | .slice t .. => match T t with
    | none => true
    | some d => match d.k with
      | .arr _ _ => false
      | .ptr _ => false
      | _ => true
  | .call c => match c.callee with
    | .builtin .len => !mapLen T c.argTypes.toList
    | .builtin .min => true
    | .builtin .max => true
    | _ => false
  | _ => false

def readsOp (T : Nat → Option TD) : Op → Bool
  | .load .. => true
  | .slice t .. => !blindOp T (.slice t (.tmp 0) none none none)
  | .binOp op t _ _ _ => ptrEq T op t
  | .lookup .. => true
  | .entry _ => true
  | .call c => match c.callee with
    | .builtin .len => mapLen T c.argTypes.toList
    | _ => false
  | _ => false

theorem blind_pure {T : Nat → Option TD} {op : Op} (h : blindOp T op = true) (g : Operand → PV) : ∃ r, pureOp T g op = some r := by
  cases op <;> simp only [blindOp] at h <;> simp only [pureOp] <;> first
    | exact ⟨_, rfl⟩
    | (cases h; done)
    | skip
  case binOp op t x y yt =>
    have : ¬ ptrEq T op t = true := by simpa using h
    rw [if_neg this]
    exact ⟨_, rfl⟩
  case convert s d x =>
    cases hs : T s with
    | none => exact ⟨_, rfl⟩
    | some ds =>
      cases hd : T d with
      | none => exact ⟨_, rfl⟩
      | some dd =>
        simp only [hs, hd] at h
        simp only
        cases hk : dd.k with
        | int k => unfold convV; split <;> first | exact ⟨_, rfl⟩ | simp_all
        | slice e => simp [hk] at h
        | str =>
          simp only [hk] at h
          unfold convV
          cases hks : ds.k with
          | slice e => simp [hks] at h
          | _ => split <;> first | exact ⟨_, rfl⟩ | simp_all
        | _ => unfold convV; split <;> first | exact ⟨_, rfl⟩ | simp_all
  case slice t x lo hi mx =>
    cases hT : T t with
    | none => exact ⟨_, rfl⟩
    | some d => cases hk : d.k <;> first | exact ⟨_, by simp only [hk]; rfl⟩ | simp [hT, hk] at h
  case call c =>
    split at h
    · rename_i e
      have : ¬ mapLen T c.argTypes.toList = true := by simpa using h
      simp only [e, if_neg this]; exact ⟨_, rfl⟩
    · rename_i e; simp only [e]; exact ⟨_, rfl⟩
    · rename_i e; simp only [e]; exact ⟨_, rfl⟩
    · cases h

theorem reads_read {T : Nat → Option TD} {op : Op} (h : readsOp T op = true) (g : Operand → PV) (H : Heap) : pureOp T g op = none ∧ ∃ r, readOp T g H op = some r := by
  cases op <;> simp only [readsOp] at h <;> try (cases h; done)
  case load t a => exact ⟨rfl, _, rfl⟩
  case lookup t x k ok => exact ⟨rfl, _, rfl⟩
  case entry it => exact ⟨rfl, _, rfl⟩
  case binOp op t x y yt => exact ⟨by simp only [pureOp, h, if_true], _, by simp only [readOp, h, if_true]; rfl⟩
  case call c =>
    split at h
    · rename_i e; exact ⟨by simp only [pureOp, e, h, if_true], _, by simp only [readOp, e, h, if_true]; rfl⟩
    · cases h
  case slice t x lo hi mx =>
    cases hT : T t with
    | none => simp [blindOp, hT] at h
    | some d =>
      cases hk : d.k with
      | arr n e =>
        refine ⟨by simp only [pureOp, hT, hk], ?_⟩
        cases mx with
        | some m => exact ⟨_, by simp only [readOp, hT]; rfl⟩
        | none => cases hE : T e <;> exact ⟨_, by simp only [readOp, hT, hk, hE]; rfl⟩
      | ptr a =>
        refine ⟨by simp only [pureOp, hT, hk], ?_⟩
        cases mx with
        | some m => exact ⟨_, by simp only [readOp, hT]; rfl⟩
        | none =>
          cases hA : T a with
          | none => exact ⟨_, by simp only [readOp, hT, hk, hA]; rfl⟩
          | some da =>
            cases hka : da.k with
            | arr n e => cases hE : T e <;> exact ⟨_, by simp only [readOp, hT, hk, hA, hka, hE]; rfl⟩
            | _ => exact ⟨_, by simp only [readOp, hT, hk, hA, hka]; rfl⟩
      | _ => simp [blindOp, hT, hk] at h

end Go.Proofs.SL

/-
  SL: what it means that code runs from an abstract state; calls. No claim by itself.
-/
namespace Go.Proofs.SL
open Go
set_option linter.unusedSimpArgs false
set_option linter.unusedVariables false

/-- No fence at all; in a round of a range over a function, or in none. -/
def wideR (r : Option Nat) : Fence := { fn := fun _ => True, depth := none, alive := false, round := r }
theorem callsIn_wideR {r : Option Nat} {n : Nat} {P : Program} {f : FuncId} {args : Array Value} {w : World} {R : Ending → World → Prop} (h : Calls P f args w R) : CallsIn (wideR r) n P f args w R :=
  show CallsIn Fence.wide n P f args w R from callsIn_wide.2 h

def kontL (P : Program) (r : Option Nat) (Qf : Exit → Act → World → Prop) : List It → Exit → Act → World → Prop
  | [], e, a, w => Qf e a w
  | .blk id :: k, .exit id', a, w => if id' = id then kontL P r Qf k .normal a w else kontL P r Qf k (.exit id') a w
  | .blk _ :: k, e, a, w => kontL P r Qf k e a w
  | .code c :: k, .normal, a, w => c.wpIn (wideR r) 0 P (kontL P r Qf k) a w
  | .code _ :: k, e, a, w => kontL P r Qf k e a w
  | .loop c :: k, .normal, a, w => (Code.loop c).wpIn (wideR r) 0 P (kontL P r Qf k) a w
  | .loop _ :: k, e, a, w => kontL P r Qf k e a w
  | .ops all rest :: k, .normal, a, w => ∃ pre, all = pre ++ rest ∧ wpOpsIn (wideR r) 0 P all.toArray (kontL P r Qf k) (List.range' pre.length rest.length) a w
  | .ops _ _ :: k, e, a, w => kontL P r Qf k e a w
  | .op all o rest :: k, .normal, a, w => ∃ pre, all = pre ++ o :: rest ∧ o.wpIn (wideR r) 0 P a w (wpOpsIn (wideR r) 0 P all.toArray (kontL P r Qf k) (List.range' (pre.length + 1) rest.length)) (kontL P r Qf k)
  | .op _ _ _ :: k, e, a, w => kontL P r Qf k e a w
  | .dr _ _ :: _, .normal, _, _ => False
  | .dr _ _ :: k, e, a, w => kontL P r Qf k e a w
  | .dop _ _ _ _ :: _, .normal, _, _ => False
  | .dop _ _ _ _ :: k, e, a, w => kontL P r Qf k e a w
  | .dq _ _ _ :: _, .normal, _, _ => False
  | .dq _ _ _ :: k, e, a, w => kontL P r Qf k e a w
  | .dqop _ _ _ _ :: _, .normal, _, _ => False
  | .dqop _ _ _ _ :: k, e, a, w => kontL P r Qf k e a w
  | .dqp _ _ _ _ :: _, .normal, _, _ => False
  | .dqp _ _ _ _ :: k, e, a, w => kontL P r Qf k e a w
  | .dqpop _ _ _ _ _ :: _, .normal, _, _ => False
  | .dqpop _ _ _ _ _ :: k, e, a, w => kontL P r Qf k e a w
  | .dqs _ _ _ _ _ :: _, .normal, _, _ => False
  | .dqs _ _ _ _ _ :: k, e, a, w => kontL P r Qf k e a w
  | .dqsop _ _ _ _ _ _ :: _, .normal, _, _ => False
  | .dqsop _ _ _ _ _ _ :: k, e, a, w => kontL P r Qf k e a w

def exOk : Exit → AEx → Prop
  | .normal, .normal => True
  | .exit i, .exit j => i = j
  | .ret, .ret => True
  | _, _ => False

/-- How the code may end. -/
def Fin (Φ : AEx → Env → Heap → Prop) (β0 : Nat → Option Nat) (H0 : Heap) (w0 : World) (e : Exit) (a : Act) (w : World) : Prop :=
  ∃ x σ H β, exOk e x ∧ Inv β H w ∧ Ext β0 H0 w0 β H w ∧ FR w0.heap.size β H w a σ ∧ Φ x σ H

/-- The items run from this state, and end as Φ says. -/
def Run (P : Program) (ro : Bool) (H0 : Heap) (its : List It) (σ : Env) (H : Heap) (Φ : AEx → Env → Heap → Prop) : Prop :=
  ∀ β0 w0 β w a, Inv β H w → Ext β0 H0 w0 β H w → FR w0.heap.size β H w a σ → ∀ r, (ro = false → r = none) → kontL P r (Fin Φ β0 H0 w0) its .normal a w

/-- A function that is called with these values, in this heap. -/
def SCall (P : Program) (f : FuncId) (args : List PV) (H : Heap) (Q : PV → Heap → Prop) : Prop :=
  (∀ vs w, (callFunc f vs).run P w = .ok (.enter f vs) w) ∧
  ∀ β w vs, Inv β H w → vs.size = args.length → (∀ (i : Nat) (v : Value) (p : PV), vs[i]? = some v → args[i]? = some p → V β H w v p) →
    Calls P f vs w fun e w' => ∃ v r β' H', e = .returned v ∧ Inv β' H' w' ∧ Ext β H w β' H' w' ∧ V β' H' w' v r ∧ Q r H'

/-- A call of a range's yield. -/
def YCall (P : Program) (i : Nat) (args : List PV) (H : Heap) (Q : PV → Heap → Prop) : Prop :=
  Live H i 0 ∧ ∀ β w vs l, Inv β H w → β i = some l → vs.size = args.length → (∀ (k : Nat) (v : Value) (p : PV), vs[k]? = some v → args[k]? = some p → V β H w v p) →
    ∃ fn tmps asg body, (Instr.yield l vs).run P w = .ok (.round l fn tmps asg body) w ∧ RoundIn Fence.wide 0 P l fn tmps asg body w fun e w' => ∃ v r β' H', e = .returned v ∧ Inv β' H' w' ∧ Ext β H w β' H' w' ∧ V β' H' w' v r ∧ Q r H'
theorem YCall.mono {P : Program} {i : Nat} {args : List PV} {H : Heap} {Q Q' : PV → Heap → Prop} (h : YCall P i args H Q) (hq : ∀ r H', Q r H' → Q' r H') : YCall P i args H Q' :=
  ⟨h.1, fun β w vs l hI hl hs hv => by
    obtain ⟨fn, tmps, asg, body, h1, h2⟩ := h.2 β w vs l hI hl hs hv
    exact ⟨fn, tmps, asg, body, h1, h2.mono fun e w' ⟨v, r, β', H', a1, a2, a3, a4, a5⟩ => ⟨v, r, β', H', a1, a2, a3, a4, hq _ _ a5⟩⟩⟩

theorem SCall.mono {P : Program} {f : FuncId} {args : List PV} {H : Heap} {Q Q' : PV → Heap → Prop} (h : SCall P f args H Q) (hq : ∀ r H', Q r H' → Q' r H') : SCall P f args H Q' :=
  ⟨h.1, fun β w vs hI hs hv => (h.2 β w vs hI hs hv).mono fun e w' ⟨v, r, β', H', h1, h2, h3, h4, h5⟩ => ⟨v, r, β', H', h1, h2, h3, h4, hq _ _ h5⟩⟩

section
variable {P : Program} {T : Nat → Option TD} {mu : Nat → Bool} {H0 : Heap} {Φ : AEx → Env → Heap → Prop} {n : Nat}

theorem kont_code {r : Option Nat} {Qf : Exit → Act → World → Prop} (c : Code) (k : List It) : ∀ e a w, Exit.then (c.wpIn (wideR r) 0 P (kontL P r Qf k)) (kontL P r Qf k) e a w ↔ kontL P r Qf (.code c :: k) e a w := by
  intro e a w; cases e <;> exact Iff.rfl

theorem kont_blk {r : Option Nat} {Qf : Exit → Act → World → Prop} (id : Nat) (k : List It) : ∀ e a w, kontL P r Qf (.blk id :: k) e a w ↔ Exit.inBlock id (kontL P r Qf k) e a w := by
  intro e a w; cases e <;> exact Iff.rfl

theorem kont_exit {r : Option Nat} {Qf : Exit → Act → World → Prop} (id : Nat) : ∀ (k : List It) a w, kontL P r Qf k (.exit id) a w ↔ match toBlk id k with
    | some k' => kontL P r Qf k' .normal a w
    | none => Qf (.exit id) a w
  | [], a, w => Iff.rfl
  | .blk i :: k, a, w => by
    by_cases h : i = id
    · subst h; simp [kontL, toBlk]
    · have h' : ¬ id = i := fun e => h e.symm
      simp only [kontL, toBlk, if_neg h, if_neg h']
      exact kont_exit id k a w
  | .code _ :: k, a, w => by simp only [kontL, toBlk]; exact kont_exit id k a w
  | .loop _ :: k, a, w => by simp only [kontL, toBlk]; exact kont_exit id k a w
  | .ops _ _ :: k, a, w => by simp only [kontL, toBlk]; exact kont_exit id k a w
  | .op _ _ _ :: k, a, w => by simp only [kontL, toBlk]; exact kont_exit id k a w
  | .dr _ _ :: k, a, w => by simp only [kontL, toBlk]; exact kont_exit id k a w
  | .dop _ _ _ _ :: k, a, w => by simp only [kontL, toBlk]; exact kont_exit id k a w
  | .dq _ _ _ :: k, a, w => by simp only [kontL, toBlk]; exact kont_exit id k a w
  | .dqop _ _ _ _ :: k, a, w => by simp only [kontL, toBlk]; exact kont_exit id k a w
  | .dqp _ _ _ _ :: k, a, w => by simp only [kontL, toBlk]; exact kont_exit id k a w
  | .dqpop _ _ _ _ _ :: k, a, w => by simp only [kontL, toBlk]; exact kont_exit id k a w
  | .dqs _ _ _ _ _ :: k, a, w => by simp only [kontL, toBlk]; exact kont_exit id k a w
  | .dqsop _ _ _ _ _ _ :: k, a, w => by simp only [kontL, toBlk]; exact kont_exit id k a w

theorem kont_panic {r : Option Nat} {Qf : Exit → Act → World → Prop} {c : List PanicEntry} : ∀ (k : List It) a w, kontL P r Qf k (.panic c) a w → Qf (.panic c) a w
  | [], _, _, h => h
  | .blk _ :: k, a, w, h => kont_panic k a w h
  | .code _ :: k, a, w, h => kont_panic k a w h
  | .loop _ :: k, a, w, h => kont_panic k a w h
  | .ops _ _ :: k, a, w, h => kont_panic k a w h
  | .op _ _ _ :: k, a, w, h => kont_panic k a w h
  | .dr _ _ :: k, a, w, h => kont_panic k a w h
  | .dop _ _ _ _ :: k, a, w, h => kont_panic k a w h
  | .dq _ _ _ :: k, a, w, h => kont_panic k a w h
  | .dqop _ _ _ _ :: k, a, w, h => kont_panic k a w h
  | .dqp _ _ _ _ :: k, a, w, h => kont_panic k a w h
  | .dqpop _ _ _ _ _ :: k, a, w, h => kont_panic k a w h
  | .dqs _ _ _ _ _ :: k, a, w, h => kont_panic k a w h
  | .dqsop _ _ _ _ _ _ :: k, a, w, h => kont_panic k a w h

theorem kont_goto {r : Option Nat} {Qf : Exit → Act → World → Prop} {l : Nat} : ∀ (k : List It) a w, kontL P r Qf k (.goto l) a w → Qf (.goto l) a w
  | [], _, _, h => h
  | .blk _ :: k, a, w, h => kont_goto k a w h
  | .code _ :: k, a, w, h => kont_goto k a w h
  | .loop _ :: k, a, w, h => kont_goto k a w h
  | .ops _ _ :: k, a, w, h => kont_goto k a w h
  | .op _ _ _ :: k, a, w, h => kont_goto k a w h
  | .dr _ _ :: k, a, w, h => kont_goto k a w h
  | .dop _ _ _ _ :: k, a, w, h => kont_goto k a w h
  | .dq _ _ _ :: k, a, w, h => kont_goto k a w h
  | .dqop _ _ _ _ :: k, a, w, h => kont_goto k a w h
  | .dqp _ _ _ _ :: k, a, w, h => kont_goto k a w h
  | .dqpop _ _ _ _ _ :: k, a, w, h => kont_goto k a w h
  | .dqs _ _ _ _ _ :: k, a, w, h => kont_goto k a w h
  | .dqsop _ _ _ _ _ _ :: k, a, w, h => kont_goto k a w h

theorem kont_ret {r : Option Nat} {Qf : Exit → Act → World → Prop} : ∀ (k : List It) a w, Qf .ret a w → kontL P r Qf k .ret a w
  | [], _, _, h => h
  | .blk _ :: k, a, w, h => kont_ret k a w h
  | .code _ :: k, a, w, h => kont_ret k a w h
  | .loop _ :: k, a, w, h => kont_ret k a w h
  | .ops _ _ :: k, a, w, h => kont_ret k a w h
  | .op _ _ _ :: k, a, w, h => kont_ret k a w h
  | .dr _ _ :: k, a, w, h => kont_ret k a w h
  | .dop _ _ _ _ :: k, a, w, h => kont_ret k a w h
  | .dq _ _ _ :: k, a, w, h => kont_ret k a w h
  | .dqop _ _ _ _ :: k, a, w, h => kont_ret k a w h
  | .dqp _ _ _ _ :: k, a, w, h => kont_ret k a w h
  | .dqpop _ _ _ _ _ :: k, a, w, h => kont_ret k a w h
  | .dqs _ _ _ _ _ :: k, a, w, h => kont_ret k a w h
  | .dqsop _ _ _ _ _ _ :: k, a, w, h => kont_ret k a w h

theorem kont_out {r : Option Nat} {Qf : Exit → Act → World → Prop} : ∀ (k : List It) a w, kontL P r Qf k .outgrown a w → Qf .outgrown a w
  | [], _, _, h => h
  | .blk _ :: k, a, w, h => kont_out k a w h
  | .code _ :: k, a, w, h => kont_out k a w h
  | .loop _ :: k, a, w, h => kont_out k a w h
  | .ops _ _ :: k, a, w, h => kont_out k a w h
  | .op _ _ _ :: k, a, w, h => kont_out k a w h
  | .dr _ _ :: k, a, w, h => kont_out k a w h
  | .dop _ _ _ _ :: k, a, w, h => kont_out k a w h
  | .dq _ _ _ :: k, a, w, h => kont_out k a w h
  | .dqop _ _ _ _ :: k, a, w, h => kont_out k a w h
  | .dqp _ _ _ _ :: k, a, w, h => kont_out k a w h
  | .dqpop _ _ _ _ _ :: k, a, w, h => kont_out k a w h
  | .dqs _ _ _ _ _ :: k, a, w, h => kont_out k a w h
  | .dqsop _ _ _ _ _ _ :: k, a, w, h => kont_out k a w h

def isDefer : Op → Bool
  | .defer _ => true
  | _ => false
theorem defer_next {ρ : Operand → Value} {o : Oper} {c : Call} (h : o.op = .defer c) {w w' : World} {nx : Next} (hr : (execOp ρ o).run P w = .ok nx w') : ∃ d, nx = .defer d := by
  obtain ⟨dst, op, ty, pos, after, guard⟩ := o
  simp only at h
  subst h
  simp only [execOp, Sem.run_bind] at hr
  cases hres : (resolve ρ c ty).run P w with
  | ok d w1 => rw [hres] at hr; simp only [Result.andThen_ok, Sem.run_pure, Result.ok.injEq] at hr; exact ⟨d, hr.1.symm⟩
  | halt x w1 => rw [hres] at hr; simp [Result.andThen] at hr
/-- What an operation comes to, in a round too. -/
theorem semAt_run {r : Option Nat} {ρ : Operand → Value} {o : Oper} {w w' : World} {nx : Next} (hr : (execOp ρ o).run P w = .ok nx w') (hn : ∀ d, nx ≠ .defer d) : (o.semAt r ρ).run P w = .ok nx w' := by
  rw [Oper.semAt_eq r ρ o fun c hc => by obtain ⟨d, hd⟩ := defer_next hc hr; exact hn d hd]
  exact hr

/-- An operation's word, in a round too. -/
theorem wp_opIn {r : Option Nat} {o : Oper} (hd : isDefer o.op = false) {a : Act} {w : World} {next next' : Act → World → Prop} {Q : Exit → Act → World → Prop} (hout : ¬ LetsOut Q) (hn : ∀ a w, next a w → next' a w) (h : o.wp P a w next Q) : o.wpIn (wideR r) 0 P a w next' Q := by
  have hs : o.semAt r a.eval = execOp a.eval o := Oper.semAt_eq r a.eval o fun c hc => by rw [hc] at hd; cases hd
  refine ⟨fun _ _ => trivial, ?_⟩
  show o.uponIn (wideR r) 0 P a next' Q ((o.semAt r a.eval).run P w)
  rw [hs]
  unfold Oper.wp at h
  generalize (execOp a.eval o).run P w = res at h ⊢
  unfold Oper.upon at h
  split at h
  · exact hn _ _ h
  · exact hn _ _ h
  · exact hn _ _ h
  · refine ⟨fun h => (by cases h), callsIn_wideR (h.mono fun e w' he => ?_)⟩
    cases e with
    | returned v => exact hn _ _ he
    | panicked ch => exact he
    | outgrown => exact he
  · refine ⟨fun h => (by cases h), fun c cs _ => ?_⟩
    obtain ⟨v, w', h1, h2⟩ := h c cs
    exact ⟨v, w', hn _ _ h1, stepsIn_wide.2 h2⟩
  · exact h
  · exact h.elim

theorem wpOps_in {r : Option Nat} {ops : Array Oper} (hd : ∀ o ∈ ops, isDefer o.op = false) {Q : Exit → Act → World → Prop} (hout : ¬ LetsOut Q) : ∀ (l : List Nat) (a : Act) (w : World), wpOps P ops Q l a w → wpOpsIn (wideR r) 0 P ops Q l a w
  | [], _, _, h => h
  | i :: rest, a, w, h => by
    simp only [wpOps] at h
    simp only [wpOpsIn]
    cases ho : ops[i]? with
    | none => rw [ho] at h; exact wpOps_in hd hout rest a w h
    | some o =>
      rw [ho] at h
      simp only at h ⊢
      split at h
      · rename_i hw
        rw [if_pos hw]
        rcases h with h | ⟨_, h⟩
        · exact wp_opIn (hd o (Array.mem_of_getElem? ho)) hout (fun a w h => wpOps_in hd hout rest a w h) h
        · exact absurd h hout
      · rename_i hw
        rw [if_neg hw]
        exact ⟨fun _ _ => trivial, wpOps_in hd hout rest _ w h⟩

theorem wpIn_region_anyR {r : Option Nat} {id : Nat} {ops : Array Oper} {Q : Exit → Act → World → Prop} {a : Act} {w : World} (hm : P.follows .mixedOrders = true) (hd : ops.toList.all (fun o => !isDefer o.op) = true) (hout : ¬ LetsOut Q)
    (h : wpAny P .any ops Q ops.size (Array.replicate ops.size false) a { w with drawn := w.drawn + 1 }) : (Code.region id ops true).wpIn (wideR r) 0 P Q a w :=
  wpIn_region_draw fun t => by
    simp only [Region.schedule, hm, Bool.true_or, if_true]
    refine wpOps_in (fun o ho => ?_) hout _ _ _ (wpAny_sound ops.size t _ a _ h)
    have := List.all_eq_true.mp hd o (Array.mem_toList_iff.2 ho)
    simpa using this

theorem wpIn_scopeR {r : Option Nat} {Q : Exit → Act → World → Prop} {a : Act} {w : World} {c : Code} (h : c.wpIn (wideR r) 0 P (Exit.noGoto Q) a w) : (Code.scope c).wpIn (wideR r) 0 P Q a w := by
  intro b k cs hro hb hr
  have stepR_scope : step P (lone (b.atR a (.code (.scope c) :: k)) cs w) = .next (lone (b.atR a (.code c :: .inScope c :: k)) cs w) := step_lone_go (by simp [stepG, stepG.exec, Frame.atR])
  have stepR_inScope : ∀ a w, step P (lone (b.atR a (.inScope c :: k)) cs w) = .next (lone (b.atR a k) cs w) := fun a w => step_lone_go (by simp [stepG, stepG.exec, Frame.atR])
  have h0 : ∀ m, Machine.fenced P (wideR r) m := fun m => show Machine.fenced P Fence.wide m from fenced_wide P m
  obtain ⟨e, a₁, w₁, hq, harr⟩ := h b (.inScope c :: k) cs hro hb hr
  cases e with
  | normal => exact ⟨.normal, a₁, w₁, hq, .head (h0 _) stepR_scope (StepsIn.trans harr (.one (h0 _) (stepR_inScope _ _)))⟩
  | exit id => exact ⟨.exit id, a₁, w₁, hq, fun k' hk => .head (h0 _) stepR_scope (harr.1 k' (by simp [exitTo, hk])), fun hr' hk => let ⟨k₁, h1, h2⟩ := harr.2 hr' (by simp [exitTo, hk]); ⟨k₁, h1, .head (h0 _) stepR_scope h2⟩⟩
  | goto l => exact hq.elim
  | ret => exact ⟨.ret, a₁, w₁, hq, .of_steps (.one (h0 _) stepR_scope) (show ArrivesIn _ P _ b k cs (.ret) a₁ w₁ from harr)⟩
  | panic ch => exact ⟨.panic ch, a₁, w₁, hq, .of_steps (.one (h0 _) stepR_scope) (show ArrivesIn _ P _ b k cs (.panic ch) a₁ w₁ from harr)⟩
  | outgrown => exact ⟨.outgrown, a₁, w₁, hq, .of_steps (.one (h0 _) stepR_scope) (show ArrivesIn _ P _ b k cs (.outgrown) a₁ w₁ from harr)⟩

/-- An operation that may change the world, met in the row of a region. -/
theorem op_step {o : Oper} {a : Act} {w : World} {next : Act → World → Prop} {Q : Exit → Act → World → Prop} {β : Nat → Option Nat} {H : Heap} {v : PV} {H' : Heap} (h : YesE P a.eval o β H w v H')
    (hn : ∀ x w' β', Inv β' H' w' → Ext β H w β' H' w' → V β' H' w' x v → next (a.put o.dst x) w') : o.wp P a w next Q := by
  obtain ⟨nx, x, w', β', hr, hx, h1, h2, h3⟩ := h
  unfold Oper.wp
  rw [hr]
  rcases hx with rfl | ⟨rfl, rfl⟩
  · exact hn x w' β' h1 h2 h3
  · exact hn undef w' β' h1 h2 h3

theorem op_stepI {r : Option Nat} {o : Oper} {a : Act} {w : World} {next : Act → World → Prop} {Q : Exit → Act → World → Prop} {β : Nat → Option Nat} {H : Heap} {v : PV} {H' : Heap} (h : YesE P a.eval o β H w v H')
    (hn : ∀ x w' β', Inv β' H' w' → Ext β H w β' H' w' → V β' H' w' x v → next (a.put o.dst x) w') : o.wpIn (wideR r) 0 P a w next Q := by
  obtain ⟨nx, x, w', β', hr, hx, h1, h2, h3⟩ := h
  refine ⟨fun _ _ => trivial, ?_⟩
  show o.uponIn (wideR r) 0 P a next Q ((o.semAt r a.eval).run P w)
  rcases hx with rfl | ⟨rfl, rfl⟩
  · rw [semAt_run hr (by simp)]; exact hn x w' β' h1 h2 h3
  · rw [semAt_run hr (by simp)]; exact hn undef w' β' h1 h2 h3

theorem Yes.toE {ρ : Operand → Value} {o : Oper} {β : Nat → Option Nat} {H : Heap} {w : World} {v : PV} (hI : Inv β H w) (h : Yes P ρ o β H w v) : YesE P ρ o β H w v H := by
  obtain ⟨x, hr, hv⟩ := h
  exact ⟨_, x, w, β, hr w, .inl rfl, hI, Ext.refl .., hv⟩

theorem YesR.toE {ρ : Operand → Value} {o : Oper} {β : Nat → Option Nat} {H : Heap} {w : World} {v : PV} (hI : Inv β H w) (h : YesR P ρ o β H w v) : YesE P ρ o β H w v H := by
  obtain ⟨x, hr, hv⟩ := h
  exact ⟨_, x, w, β, hr w rfl, .inl rfl, hI, Ext.refl .., hv⟩

theorem aop_ok (hT : TOk P T) {β : Nat → Option Nat} {H : Heap} {w : World} (hI : Inv β H w) {a : Act} {σ : Env} (hF : FR n β H w a σ) {o : Oper} {m b : Bool} {v : PV} {H' : Heap}
    (h : aop T m (opn σ) H o.op = .val b v H') (hb : b = true) : YesE P a.eval o β H w v H' := by
  unfold aop at h
  split at h
  · rename_i c v' hp
    simp only [R.val.injEq] at h
    obtain ⟨rfl, rfl, rfl⟩ := h
    exact (pure_ok hT hF.opn hp hb).toE hI
  · rename_i hp
    split at h
    · rename_i c v' hr
      simp only [R.val.injEq] at h
      obtain ⟨rfl, rfl, rfl⟩ := h
      exact (read_ok hT hI hF.opn hr hb).toE hI
    · exact eff_ok hT hI hF.opn hp h hb

theorem aop_br (hT : TOk P T) {β : Nat → Option Nat} {H : Heap} {w : World} (hI : Inv β H w) {a : Act} {σ : Env} (hF : FR n β H w a σ) {o : Oper} {m c : Bool} {v1 v2 : PV} {H1 H2 : Heap}
    (h : aop T m (opn σ) H o.op = .br c v1 H1 v2 H2) : (c = true → YesE P a.eval o β H w v1 H1) ∧ (c = false → YesE P a.eval o β H w v2 H2) := by
  unfold aop at h
  split at h
  · cases h
  rename_i hpure
  split at h
  · cases h
  rename_i hread
  clear hpure hread
  obtain ⟨dst, op, ty, pos, after, guard⟩ := o
  cases op <;> simp only [effOp] at h <;> try (cases h; done)
  case next it isStr =>
    unfold nextE at h
    split at h
    · rename_i i hp
      split at h
      · rename_i s pos ho
        simp only [R.br.injEq] at h
        obtain ⟨rfl, rfl, rfl, rfl, rfl⟩ := h
        have hx := hF.opn it
        rw [hp] at hx
        obtain ⟨h1, h2⟩ := next_ok (P := P) hI ho hx ty
        exact ⟨fun hc => yes_does rfl (h1 (of_decide_eq_true hc)), fun hc => yes_does rfl (h2 (of_decide_eq_false hc))⟩
      · cases h
    · (repeat' split at h) <;> cases h
    · cases h
  case store t a x => unfold storeE at h; (repeat' split at h) <;> cases h
  case box t x => unfold boxE at h; (repeat' split at h) <;> cases h
  case alloc t => unfold boxE at h; (repeat' split at h) <;> cases h
  case buildSlice t n ps => unfold buildSliceE newSlice at h; (repeat' split at h) <;> cases h
  case convert s t x => unfold bytesE newSlice at h; (repeat' split at h) <;> cases h
  case range t x => unfold rangeE at h; (repeat' split at h) <;> cases h
  case call c => unfold appendE copyE callE delE clearE newSlice at h; (repeat' split at h) <;> cases h
  case makeSlice t l c => unfold makeSliceE newSlice at h; (repeat' split at h) <;> cases h
  case makeMap t r => cases r <;> simp only [makeMapE] at h <;> cases h
  case mapUpdate t m k x => unfold putE at h; (repeat' split at h) <;> cases h
  case insert t m k x => unfold putE at h; (repeat' split at h) <;> cases h

theorem aop_draw {β : Nat → Option Nat} {H : Heap} {w : World} (hI : Inv β H w) {a : Act} {σ : Env} (hF : FR n β H w a σ) {o : Oper} {m c : Bool} {Q : PV → Heap → Prop}
    (h : aop T m (opn σ) H o.op = .draw c Q) (hc : c = true) : ∃ v H', Q v H' ∧ YesE P a.eval o β H w v H' := by
  unfold aop at h
  split at h
  · cases h
  rename_i hpure
  split at h
  · cases h
  rename_i hread
  clear hpure hread
  obtain ⟨dst, op, ty, pos, after, guard⟩ := o
  cases op <;> simp only [effOp] at h <;> try (cases h; done)
  case next it isStr =>
    unfold nextE at h
    split at h
    · (repeat' split at h) <;> cases h
    · rename_i i hp
      split at h
      · rename_i m' since seen last hit
        split at h
        · rename_i n bs es ho
          simp only [R.draw.injEq] at h
          obtain ⟨h1, rfl⟩ := h
          rw [hc] at h1
          simp only [Bool.and_eq_true, List.all_eq_true, decide_eq_true_eq] at h1
          have hx := hF.opn it
          rw [hp] at hx
          obtain ⟨v, H', h2, h3⟩ := nextM_ok (P := P) hI hit ho h1.1 h1.2 hx ty
          exact ⟨v, H', h2, yes_does rfl h3⟩
        · cases h
      · cases h
    · cases h
  case store t a x => unfold storeE at h; (repeat' split at h) <;> cases h
  case box t x => unfold boxE at h; (repeat' split at h) <;> cases h
  case alloc t => unfold boxE at h; (repeat' split at h) <;> cases h
  case buildSlice t n ps => unfold buildSliceE newSlice at h; (repeat' split at h) <;> cases h
  case convert s t x => unfold bytesE newSlice at h; (repeat' split at h) <;> cases h
  case range t x => unfold rangeE at h; (repeat' split at h) <;> cases h
  case call c => unfold appendE copyE callE delE clearE newSlice at h; (repeat' split at h) <;> cases h
  case makeSlice t l c => unfold makeSliceE newSlice at h; (repeat' split at h) <;> cases h
  case makeMap t r => cases r <;> simp only [makeMapE] at h <;> cases h
  case mapUpdate t m k x => unfold putE at h; (repeat' split at h) <;> cases h
  case insert t m k x => unfold putE at h; (repeat' split at h) <;> cases h

theorem args_ok {β : Nat → Option Nat} {H : Heap} {w : World} {vs ws : Array Value} {ps qs : List PV} (h1 : vs.size = ps.length) (h2 : ws.size = qs.length)
    (h3 : ∀ (i : Nat) (v : Value) (p : PV), vs[i]? = some v → ps[i]? = some p → V β H w v p) (h4 : ∀ (i : Nat) (v : Value) (p : PV), ws[i]? = some v → qs[i]? = some p → V β H w v p) :
    (vs ++ ws).size = (ps ++ qs).length ∧ ∀ (i : Nat) (v : Value) (p : PV), (vs ++ ws)[i]? = some v → (ps ++ qs)[i]? = some p → V β H w v p := by
  refine ⟨by simp [h1, h2], fun i v p hv hp => ?_⟩
  rw [Array.getElem?_append] at hv
  rw [List.getElem?_append] at hp
  rw [h1] at hv
  split at hv
  · rename_i hlt; rw [if_pos hlt] at hp; exact h3 i v p hv hp
  · rename_i hlt; rw [if_neg hlt] at hp; exact h4 _ v p hv hp

theorem aop_call {β : Nat → Option Nat} {H : Heap} {w : World} (hI : Inv β H w) {a : Act} {σ : Env} (hF : FR n β H w a σ) {o : Oper} {m : Bool} {f : Nat} {args : List PV}
    (h : aop T m (opn σ) H o.op = .call f args) {K : PV → Heap → Prop} (hs : SCall P f args H K) {next : Act → World → Prop} {Q : Exit → Act → World → Prop}
    (hn : ∀ v r w' β' H', Inv β' H' w' → Ext β H w β' H' w' → V β' H' w' v r → K r H' → next (a.put o.dst v) w') : o.wp P a w next Q := by
  unfold aop at h
  split at h
  · cases h
  rename_i hpure
  split at h
  · cases h
  rename_i hread
  clear hpure hread
  obtain ⟨dst, op, ty, pos, after, guard⟩ := o
  cases op <;> simp only [effOp] at h <;> try (cases h; done)
  case store t a x => unfold storeE at h; (repeat' split at h) <;> cases h
  case box t x => unfold boxE at h; (repeat' split at h) <;> cases h
  case alloc t => unfold boxE at h; (repeat' split at h) <;> cases h
  case buildSlice t n ps => unfold buildSliceE newSlice at h; (repeat' split at h) <;> cases h
  case convert s t x => unfold bytesE newSlice at h; (repeat' split at h) <;> cases h
  case range t x => unfold rangeE at h; (repeat' split at h) <;> cases h
  case next it isStr => unfold nextE at h; (repeat' split at h) <;> cases h
  case call c =>
    obtain ⟨callee, cargs, ts⟩ := c
    simp only at h
    split at h
    · rename_i fo
      unfold callE at h
      split at h
      · rename_i n pa pb hfo
        simp only [R.call.injEq] at h
        obtain ⟨rfl, rfl⟩ := h
        have hfv := hF.opn fo
        rw [hfo] at hfv
        obtain ⟨va, vb, hfe, h1, h2, h3, h4⟩ := hfv.func_inv
        obtain ⟨m1, m2⟩ := map_args hF.opn cargs
        obtain ⟨a1, a2⟩ := args_ok h1 m1 h3 m2
        obtain ⟨b1, b2⟩ := args_ok a1 h2 a2 h4
        have hrun : (execOp a.eval { dst := dst, op := Op.call { callee := Callee.value fo, args := cargs, argTypes := ts }, type := ty, pos := pos, after := after, guard := guard : Oper }).run P w
            = .ok (.enter n (va ++ cargs.map a.eval ++ vb)) w := by
          simp only [execOp, resolve, Deferred.ofValue, hfe, Sem.run_bind, Sem.run_pure, Result.andThen_ok, invoke]
          exact hs.1 _ _
        unfold Oper.wp
        rw [hrun, Oper.upon_enter]
        refine (hs.2 β w _ hI b1 b2).mono fun e w' ⟨v, r, β', H', h5, h6, h7, h8, h9⟩ => ?_
        subst h5
        exact hn v r w' β' H' h6 h7 h8 h9
      · cases h
      · cases h
    · unfold appendE newSlice at h; (repeat' split at h) <;> cases h
    · unfold copyE at h; (repeat' split at h) <;> cases h
    · unfold delE at h; (repeat' split at h) <;> cases h
    · unfold clearE at h; (repeat' split at h) <;> cases h
    · cases h
  case makeSlice t l c => unfold makeSliceE newSlice at h; (repeat' split at h) <;> cases h
  case makeMap t r => cases r <;> simp only [makeMapE] at h <;> cases h
  case mapUpdate t m k x => unfold putE at h; (repeat' split at h) <;> cases h
  case insert t m k x => unfold putE at h; (repeat' split at h) <;> cases h

theorem call_notdefer {g : Operand → PV} {H : Heap} {m : Bool} {op : Op} {f : Nat} {args : List PV} (h : aop T m g H op = .call f args) : isDefer op = false := by
  cases op <;> first
    | rfl
    | (simp [aop, pureOp, readOp, effOp] at h)

theorem aop_callI {r : Option Nat} {β : Nat → Option Nat} {H : Heap} {w : World} (hI : Inv β H w) {a : Act} {σ : Env} (hF : FR n β H w a σ) {o : Oper} {m : Bool} {f : Nat} {args : List PV}
    (h : aop T m (opn σ) H o.op = .call f args) {K : PV → Heap → Prop} (hs : SCall P f args H K) {next : Act → World → Prop} {Q : Exit → Act → World → Prop} (hout : ¬ LetsOut Q)
    (hn : ∀ v r w' β' H', Inv β' H' w' → Ext β H w β' H' w' → V β' H' w' v r → K r H' → next (a.put o.dst v) w') : o.wpIn (wideR r) 0 P a w next Q :=
  wp_opIn (call_notdefer h) hout (fun _ _ h => h) (aop_call hI hF h hs hn)

theorem V.yld_inv {β : Nat → Option Nat} {H : Heap} {w : World} {v : Value} {i : Nat} (h : V β H w v (.yld i)) : ∃ b, v = .func (.yield b) #[] #[] ∧ (Live H i 0 → β i = some b) := by
  cases h with | yld b _ hi h => exact ⟨b, rfl, h⟩

theorem aop_ycall {r : Option Nat} {β : Nat → Option Nat} {H : Heap} {w : World} (hI : Inv β H w) {a : Act} {σ : Env} (hF : FR n β H w a σ) {o : Oper} {m : Bool} {i : Nat} {args : List PV}
    (h : aop T m (opn σ) H o.op = .ycall i args) {K : PV → Heap → Prop} (hs : YCall P i args H K) {next : Act → World → Prop} {Q : Exit → Act → World → Prop}
    (hn : ∀ v r w' β' H', Inv β' H' w' → Ext β H w β' H' w' → V β' H' w' v r → K r H' → next (a.put o.dst v) w') : o.wpIn (wideR r) 0 P a w next Q := by
  unfold aop at h
  split at h
  · cases h
  rename_i hpure
  split at h
  · cases h
  rename_i hread
  clear hpure hread
  obtain ⟨dst, op, ty, pos, after, guard⟩ := o
  cases op <;> simp only [effOp] at h <;> try (cases h; done)
  case store t a x => unfold storeE at h; (repeat' split at h) <;> cases h
  case box t x => unfold boxE at h; (repeat' split at h) <;> cases h
  case alloc t => unfold boxE at h; (repeat' split at h) <;> cases h
  case buildSlice t n ps => unfold buildSliceE newSlice at h; (repeat' split at h) <;> cases h
  case convert s t x => unfold bytesE newSlice at h; (repeat' split at h) <;> cases h
  case range t x => unfold rangeE at h; (repeat' split at h) <;> cases h
  case next it isStr => unfold nextE at h; (repeat' split at h) <;> cases h
  case call c =>
    obtain ⟨callee, cargs, ts⟩ := c
    simp only at h
    split at h
    · rename_i fo
      unfold callE at h
      split at h
      · cases h
      · rename_i j hfo
        simp only [R.ycall.injEq] at h
        obtain ⟨rfl, rfl⟩ := h
        have hfv := hF.opn fo
        rw [hfo] at hfv
        obtain ⟨b, hfe, hb⟩ := hfv.yld_inv
        obtain ⟨m1, m2⟩ := map_args hF.opn cargs
        obtain ⟨fn, tmps, asg, body, hy, hR⟩ := hs.2 β w (cargs.map a.eval) b hI (hb hs.1) m1 m2
        have hrun : (execOp a.eval { dst := dst, op := Op.call { callee := Callee.value fo, args := cargs, argTypes := ts }, type := ty, pos := pos, after := after, guard := guard : Oper }).run P w
            = .ok (.round b fn tmps asg body) w := by
          simp only [execOp, resolve, Deferred.ofValue, hfe, Sem.run_bind, Sem.run_pure, Result.andThen_ok, invoke, Array.empty_append, Array.append_empty]
          exact hy
        refine ⟨fun _ _ => trivial, ?_⟩
        show Oper.uponIn (wideR r) 0 P _ a next Q ((Oper.semAt r a.eval _).run P w)
        rw [semAt_run hrun (by simp), Oper.uponIn_round]
        refine ⟨fun h => (by cases h), show RoundIn Fence.wide 0 P b fn tmps asg body w _ from hR.mono fun e w' he => ?_⟩
        obtain ⟨v, r, β', H', h5, h6, h7, h8, h9⟩ := he
        subst h5
        exact hn v r w' β' H' h6 h7 h8 h9
      · cases h
    · unfold appendE newSlice at h; (repeat' split at h) <;> cases h
    · unfold copyE at h; (repeat' split at h) <;> cases h
    · unfold delE at h; (repeat' split at h) <;> cases h
    · unfold clearE at h; (repeat' split at h) <;> cases h
    · cases h
  case makeSlice t l c => unfold makeSliceE newSlice at h; (repeat' split at h) <;> cases h
  case makeMap t r => cases r <;> simp only [makeMapE] at h <;> cases h
  case mapUpdate t m k x => unfold putE at h; (repeat' split at h) <;> cases h
  case insert t m k x => unfold putE at h; (repeat' split at h) <;> cases h

end
end Go.Proofs.SL
