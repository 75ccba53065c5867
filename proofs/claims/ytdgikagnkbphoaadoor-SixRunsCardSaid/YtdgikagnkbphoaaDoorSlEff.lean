/-
  SL: operations that change the heap are sound. No claim by itself.
-/
import Derived.Test.YtdgikagnkbphoaaDoorSlHeap
import Derived.Laws.CopyRow
import Derived.Lib.FrozenHead
namespace Go.Proofs.SL
open Go
set_option linter.unusedSimpArgs false
set_option linter.unusedVariables false
variable {P : Program} {T : Nat → Option TD} {β : Nat → Option Nat} {H : Heap} {w : World}

/-- What is to be shown of an operation that may change the world. -/
def Does (P : Program) (β : Nat → Option Nat) (H : Heap) (w : World) (s : Sem Value) (v : PV) (H' : Heap) : Prop :=
  ∃ x w' β', s.run P w = .ok x w' ∧ Inv β' H' w' ∧ Ext β H w β' H' w' ∧ V β' H' w' x v

def YesE (P : Program) (ρ : Operand → Value) (o : Oper) (β : Nat → Option Nat) (H : Heap) (w : World) (v : PV) (H' : Heap) : Prop :=
  ∃ nx x w' β', (execOp ρ o).run P w = .ok nx w' ∧ (nx = .value x ∨ (nx = .skip ∧ x = undef)) ∧ Inv β' H' w' ∧ Ext β H w β' H' w' ∧ V β' H' w' x v

theorem yes_does {ρ : Operand → Value} {o : Oper} {v : PV} {H' : Heap} {s : Sem Value} (e : execOp ρ o = (do pure (.value (← s)))) (h : Does P β H w s v H') : YesE P ρ o β H w v H' := by
  obtain ⟨x, w', β', hr, h1, h2, h3⟩ := h
  refine ⟨.value x, x, w', β', ?_, .inl rfl, h1, h2, h3⟩
  rw [e]
  simp only [Sem.run_bind, hr, Result.andThen_ok]
  rfl

theorem same_push (w : World) (o : Obj) : Same w { w with heap := w.heap.push o } := ⟨rfl, rfl, rfl, by simp⟩
theorem push_old (w : World) (o : Obj) {b : Nat} (h : b < w.heap.size) : ({ w with heap := w.heap.push o } : World).heap[b]? = w.heap[b]? := by
  simp only [Array.getElem?_push]
  rw [if_neg (by omega)]

/-- A new block, that is an object of the heap. -/
theorem new_obj (hI : Inv β H w) {w' : World} (hw : Same w w') {c : Array Value} {t : TypeId} {fz : Nat × Nat} {cs : List PV} {f : Nat → Value} {b : Nat} (hb : w.heap.size ≤ b)
    (hp : ∀ k, k < w.heap.size → w'.heap[k]? = w.heap[k]?) (hh : w'.heap[b]? = some (.cells c t fz)) (hsz : cs.length ≤ c.size)
    (hf : ∀ k, k < cs.length → c[k]? = some (f k)) (hV : ∀ (k : Nat) (p : PV), cs[k]? = some p → V β H w (f k) p) (hone : ∀ k, k < cs.length → (f k).oneCell' = true) (hfz : ∀ k, k < c.size → ¬ (fz.1 ≤ k ∧ k < fz.2)) (ver : Nat) :
    Ext β H w (more β H.length (some b)) (H ++ [some (.cells ver cs)]) w' ∧ Inv (more β H.length (some b)) (H ++ [some (.cells ver cs)]) w' := by
  have hr : ∀ x, some b = some x → w.heap.size ≤ x := fun x hx => by cases hx; exact hb
  have he := push_ext hI hw hp (o := .cells ver cs) (r := some b) hr
  refine ⟨he, push_inv hI hp hr he ⟨fun hn => ?_, fun x hx => ?_⟩⟩
  · rw [more_self] at hn; cases hn
  · rw [more_self] at hx
    cases hx
    exact ⟨c, t, fz, f, hh, hsz, hf, fun k p hkp => (hV k p hkp).mono he, hone, hfz⟩

theorem live_new (H : Heap) (ver : Nat) (cs : List PV) : (H ++ [some (.cells ver cs)])[H.length]? = some (some (OB.cells ver cs)) := by simp
theorem ref_new (H : Heap) (ver : Nat) (cs : List PV) : Ref (H ++ [some (.cells ver cs)]) H.length ver :=
  ⟨by simp, fun o ho => by rw [live_new] at ho; cases ho; exact Nat.le_refl _⟩

theorem bsize_eq {w : World} {b : Nat} {c : Array Value} {t : TypeId} {fz : Nat × Nat} (h : w.heap[b]? = some (.cells c t fz)) : bsize w b = c.size := by unfold bsize; rw [h]

/-- A new variable. -/
theorem new_var (hI : Inv β H w) (t : TypeId) {x : Value} {p : PV} (hx : V β H w x p) (hp : p ≠ .any) (ha : p.cells.all PV.one = true) : Does P β H w (do pure (.pointer (some (← newVar t x)))) (.ptr H.length 0 0) (H ++ [some (.cells 0 p.cells)]) := by
  obtain ⟨h1, h2⟩ := hx.cellsOf hp
  have hf : ∀ k, k < p.cells.length → x.cells[k]? = some (x.cells.getD k undef) := fun k hk => by simp [Array.getD, h1, hk]
  obtain ⟨he, hi⟩ := new_obj hI (same_push w (.cells x.cells t)) (c := x.cells) (t := t) (fz := (0, 0)) (cs := p.cells) (f := fun k => x.cells.getD k undef) (b := w.heap.size) (Nat.le_refl _)
    (fun k hk => push_old w _ hk) (by simp) (by omega) hf (fun k q hq => by
      have hk : k < p.cells.length := by
        rcases Nat.lt_or_ge k p.cells.length with h | h
        · exact h
        · rw [List.getElem?_eq_none h] at hq; cases hq
      exact h2 k _ q (hf k hk) hq) (fun k hk => (h2 k _ _ (hf k hk) (List.getElem?_eq_getElem hk)).oneCell (List.all_eq_true.mp ha _ (List.getElem_mem hk))) (by simp) 0
  refine ⟨_, _, _, rfl, hi, he, .ptr _ _ _ _ (ref_new ..) fun _ => ?_⟩
  rw [more_self]

theorem box_ok (hI : Inv β H w) (t : TypeId) {x : Value} {p : PV} (hx : V β H w x p) (hp : p ≠ .any) (ha : p.cells.all PV.one = true) : Does P β H w (Instr.box t x) (.ptr H.length 0 0) (H ++ [some (.cells 0 p.cells)]) :=
  new_var hI t hx hp ha

theorem alloc_ok {t : TypeId} {d : TD} (hT : TdOk P t d) (hI : Inv β H w) (hp : d.zero ≠ .any) (ha : d.zero.cells.all PV.one = true) : Does P β H w (Instr.alloc t true (.tuple #[])) (.ptr H.length 0 0) (H ++ [some (.cells 0 d.zero.cells)]) := by
  obtain ⟨z, hz, hzV⟩ := run_zeroValue' (w := w) (β := β) (H := H) hT
  obtain ⟨x, w', β', hr, h1, h2, h3⟩ := new_var (P := P) hI t hzV hp ha
  refine ⟨x, w', β', ?_, h1, h2, h3⟩
  unfold Instr.alloc
  simp only [Sem.run_bind, hz, Result.andThen_ok]
  exact hr

/-- A new block whose slice is read only, or an object. -/
theorem new_slice (hI : Inv β H w) {w' : World} (hw : Same w w') (mu : Bool) {m : Nat} {xs : List PV} {c : Array Value} {t : TypeId} {fz : Nat × Nat} {f : Nat → Value} {b cap : Nat} (hb : w.heap.size ≤ b) (hbl : b < w'.heap.size)
    (hp : ∀ k, k < w.heap.size → w'.heap[k]? = w.heap[k]?) (hh : w'.heap[b]? = some (.cells c t fz)) (hm : ∀ x ∈ xs, x.cells.length = m) (hsz : (flat xs).length ≤ cap * m) (hcs : c.size = cap * m) (hcap : xs.length ≤ cap)
    (hf : ∀ k, k < (flat xs).length → c[k]? = some (f k)) (hV : ∀ (k : Nat) (p : PV), (flat xs)[k]? = some p → V β H w (f k) p) (hone : ∀ k, k < (flat xs).length → (f k).oneCell' = true) (hfz : ∀ k, k < c.size → ¬ (fz.1 ≤ k ∧ k < fz.2))
    {cc : Bool} {r : R} (hr : newSlice mu cc H m xs = r) :
    ∃ v H' β', r = .val cc v H' ∧ Inv β' H' w' ∧ Ext β H w β' H' w' ∧ V β' H' w' (.slice (some ⟨b, 0, none⟩) xs.length cap) v := by
  unfold newSlice at hr
  cases mu with
  | true =>
    simp only [if_true] at hr
    obtain ⟨he, hi⟩ := new_obj hI hw hb hp hh (cs := flat xs) (by omega) hf hV hone hfz 0
    refine ⟨_, _, _, hr.symm, hi, he, .buf _ _ _ _ _ _ _ _ hcap (fun _ => ⟨b, rfl⟩) (ref_new ..) fun hl => ⟨fun hn => ?_, fun b' hb' => .inr ?_⟩⟩
    · rw [more_self] at hn; cases hn
    · rw [more_self] at hb'
      cases hb'
      refine ⟨rfl, by rw [bsize_eq hh]; omega, fun _ => ⟨rfl, ?_⟩⟩
      unfold olen
      rw [live_new]
      exact hsz
  | false =>
    simp only [Bool.false_eq_true, if_false] at hr
    have he := quiet_ext hI hw hp
    refine ⟨_, _, β, hr.symm, quiet_inv hI hw hp, he, ?_⟩
    refine .sl b 0 cap m xs f ⟨hbl, fun i hi hbi => ?_⟩ hm hcap (fun k hk => ?_) (fun k p hk => (hV k p hk).mono he) hone
    · have := hI.block hi hbi; omega
    · rw [Nat.zero_add, cell_of hh]; exact hf k hk


theorem run_storeCells_free (g o : Nat) (t : TypeId) (fz : Nat × Nat) : ∀ (vs : List Value) (i : Nat) (cur : Array Value) (w : World), w.heap[g]? = some (.cells cur t fz) →
    (∀ k, k < cur.size → ¬ (fz.1 ≤ k ∧ k < fz.2)) → o + i + vs.length ≤ cur.size → (∀ v ∈ vs, v.oneCell' = true) →
    (storeCells ⟨g, o, none⟩ vs i).run P w = .ok () (w.setRow g (cur.toList.take (o + i) ++ vs ++ cur.toList.drop (o + i + vs.length)).toArray)
  | [], i, cur, w, hg, _, _, _ => by
    simp only [storeCells, List.append_nil, List.length_nil, Nat.add_zero, List.take_append_drop, Array.toArray_toList]
    rw [setRow_self w g cur t fz hg]
    rfl
  | v :: rest, i, cur, w, hg, hfz, hl, h1 => by
    have hi : o + i < cur.size := by simp at hl; omega
    have hadd : (⟨g, o, none⟩ : Addr).add i = ⟨g, o + i, none⟩ := addr_add ..
    have hcell : w.cell? ⟨g, o + i, none⟩ = some cur[o + i] := by simp [World.cell?, hg, hi]
    have hfro : w.frozen? ⟨g, o + i, none⟩ = false := by
      have := hfz (o + i) hi
      obtain ⟨lo, hi'⟩ := fz
      simp only [World.frozen?, hg, Bool.and_eq_false_iff, decide_eq_false_iff_not]
      simp only at this
      omega
    have hst : (store ((⟨g, o, none⟩ : Addr).add i) v).run P w = .ok () (w.setRow g (cur.setIfInBounds (o + i) v)) := by
      rw [hadd, run_store P w _ v _ (h1 v (by simp)), hcell]
      simp [hfro, setCell_eq_setRow w g (o + i) cur t fz v hg]
    have ih := run_storeCells_free g o t fz rest (i + 1) (cur.setIfInBounds (o + i) v) (w.setRow g (cur.setIfInBounds (o + i) v)) (setRow_heap w g cur _ t _ hg) (by simpa using hfz) (by simp at hl ⊢; omega) (fun x hx => h1 x (by simp [hx]))
    simp only [storeCells, Sem.run_bind, hst, Result.andThen_ok, ih, setRow_setRow]
    congr 3
    have e := list_seg_step cur.toList (o + i) v rest (by simp at hl ⊢; omega)
    simpa [Array.toList_setIfInBounds, Nat.add_assoc] using e

/-- Cells of an object's block are stored into. -/
theorem store_cells (hI : Inv β H w) {i ver ver' : Nat} {cs cs' : List PV} (ho : H[i]? = some (some (.cells ver cs))) {b : Nat} (hb : β i = some b) {off : Nat} {vs : List Value} {ps : List PV}
    (hl : vs.length = ps.length) (hV : ∀ (k : Nat) (v : Value) (p : PV), vs[k]? = some v → ps[k]? = some p → V β H w v p) (h1 : ∀ v ∈ vs, v.oneCell' = true)
    (hroom : off + ps.length ≤ bsize w b) (hlen : cs'.length ≤ bsize w b)
    (hcs : ∀ (k : Nat) (p : PV), cs'[k]? = some p → (off ≤ k ∧ k < off + ps.length ∧ ps[k - off]? = some p) ∨ (¬ (off ≤ k ∧ k < off + ps.length) ∧ cs[k]? = some p))
    (hv : ver < ver' ∨ (ver' = ver ∧ cs'.length = cs.length)) :
    ∃ w', (storeCells ⟨b, off, none⟩ vs).run P w = .ok () w' ∧ Inv β (H.set i (some (.cells ver' cs'))) w' ∧ Ext β H w β (H.set i (some (.cells ver' cs'))) w' ∧ bsize w' b = bsize w b := by
  obtain ⟨_, hbb⟩ := hI.cells ho
  obtain ⟨c, t, fz, f, hh, hsz, hf, hfV, hfo, hfz⟩ := hbb b hb
  rw [bsize_eq hh] at hroom hlen
  have hrun := run_storeCells_free (P := P) b off t fz vs 0 c w hh hfz (by omega) h1
  simp only [Nat.add_zero] at hrun
  generalize hc' : (c.toList.take off ++ vs ++ c.toList.drop (off + vs.length)).toArray = c' at hrun
  have hcs' : c'.size = c.size := by rw [← hc']; simp; omega
  have hget : ∀ k, c'[k]? = if off ≤ k ∧ k < off + vs.length then vs[k - off]? else c[k]? := by
    intro k
    rw [← hc']
    simp only [List.getElem?_toArray, List.append_assoc, List.getElem?_append, List.length_take, Array.length_toList, List.getElem?_take, List.getElem?_drop, Array.getElem?_toList]
    have e1 : min off c.size = off := by omega
    rw [e1]
    by_cases k1 : k < off
    · rw [if_pos k1, if_pos k1, if_neg (by omega)]
    · rw [if_neg k1]
      by_cases k2 : k - off < vs.length
      · rw [if_pos k2, if_pos (by omega)]
      · rw [if_neg k2, if_neg (by omega)]
        congr 1; omega
  have hp : ∀ k, k < w.heap.size → k ≠ b → (w.setRow b c').heap[k]? = w.heap[k]? := fun k _ hk => setRow_other w b k c' hk
  have hnew := setRow_heap w b c c' t fz hh
  have hsame : Same w (w.setRow b c') := ⟨rfl, rfl, rfl, by simp⟩
  have hbs : bsize (w.setRow b c') b = bsize w b := by rw [bsize_eq hh, bsize_eq hnew, hcs']
  have he : Ext β H w β (H.set i (some (.cells ver' cs'))) (w.setRow b c') := set_ext hI hsame ho hb hp hbs hv
  refine ⟨_, hrun, set_inv hI ho hb hp he ⟨(fun hn => by rw [hb] at hn; cases hn), fun b' hb' => ?_⟩, he, hbs⟩
  rw [hb] at hb'
  cases hb'
  have hcase : ∀ k, k < cs'.length → (off ≤ k ∧ k < off + vs.length ∧ ∃ v, vs[k - off]? = some v ∧ c'.getD k undef = v) ∨ (k < cs.length ∧ c'.getD k undef = f k) := fun k hk => by
    have hgk := hget k
    rw [Array.getElem?_eq_getElem (by omega)] at hgk
    have hgd : c'.getD k undef = c'[k]'(by omega) := by simp [Array.getD, show k < c'.size by omega]
    rcases hcs k _ (List.getElem?_eq_getElem hk) with ⟨h1', h2', h3'⟩ | ⟨h1', h2'⟩
    · rw [if_pos (by omega)] at hgk
      exact .inl ⟨h1', by omega, _, hgk.symm, hgd⟩
    · rw [if_neg (by omega)] at hgk
      have hkc : k < cs.length := by
        rcases Nat.lt_or_ge k cs.length with h | h
        · exact h
        · rw [List.getElem?_eq_none h] at h2'; cases h2'
      rw [hf k hkc] at hgk
      simp only [Option.some.injEq] at hgk
      exact .inr ⟨hkc, by rw [hgd, hgk]⟩
  refine ⟨c', t, fz, fun k => c'.getD k undef, hnew, by omega, fun k hk => by simp [Array.getD, show k < c'.size by omega], fun k p hkp => ?_, fun k hk => ?_, fun k hk => hfz k (by omega)⟩
  · have hk : k < cs'.length := by
      rcases Nat.lt_or_ge k cs'.length with h | h
      · exact h
      · rw [List.getElem?_eq_none h] at hkp; cases hkp
    rcases hcs k p hkp with ⟨h1', h2', h3'⟩ | ⟨h1', h2'⟩
    · rcases hcase k hk with ⟨_, _, v, hv, e⟩ | ⟨hkc, e⟩
      · simp only [e]; exact (hV (k - off) v p hv h3').mono he
      · have hgk := hget k
        rw [if_pos (by omega), Array.getElem?_eq_getElem (by omega)] at hgk
        have hgd : c'.getD k undef = c'[k]'(by omega) := by simp [Array.getD, show k < c'.size by omega]
        simp only [hgd]
        exact (hV (k - off) _ p hgk.symm h3').mono he
    · rcases hcase k hk with ⟨h3', h4', _⟩ | ⟨hkc, e⟩
      · exact absurd ⟨h3', by omega⟩ h1'
      · simp only [e]; exact (hfV k p h2').mono he
  · rcases hcase k hk with ⟨_, _, v, hv, e⟩ | ⟨hkc, e⟩
    · simp only [e]; exact h1 v (List.mem_of_getElem? hv)
    · simp only [e]; exact hfo k hkc

theorem ptr_block (hI : Inv β H w) {i ver : Nat} {cs : List PV} (ho : H[i]? = some (some (.cells ver cs))) {b : Nat} (hb : β i = some b) : cs.length ≤ bsize w b := by
  obtain ⟨_, hbb⟩ := hI.cells ho
  obtain ⟨c, t, fz, f, hh, hsz, _⟩ := hbb b hb
  rw [bsize_eq hh]; exact hsz

theorem store_ok (hT : TOk P T) (hI : Inv β H w) {t : Nat} {d : TD} (hd : T t = some d) {i ver off : Nat} {cs cs' : List PV} {x y : Value} {p : PV} (hx : V β H w x (.ptr i ver off)) (hy : V β H w y p)
    (ho : obj H i ver = some cs) {c : Bool} (h : storeV d cs off p = (c, cs')) (hc : c = true) :
    ∃ w', (Instr.storeAt t x y).run P w = .ok () w' ∧ Inv β (H.set i (some (.cells ver cs'))) w' ∧ Ext β H w β (H.set i (some (.cells ver cs'))) w' := by
  have ho := obj_some ho
  obtain ⟨b, rfl, hl, hlv⟩ := hx.ptr_inv
  have hb := hlv (live_of ho)
  have hbs := ptr_block hI ho hb
  unfold Instr.storeAt Instr.sureAddr storeVar
  simp only [Sem.run_bind, Sem.run_pure, Result.andThen_ok, run_sizeOf' (hT t d hd)]
  unfold storeV at h
  split at h
  · split at h
    · rename_i vs
      simp only [Prod.mk.injEq] at h; obtain ⟨rfl, rfl⟩ := h
      simp only [Bool.and_eq_true, decide_eq_true_eq] at hc
      obtain ⟨h1, h2, h3⟩ := hc
      obtain ⟨ws, rfl, hs, hv⟩ := hy.agg_inv
      obtain ⟨w', hr, hi', he', _⟩ := store_cells (P := P) hI ho hb (ver' := ver) (cs' := cs.take off ++ vs ++ cs.drop (off + d.size)) (off := off) (vs := ws.toList) (ps := vs) (by simpa using hs)
        (fun k v p hk hp => hv k v p (by simpa using hk) hp)
        (fun v hv' => by
          obtain ⟨k, hk, rfl⟩ := List.mem_iff_getElem.mp hv'
          simp only [Array.length_toList] at hk
          exact (hv k _ (vs[k]'(hs ▸ hk)) (by simp [hk]) (by simp [hs ▸ hk])).oneCell (List.all_eq_true.mp h3 _ (List.getElem_mem _)))
        (by omega) (by simp; omega) (fun k q hk => by
          simp only [List.append_assoc, List.getElem?_append, List.length_take, List.getElem?_take, List.getElem?_drop] at hk
          have e1 : min off cs.length = off := by omega
          rw [e1] at hk
          by_cases k1 : k < off
          · rw [if_pos k1, if_pos k1] at hk; exact .inr ⟨by omega, hk⟩
          · rw [if_neg k1] at hk
            by_cases k2 : k - off < vs.length
            · rw [if_pos k2] at hk; exact .inl ⟨by omega, by omega, hk⟩
            · rw [if_neg k2] at hk
              refine .inr ⟨by omega, ?_⟩
              rw [← hk]; congr 1; omega) (.inr ⟨rfl, by simp; omega⟩)
      refine ⟨w', ?_, hi', he'⟩
      have : ws.size = d.size := by omega
      simp only [Value.cells, this, ne_eq, not_true_eq_false, if_false, hr]
    · simp only [Prod.mk.injEq] at h; rw [← h.1] at hc; cases hc
  · simp only [Prod.mk.injEq] at h; obtain ⟨rfl, rfl⟩ := h
    simp only [Bool.and_eq_true, decide_eq_true_eq] at hc
    obtain ⟨h1, h2, h3⟩ := hc
    have hone := hy.oneCell h2
    have hcl : y.cells = #[y] := by cases y <;> first | rfl | simp [Value.oneCell'] at hone
    obtain ⟨w', hr, hi', he', _⟩ := store_cells (P := P) hI ho hb (ver' := ver) (cs' := cs.set off p) (off := off) (vs := [y]) (ps := [p]) rfl
      (fun k v q hk hq => by
        cases k with
        | zero => simp at hk hq; subst hk; subst hq; exact hy
        | succ k => simp at hk)
      (fun v hv => by simp at hv; subst hv; exact hone) (by simp; omega) (by simp; omega) (fun k q hk => by
        simp only [List.length_singleton]
        by_cases e : k = off
        · subst e
          rw [List.getElem?_set_self h1] at hk
          exact .inl ⟨by omega, by omega, by simpa using hk⟩
        · rw [List.getElem?_set_ne (Ne.symm e)] at hk
          exact .inr ⟨by omega, hk⟩) (.inr ⟨rfl, by simp⟩)
    refine ⟨w', ?_, hi', he'⟩
    simp only [hcl, h3]
    simpa using hr

end Go.Proofs.SL
