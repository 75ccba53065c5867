/-
  SL: 'readOp' is sound. No claim by itself.
-/
import Derived.Test.YtdgikagnkbphoaaDoorSlPure3
import Derived.Laws.BytesArg
namespace Go.Proofs.SL
open Go
set_option linter.unusedSimpArgs false
set_option linter.unusedVariables false
variable {P : Program} {T : Nat → Option TD} {β : Nat → Option Nat} {H : Heap} {w : World}

/-- As 'Gives', for as long as the heap is as it is. -/
def GivesR (P : Program) (β : Nat → Option Nat) (H : Heap) (w : World) (s : Sem Value) (v : PV) : Prop := ∃ r, (∀ w2 : World, w2.heap = w.heap → s.run P w2 = .ok r w2) ∧ V β H w r v

theorem cell_same {w2 : World} (h : w2.heap = w.heap) (a : Addr) : w2.cell? a = w.cell? a := cell?_of_heap (by rw [h])

theorem yesR_gives {ρ : Operand → Value} {o : Oper} {v : PV} {s : Sem Value} (e : execOp ρ o = (do pure (.value (← s)))) (h : GivesR P β H w s v) : YesR P ρ o β H w v := yesR_of e h

theorem obj_some {i ver : Nat} {cs : List PV} (h : obj H i ver = some cs) : H[i]? = some (some (.cells ver cs)) := by
  unfold obj at h
  split at h
  · split at h
    · rename_i v cs' e1 e2
      cases h
      rw [e1, e2]
    · cases h
  · cases h

theorem live_of {i ver : Nat} {cs : List PV} (h : H[i]? = some (some (.cells ver cs))) : Live H i ver := ⟨_, h, rfl⟩

/-- An object with cells, as the world holds it. -/
theorem Inv.cells (hI : Inv β H w) {i ver : Nat} {cs : List PV} (h : H[i]? = some (some (.cells ver cs))) :
    (β i = none → cs = []) ∧ ∀ b, β i = some b → ∃ (c : Array Value) (t : TypeId) (fz : Nat × Nat) (f : Nat → Value),
      w.heap[b]? = some (.cells c t fz) ∧ cs.length ≤ c.size ∧ (∀ k, k < cs.length → c[k]? = some (f k)) ∧
      (∀ (k : Nat) (p : PV), cs[k]? = some p → V β H w (f k) p) ∧ (∀ k, k < cs.length → (f k).oneCell' = true) ∧ ∀ k, k < c.size → ¬ (fz.1 ≤ k ∧ k < fz.2) := hI.ok i _ h

theorem bsize_of {b : Nat} {c : Array Value} {t : TypeId} {fz : Nat × Nat} (h : w.heap[b]? = some (.cells c t fz)) : bsize w b = c.size := by
  unfold bsize; rw [h]

theorem cell_of {b k : Nat} {c : Array Value} {t : TypeId} {fz : Nat × Nat} (h : w.heap[b]? = some (.cells c t fz)) : w.cell? ⟨b, k, none⟩ = c[k]? := by
  unfold World.cell?; rw [h]; rfl

theorem run_loadVar_agg {w : World} {t : Nat} {d : TD} (hT : TdOk P t d) (ha : d.agg = true) {b off : Nat} {vs : List Value} (hl : vs.length = d.size)
    (h : ∀ j v, vs[j]? = some v → w.cell? ⟨b, off + j, none⟩ = some v) : (loadVar t ⟨b, off, none⟩).run P w = .ok (.agg vs.toArray) w := by
  unfold loadVar
  have := run_loadCells_list (P := P) w ⟨b, off, none⟩ vs (fun j v hv => by rw [addr_add]; exact h j v hv)
  simp only [Sem.run_bind, run_isAgg hT, Result.andThen_ok, ha, if_true, run_sizeOf' hT, ← hl, this]
  rfl

theorem run_loadVar_one {w : World} {t : Nat} {d : TD} (hT : TdOk P t d) (ha : d.agg = false) {b off : Nat} {v : Value} (h : w.cell? ⟨b, off, none⟩ = some v) :
    (loadVar t ⟨b, off, none⟩).run P w = .ok v w := by
  unfold loadVar
  simp only [Sem.run_bind, run_isAgg hT, Result.andThen_ok, ha, Bool.false_eq_true, if_false]
  rw [run_load, h]

/-- Cells that are read as one value. -/
theorem load_part {t : Nat} {d : TD} (hT : TdOk P t d) {b off fo : Nat} {cs : List PV} {f : Nat → Value} (h1 : ∀ k, k < cs.length → w.cell? ⟨b, off + k, none⟩ = some (f k))
    (h2 : ∀ (k : Nat) (q : PV), cs[k]? = some q → V β H w (f k) q) {c : Bool} {v : PV} (hp : partV d cs fo = (c, v)) (hc : c = true) :
    GivesR P β H w (loadVar t ⟨b, off + fo, none⟩) v := by
  unfold partV at hp
  split at hp
  · rename_i ha
    simp only [Prod.mk.injEq] at hp; obtain ⟨rfl, rfl⟩ := hp
    have hle : fo + d.size ≤ cs.length := of_decide_eq_true hc
    refine ⟨_, fun w2 h2' => run_loadVar_agg hT ha (vs := (List.range d.size).map fun k => f (fo + k)) (by simp) (fun j v hv => ?_), .agg _ _ (by simp [subCells]; omega) fun i x q hx hq => ?_⟩
    · simp only [List.getElem?_map] at hv
      rcases Nat.lt_or_ge j d.size with hj | hj
      · rw [List.getElem?_range hj] at hv
        simp only [Option.map_some, Option.some.injEq] at hv
        subst hv
        rw [Nat.add_assoc, cell_same h2']
        exact h1 _ (by omega)
      · rw [List.getElem?_eq_none (by simp; omega)] at hv; cases hv
    · simp only [List.getElem?_toArray, List.getElem?_map] at hx
      simp only [subCells, List.getElem?_take, List.getElem?_drop] at hq
      split at hq
      · rename_i hj
        rw [List.getElem?_range hj] at hx
        simp only [Option.map_some, Option.some.injEq] at hx
        subst hx
        exact h2 _ q hq
      · cases hq
  · rename_i ha
    simp only [Prod.mk.injEq] at hp; obtain ⟨rfl, rfl⟩ := hp
    have hlt : fo < cs.length := of_decide_eq_true hc
    exact ⟨_, fun w2 h2' => run_loadVar_one hT (by simpa using ha) ((cell_same h2' _).trans (h1 fo hlt)), h2 fo _ (by simp [List.getElem?_eq_getElem hlt])⟩

theorem load_ok (hT : TOk P T) (hI : Inv β H w) {t : Nat} {d : TD} (hd : T t = some d) {x : Value} {p : PV} {c : Bool} {v : PV} (hx : V β H w x p) (h : loadV d H p = (c, v)) (hc : c = true) :
    GivesR P β H w (Instr.loadAt t x) v := by
  unfold loadV at h
  split at h
  · rename_i i ver off
    split at h
    · rename_i cs ho
      have ho := obj_some ho
      obtain ⟨b, rfl, hl, hlv⟩ := hx.ptr_inv
      obtain ⟨_, hb⟩ := hI.cells ho
      obtain ⟨c', t', fz, f, hh, hsz, hf, hV, _⟩ := hb b (hlv (live_of ho))
      obtain ⟨r, hr, hrV⟩ := load_part (P := P) (β := β) (H := H) (w := w) (hT t d hd) (b := b) (off := 0) (fo := off) (f := f)
        (fun k hk => by rw [cell_of hh, Nat.zero_add]; exact hf k hk) hV h hc
      refine ⟨r, fun w2 h2' => ?_, hrV⟩
      rw [Nat.zero_add] at hr
      unfold Instr.loadAt Instr.sureAddr
      simp only [Sem.run_bind, Sem.run_pure, Result.andThen_ok, hr w2 h2']
    · exact no_ne h hc
  · rename_i q
    obtain ⟨b, off, f, rfl, him, h1, h2, h9⟩ := hx.cptr_inv
    split at h
    · rename_i ha
      split at h
      · rename_i cs
        simp only [Prod.mk.injEq] at h; obtain ⟨rfl, rfl⟩ := h
        have hlen : cs.length = d.size := of_decide_eq_true hc
        have := load_part (P := P) (β := β) (H := H) (w := w) (hT t d hd) (b := b) (off := off) (fo := 0) (f := f) (cs := cs) h1 h2
          (c := true) (v := .agg cs) (by unfold partV; rw [if_pos ha]; simp [subCells, hlen, List.take_of_length_le]) rfl
        obtain ⟨r, hr, hrV⟩ := this
        refine ⟨r, fun w2 h2' => ?_, hrV⟩
        unfold Instr.loadAt Instr.sureAddr
        simp only [Sem.run_bind, Sem.run_pure, Result.andThen_ok]
        exact hr w2 h2'
      · exact no_ne h hc
    · rename_i ha
      simp only [Prod.mk.injEq] at h; obtain ⟨rfl, rfl⟩ := h
      have ec : q.cells = [q] := by cases q <;> first | rfl | simp [PV.one] at hc
      rw [ec] at h1 h2
      refine ⟨f 0, fun w2 h2' => ?_, h2 0 q rfl⟩
      unfold Instr.loadAt Instr.sureAddr
      simp only [Sem.run_bind, Sem.run_pure, Result.andThen_ok]
      exact run_loadVar_one (hT t d hd) (by simpa using ha) ((cell_same h2' _).trans (h1 0 (by simp)))
  · exact no_ne h hc


theorem arrSlice_ok {ρ : Operand → Value} {g : Operand → PV} (hg : ∀ x, V β H w (ρ x) (g x)) (hI : Inv β H w) {n m : Nat} {x : Operand} {lo hi : Option Operand} {c : Bool} {v : PV}
    (h : arrSliceV H n m (g x) (lo.map g) (hi.map g) = (c, v)) (hc : c = true) :
    ∃ b off l h', ρ x = .pointer (some ⟨b, off, none⟩) ∧ (∀ bb w2, (Instr.sliceBounds bb n n (lo.map ρ) (hi.map ρ) none).run P w2 = .ok (l, h', n) w2) ∧
      V β H w (.slice (some (if n = l then ⟨b, off, none⟩ else (⟨b, off, none⟩ : Addr).add (l * m))) (h' - l) (n - l)) v := by
  have hx := hg x
  unfold arrSliceV at h
  split at h
  · rename_i i ver off e
    rw [e] at hx
    split at h
    · rename_i cs l' h' ho hl hh
      simp only [Prod.mk.injEq] at h; obtain ⟨rfl, rfl⟩ := h
      simp only [Bool.and_eq_true, decide_eq_true_eq] at hc
      have ho := obj_some ho
      obtain ⟨b, hb, hlt, hlv⟩ := hx.ptr_inv
      refine ⟨b, off, l'.toNat, h'.toNat, hb, fun bb w2 => run_bounds hg bb n n (Nat.le_refl _) hl hh hc.1 hc.2.1 hc.2.2.1, ?_⟩
      refine .buf _ _ i ver _ _ m false (by omega) (fun hne => ⟨b, by rw [if_neg (by omega), addr_add]⟩) hlt fun hl => ⟨fun hn => ?_, fun b' hb' => ?_⟩
      · rw [hlv hl] at hn; cases hn
      · have := hlv hl
        rw [this] at hb'
        cases hb'
        by_cases hz : h'.toNat - l'.toNat = 0
        · exact .inl ⟨hz, rfl⟩
        · right
          rw [if_neg (by omega), addr_add]
          refine ⟨rfl, ?_, by simp⟩
          obtain ⟨_, hbb⟩ := hI.cells ho
          obtain ⟨c', t', fz, f, hh', hsz, _⟩ := hbb b this
          rw [bsize_of hh']
          have : l'.toNat * m + (n - l'.toNat) * m = n * m := by rw [← Nat.add_mul]; congr 1; omega
          omega
    · exact no_ne h hc
  · exact no_ne h hc

theorem isU8_spec {p : PV} (h : isU8 p = true) : ∃ n : Int, p = .int .u8 n ∧ 0 ≤ n ∧ n < 256 := by
  unfold isU8 at h
  split at h
  · rename_i n
    have := of_decide_eq_true h
    exact ⟨n, rfl, this.1, this.2⟩
  · cases h

theorem allU8 {cs : List PV} (h : cs.all isU8 = true) : ∃ ns : List Int, cs = ns.map (PV.int .u8) ∧ bytesOf cs = strOfNums ns := by
  induction cs with
  | nil => exact ⟨[], rfl, rfl⟩
  | cons c cs ih =>
    simp only [List.all_cons, Bool.and_eq_true] at h
    obtain ⟨n, rfl, _⟩ := isU8_spec h.1
    obtain ⟨ns, rfl, e⟩ := ih h.2
    exact ⟨n :: ns, rfl, by simp [bytesOf, strOfNums]⟩

theorem V.of_heap {w2 : World} (h : w2.heap = w.heap) {v : Value} {p : PV} (hv : V β H w v p) : V β H w2 v p := by
  induction hv with
  | any v => exact .any v
  | bool b => exact .bool b
  | int k n => exact .int k n
  | str s => exact .str s
  | agg vs ps hs h ih => exact .agg vs ps hs ih
  | tup vs ps hs h ih => exact .tup vs ps hs ih
  | nilp => exact .nilp
  | ptr b i ver off hi h => exact .ptr b i ver off hi h
  | nils => exact .nils
  | empt a => exact .empt a
  | sl0 a c m => exact .sl0 a c m
  | sl b off cap m xs f hb hm hc h1 h2 h3 ih => exact .sl b off cap m xs f ⟨by rw [h]; exact hb.1, hb.2⟩ hm hc (fun k hk => (cell_same h _).trans (h1 k hk)) ih h3
  | buf a cap i ver off len m tip hc ha hi hh =>
    refine .buf a cap i ver off len m tip hc ha hi fun hl => ⟨(hh hl).1, fun b hb => ?_⟩
    have : bsize w2 b = bsize w b := by unfold bsize; rw [h]
    rw [this]; exact (hh hl).2 b hb
  | cptr b off p f hb h1 h2 h3 ih => exact .cptr b off p f ⟨by rw [h]; exact hb.1, hb.2⟩ (fun k hk => (cell_same h _).trans (h1 k hk)) ih h3
  | func fn vs ws ps qs hs hs' h h' ih ih' => exact .func fn vs ws ps qs hs hs' ih ih'
  | nilf => exact .nilf
  | iface t v p h ih => exact .iface t v p ih
  | nili => exact .nili
  | nilm => exact .nilm
  | mp b i hi hh => exact .mp b i hi hh

theorem toStr_at {s t e : Nat} (hs : P.underlying s = some (.slice e)) (he : P.underlying e = some (.int .u8)) (ht : P.underlying t = some .string)
    {b off len cap : Nat} {cs : List PV} (hlen : cs.length = len) (hall : cs.all isU8 = true) {f : Nat → Value}
    (h1 : ∀ k, k < len → w.cell? ⟨b, off + k, none⟩ = some (f k)) (h2 : ∀ (k : Nat) (p : PV), cs[k]? = some p → V β H w (f k) p) :
    (convert s t (.slice (some ⟨b, off, none⟩) len cap)).run P w = .ok (.string (bytesOf cs)) w := by
  obtain ⟨ns, rfl, e⟩ := allU8 hall
  rw [e]
  simp only [List.length_map] at hlen
  refine run_convert_bytes_arg w s _ hs he b off len cap ns hlen (fun i hi => ?_) t ht
  rw [h1 i hi]
  have := h2 i (.int .u8 (ns.getD i 0)) (by simp [List.getD, hlen ▸ hi])
  rw [this.int_inv]

theorem toStr_empty {s t e : Nat} (hs : P.underlying s = some (.slice e)) (he : P.underlying e = some (.int .u8)) (ht : P.underlying t = some .string) (a : Option Addr) (cap : Nat) :
    (convert s t (.slice a 0 cap)).run P w = .ok (.string (bytesOf [])) w := by
  rw [run_convert_bytes_string w s t e a 0 cap hs he ht]
  cases a with
  | none => simp [Conv.bytesToString]; rfl
  | some a => rw [run_bytesToString w a 0 cap [] rfl]; rfl

theorem toStr_ok (hI : Inv β H w) {s t e : Nat} (hs : P.underlying s = some (.slice e)) (he : P.underlying e = some (.int .u8)) {u : TypeDesc} (ht : P.underlying t = some u) {k : TK} (hk : kOk u k)
    {x : Value} {p : PV} {c : Bool} {v : PV} (hx : V β H w x p) (h : toStrV H k p = some (c, v)) (hc : c = true) : GivesR P β H w (convert s t x) v := by
  unfold toStrV at h
  split at h
  · obtain rfl := kOk_str hk
    split at h
    · rename_i m xs
      simp only [Option.some.injEq, Prod.mk.injEq] at h; obtain ⟨rfl, rfl⟩ := h
      simp only [Bool.and_eq_true, decide_eq_true_eq] at hc
      obtain ⟨rfl, hall⟩ := hc
      obtain ⟨a, cap, rfl, hcap, hsl⟩ := hx.sl_inv
      refine ⟨_, fun w2 h2' => ?_, .str _⟩
      by_cases hne : xs = []
      · subst hne; exact toStr_empty hs he ht a cap
      · obtain ⟨b, off, rfl, him, hm, f, h1, h2, _⟩ := hsl hne
        have hfl : flat xs = xs := by
          have : ∀ l : List PV, l.all isU8 = true → flat l = l := by
            intro l
            induction l with
            | nil => intro _; rfl
            | cons a l ih =>
              intro h
              simp only [List.all_cons, Bool.and_eq_true] at h
              obtain ⟨n, rfl, _⟩ := isU8_spec h.1
              rw [flat_cons, ih h.2]; rfl
          exact this xs hall
        rw [hfl] at h1 h2
        exact toStr_at (β := β) (H := H) (w := w2) (f := f) hs he ht rfl hall (fun k hk => (cell_same h2' _).trans (h1 k hk)) (fun k p hp => V.of_heap h2' (h2 k p hp))
    · simp only [Option.some.injEq, Prod.mk.injEq] at h; obtain ⟨rfl, rfl⟩ := h
      refine ⟨_, fun w2 h2' => ?_, .str _⟩
      rw [hx.nils_inv]
      exact toStr_empty hs he ht none 0
    · rename_i i ver off len m tip
      split at h
      · rename_i cs ho
        simp only [Option.some.injEq, Prod.mk.injEq] at h; obtain ⟨rfl, rfl⟩ := h
        simp only [Bool.and_eq_true, decide_eq_true_eq] at hc
        obtain ⟨rfl, hle, hall⟩ := hc
        have ho := obj_some ho
        obtain ⟨a, cap, rfl, hcap, ha, hl, hlv⟩ := hx.buf_inv
        refine ⟨_, fun w2 h2' => ?_, .str _⟩
        by_cases hz : len = 0
        · subst hz
          have : subCells cs off 0 = [] := by simp [subCells]
          rw [this]; exact toStr_empty hs he ht a cap
        · obtain ⟨b, rfl⟩ := ha hz
          obtain ⟨h0, h1⟩ := hlv (live_of ho)
          have hb : β i = some b := by
            cases hbj : β i with
            | none => have := (h0 hbj).1; omega
            | some b' =>
              rcases h1 b' hbj with ⟨h5, _⟩ | ⟨h5, _⟩
              · omega
              · simp only [Option.some.injEq, Addr.mk.injEq] at h5; rw [h5.1]
          obtain ⟨_, hbb⟩ := hI.cells ho
          obtain ⟨c', t', fz, f, hh, hsz, hf, hV, _⟩ := hbb b hb
          refine toStr_at (β := β) (H := H) (w := w2) hs he ht (by simp [subCells]; omega) hall (f := fun k => f (off + k)) (fun k hk => ?_) fun k p hp => ?_
          · rw [cell_same h2', cell_of hh]; exact hf _ (by omega)
          · simp only [subCells, List.getElem?_take, List.getElem?_drop] at hp
            split at hp
            · exact V.of_heap h2' (hV _ p hp)
            · cases hp
      · exact no_ne (Option.some.inj h) hc
    · cases h
  · cases h

theorem read_ok (hT : TOk P T) (hI : Inv β H w) {ρ : Operand → Value} {g : Operand → PV} (hg : ∀ x, V β H w (ρ x) (g x)) {o : Oper} {c : Bool} {v : PV}
    (h : readOp T g H o.op = some (c, v)) (hc : c = true) : YesR P ρ o β H w v := by
  obtain ⟨dst, op, ty, pos, after, guard⟩ := o
  cases op <;> simp only [readOp] at h <;> try (cases h; done)
  case load t a =>
    split at h
    · rename_i d hd
      exact yesR_gives rfl (load_ok hT hI hd (hg a) (Option.some.inj h) hc)
    · exact no_ne (Option.some.inj h) hc
  case convert s t x =>
    split at h
    · rename_i ds d hs hd
      split at h
      · rename_i e hk
        split at h
        · rename_i de hde
          split at h
          · rename_i hkd
            obtain ⟨us, hus, hks, _, _⟩ := (hT s ds hs).und
            rw [hk] at hks; obtain rfl := kOk_slice hks
            obtain ⟨ue, hue, hke, _, _⟩ := (hT e de hde).und
            rw [hkd] at hke; obtain rfl := kOk_int hke
            obtain ⟨ut, hut, hkt, _, _⟩ := (hT t d hd).und
            exact yesR_gives rfl (toStr_ok hI hus hue hut hkt (hg x) h hc)
          · cases h
        · cases h
      · cases h
    · cases h
  case slice t x lo hi mx =>
    split at h
    · rename_i d hd
      obtain ⟨u, hu, hku, _⟩ := run_underlying' (hT t d hd)
      split at h
      · rename_i n e hk
        rw [hk] at hku; obtain rfl := kOk_arr hku
        split at h
        · rename_i de hde
          obtain ⟨b, off, l, h', hx, hbd, hV⟩ := arrSlice_ok (P := P) hg hI (Option.some.inj h) hc
          refine yesR_gives (s := Instr.sliceAt t (ρ x) (lo.map ρ) (hi.map ρ) ((none : Option Operand).map ρ)) rfl ⟨_, fun w2 _ => ?_, hV⟩
          unfold Instr.sliceAt
          simp only [Sem.run_bind, hu, Result.andThen_ok, hx, Instr.sureAddr, Sem.run_pure, Option.map_none, hbd false, run_sizeOf' (hT e de hde)]
        · exact no_ne (Option.some.inj h) hc
      · rename_i a hk
        rw [hk] at hku; obtain rfl := kOk_ptr hku
        split at h
        · rename_i da hda
          obtain ⟨ua, hua, hkua, _⟩ := run_underlying' (hT a da hda)
          split at h
          · rename_i n e hka
            rw [hka] at hkua; obtain rfl := kOk_arr hkua
            split at h
            · rename_i de hde
              obtain ⟨b, off, l, h', hx, hbd, hV⟩ := arrSlice_ok (P := P) hg hI (Option.some.inj h) hc
              refine yesR_gives (s := Instr.sliceAt t (ρ x) (lo.map ρ) (hi.map ρ) ((none : Option Operand).map ρ)) rfl ⟨_, fun w2 _ => ?_, hV⟩
              unfold Instr.sliceAt
              simp only [Sem.run_bind, hu, Result.andThen_ok]
              unfold Instr.slice
              simp only [Sem.run_bind, hu, hua, Result.andThen_ok, hx, asAddr, Sem.run_pure, Option.map_none, hbd false, run_sizeOf' (hT e de hde)]
            · exact no_ne (Option.some.inj h) hc
          · exact no_ne (Option.some.inj h) hc
        · exact no_ne (Option.some.inj h) hc
      · exact no_ne (Option.some.inj h) hc
    · exact no_ne (Option.some.inj h) hc

end Go.Proofs.SL
