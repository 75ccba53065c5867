/-
  SL: abstract values, the abstract heap, and what it means that a world holds them. No claim by itself.
-/
import Derived.Calls
import Derived.Orders
import Derived.Below
import Derived.Laws.Sem
import Derived.Laws.Cells
import Derived.Laws.Entries
import Derived.Laws.StructEq
import Derived.ChangeKeysEq
import Derived.MapKept
import Derived.LaidEql
import Derived.Laws.IdiomRangeMap
import Derived.Laws.BytesArg
namespace Go.Proofs.SL
open Go

inductive PV where
  | any
  | bool (b : Bool)
  | int (k : IntKind) (n : Int)
  | str (s : ByteArray)
  | agg (cs : List PV)
  | tup (vs : List PV)
  | nilp
  | ptr (i ver off : Nat)
  | nils
  | empt
  | sl (m : Nat) (xs : List PV)
  | buf (i ver off len m : Nat) (tip : Bool)
  | cptr (p : PV)
  | func (fn : Fn) (first captured : List PV)
  | nilf
  | iface (t : TypeId) (v : PV)
  | nili
  | nilm
  | mp (i : Nat)
  | yld (i : Nat)

def PV.cells : PV → List PV
  | .agg cs => cs
  | v => [v]

inductive OB where
  | cells (ver : Nat) (cs : List PV)
  | striter (s : ByteArray) (pos : Nat)
  | glob (b : Nat) (o : Obj)
  | map (es : List (PV × PV))
  | mapx (n : Nat) (bs : List Nat) (es : List (PV × PV))
  | mapit (i since : Nat) (seen : List Nat) (last : Nat)
  | lrec (st : LoopState) (pend : Option Code) (σ : List PV) (ps : List Nat) (asg body : Code)

abbrev Heap := List (Option OB)
abbrev Env := List PV

def OB.ver : OB → Nat
  | .cells v _ => v
  | _ => 0
def OB.len : OB → Nat
  | .cells _ cs => cs.length
  | _ => 0

def Live (H : Heap) (i ver : Nat) : Prop := ∃ o, H[i]? = some (some o) ∧ o.ver = ver
def Alive (H : Heap) (i : Nat) : Prop := ∃ o, H[i]? = some (some o)
def olen (H : Heap) (i : Nat) : Nat :=
  match H[i]? with
  | some (some o) => o.len
  | _ => 0
def bsize (w : World) (b : Nat) : Nat :=
  match w.heap[b]? with
  | some (.cells c _ _) => c.size
  | _ => 0

/-- A reference to an object that is there, and not from the time to come. -/
def Ref (H : Heap) (i ver : Nat) : Prop := i < H.length ∧ ∀ o, H[i]? = some (some o) → ver ≤ o.ver

theorem Live.alive {H : Heap} {i ver : Nat} (h : Live H i ver) : Alive H i := let ⟨o, ho, _⟩ := h; ⟨o, ho⟩
theorem Alive.live {H : Heap} {i : Nat} (h : Alive H i) : ∃ ver, Live H i ver := let ⟨o, ho⟩ := h; ⟨o.ver, o, ho, rfl⟩
theorem Alive.lt {H : Heap} {i : Nat} (h : Alive H i) : i < H.length := by
  obtain ⟨o, ho⟩ := h
  rcases Nat.lt_or_ge i H.length with h | h
  · exact h
  · rw [List.getElem?_eq_none h] at ho; cases ho

/-- An object that may change. -/
def OB.own : OB → Bool
  | .glob _ _ => false
  | _ => true
def AliveM (H : Heap) (i : Nat) : Prop := ∃ o, H[i]? = some (some o) ∧ o.own = true
theorem AliveM.alive {H : Heap} {i : Nat} (h : AliveM H i) : Alive H i := let ⟨o, ho, _⟩ := h; ⟨o, ho⟩
theorem AliveM.lt {H : Heap} {i : Nat} (h : AliveM H i) : i < H.length := h.alive.lt
theorem AliveM.get {H H' : Heap} {i : Nat} (h : AliveM H i) (e : H'[i]? = H[i]?) : AliveM H' i := let ⟨o, ho, h1⟩ := h; ⟨o, e.trans ho, h1⟩
/-- A block that no object of the heap lies in that may change. -/
def Imm (β : Nat → Option Nat) (H : Heap) (w : World) (b : Nat) : Prop := b < w.heap.size ∧ ∀ i, AliveM H i → β i ≠ some b

def flat (xs : List PV) : List PV := xs.flatMap PV.cells

inductive V (β : Nat → Option Nat) (H : Heap) (w : World) : Value → PV → Prop
  | any (v : Value) : V β H w v .any
  | bool (b : Bool) : V β H w (.bool b) (.bool b)
  | int (k : IntKind) (n : Int) : V β H w (.int k n) (.int k n)
  | str (s : ByteArray) : V β H w (.string s) (.str s)
  | agg (vs : Array Value) (ps : List PV) (hs : vs.size = ps.length)
      (h : ∀ (i : Nat) (v : Value) (p : PV), vs[i]? = some v → ps[i]? = some p → V β H w v p) : V β H w (.agg vs) (.agg ps)
  | tup (vs : Array Value) (ps : List PV) (hs : vs.size = ps.length)
      (h : ∀ (i : Nat) (v : Value) (p : PV), vs[i]? = some v → ps[i]? = some p → V β H w v p) : V β H w (.tuple vs) (.tup ps)
  | nilp : V β H w (.pointer none) .nilp
  | ptr (b i ver off : Nat) (hi : Ref H i ver) (h : Live H i ver → β i = some b) : V β H w (.pointer (some ⟨b, off, none⟩)) (.ptr i ver off)
  | nils : V β H w (.slice none 0 0) .nils
  | empt (a : Option Addr) : V β H w (.slice a 0 0) .empt
  | sl0 (a : Option Addr) (c m : Nat) : V β H w (.slice a 0 c) (.sl m [])
  | sl (b off cap m : Nat) (xs : List PV) (f : Nat → Value) (hb : Imm β H w b) (hm : ∀ x ∈ xs, x.cells.length = m) (hc : xs.length ≤ cap)
      (h1 : ∀ k, k < (flat xs).length → w.cell? ⟨b, off + k, none⟩ = some (f k))
      (h2 : ∀ (k : Nat) (p : PV), (flat xs)[k]? = some p → V β H w (f k) p) (h3 : ∀ k, k < (flat xs).length → (f k).oneCell' = true) :
      V β H w (.slice (some ⟨b, off, none⟩) xs.length cap) (.sl m xs)
  | buf (a : Option Addr) (cap i ver off len m : Nat) (tip : Bool) (hc : len ≤ cap) (ha : len ≠ 0 → ∃ b, a = some ⟨b, off, none⟩) (hi : Ref H i ver)
      (h : Live H i ver → (β i = none → cap = 0 ∧ (tip = true → off = 0)) ∧ ∀ b, β i = some b →
        (len = 0 ∧ tip = false) ∨ (a = some ⟨b, off, none⟩ ∧ off + cap * m ≤ bsize w b ∧ (tip = true → off = 0 ∧ olen H i ≤ cap * m))) :
      V β H w (.slice a len cap) (.buf i ver off len m tip)
  | cptr (b off : Nat) (p : PV) (f : Nat → Value) (hb : Imm β H w b)
      (h1 : ∀ k, k < p.cells.length → w.cell? ⟨b, off + k, none⟩ = some (f k))
      (h2 : ∀ (k : Nat) (q : PV), p.cells[k]? = some q → V β H w (f k) q) (h3 : ∀ k, k < p.cells.length → (f k).oneCell' = true) :
      V β H w (.pointer (some ⟨b, off, none⟩)) (.cptr p)
  | func (fn : Fn) (vs ws : Array Value) (ps qs : List PV) (hs : vs.size = ps.length) (hs' : ws.size = qs.length)
      (h : ∀ (i : Nat) (v : Value) (p : PV), vs[i]? = some v → ps[i]? = some p → V β H w v p)
      (h' : ∀ (i : Nat) (v : Value) (p : PV), ws[i]? = some v → qs[i]? = some p → V β H w v p) : V β H w (.func fn vs ws) (.func fn ps qs)
  | nilf : V β H w .nilFunc .nilf
  | iface (t : TypeId) (v : Value) (p : PV) (h : V β H w v p) : V β H w (.iface t v) (.iface t p)
  | nili : V β H w .nilIface .nili
  | nilm : V β H w (.map none) .nilm
  | mp (b i : Nat) (hi : Ref H i 0) (h : Live H i 0 → β i = some b) : V β H w (.map (some b)) (.mp i)
  | yld (b i : Nat) (hi : Ref H i 0) (h : Live H i 0 → β i = some b) : V β H w (.func (.yield b) #[] #[]) (.yld i)

/-- From one state to a later one: what holds of the values that were there. -/
structure Ext (β : Nat → Option Nat) (H : Heap) (w : World) (β' : Nat → Option Nat) (H' : Heap) (w' : World) : Prop where
  len : H.length ≤ H'.length
  live : ∀ i ver, Ref H i ver → Ref H' i ver ∧ (Live H' i ver → Live H i ver ∧ β' i = β i ∧ olen H' i = olen H i ∧ ∀ b, β i = some b → bsize w' b = bsize w b)
  imm : ∀ b, Imm β H w b → w'.heap[b]? = w.heap[b]? ∧ Imm β' H' w' b
  os : w'.os = w.os
  tape : w'.tape = w.tape
  output : w'.output = w.output
  size : w.heap.size ≤ w'.heap.size

theorem Ext.refl (β : Nat → Option Nat) (H : Heap) (w : World) : Ext β H w β H w :=
  ⟨Nat.le_refl _, fun _ _ r => ⟨r, fun h => ⟨h, rfl, rfl, fun _ _ => rfl⟩⟩, fun _ h => ⟨rfl, h⟩, rfl, rfl, rfl, Nat.le_refl _⟩

theorem Ext.trans {β β1 β2 : Nat → Option Nat} {H H1 H2 : Heap} {w w1 w2 : World} (a : Ext β H w β1 H1 w1) (b : Ext β1 H1 w1 β2 H2 w2) : Ext β H w β2 H2 w2 where
  len := Nat.le_trans a.len b.len
  live := fun i ver hi => by
    obtain ⟨ha, h0⟩ := a.live i ver hi
    obtain ⟨hb, h1⟩ := b.live i ver ha
    refine ⟨hb, fun h => ?_⟩
    obtain ⟨l1, e1, o1, s1⟩ := h1 h
    obtain ⟨l0, e0, o0, s0⟩ := h0 l1
    exact ⟨l0, e1.trans e0, o1.trans o0, fun b hb => (s1 b (e0.trans hb)).trans (s0 b hb)⟩
  imm := fun b' hb => by
    obtain ⟨e1, i1⟩ := a.imm b' hb
    obtain ⟨e2, i2⟩ := b.imm b' i1
    exact ⟨e2.trans e1, i2⟩
  os := b.os.trans a.os
  tape := b.tape.trans a.tape
  output := b.output.trans a.output
  size := Nat.le_trans a.size b.size

theorem cell?_of_heap {w w' : World} {a : Addr} (h : w'.heap[a.block]? = w.heap[a.block]?) : w'.cell? a = w.cell? a := by
  unfold World.cell?; rw [h]

theorem V.mono {β β' : Nat → Option Nat} {H H' : Heap} {w w' : World} (e : Ext β H w β' H' w') {v : Value} {p : PV} (h : V β H w v p) : V β' H' w' v p := by
  induction h with
  | any v => exact .any v
  | bool b => exact .bool b
  | int k n => exact .int k n
  | str s => exact .str s
  | agg vs ps hs h ih => exact .agg vs ps hs ih
  | tup vs ps hs h ih => exact .tup vs ps hs ih
  | nilp => exact .nilp
  | ptr b i ver off hi h => exact .ptr b i ver off (e.live i ver hi).1 fun hl => ((e.live i ver hi).2 hl).2.1.trans (h ((e.live i ver hi).2 hl).1)
  | nils => exact .nils
  | empt a => exact .empt a
  | sl0 a c m => exact .sl0 a c m
  | sl b off cap m xs f hb hm hc h1 h2 h3 ih =>
    obtain ⟨e1, i1⟩ := e.imm b hb
    exact .sl b off cap m xs f i1 hm hc (fun k hk => (cell?_of_heap e1).trans (h1 k hk)) ih h3
  | buf a cap i ver off len m tip hc ha hi h =>
    refine .buf a cap i ver off len m tip hc ha (e.live i ver hi).1 fun hl => ?_
    obtain ⟨l, eb, eo, es⟩ := (e.live i ver hi).2 hl
    obtain ⟨h0, h1⟩ := h l
    refine ⟨fun hn => h0 (eb ▸ hn), fun b hb => ?_⟩
    rw [eo, es b (eb ▸ hb)]
    exact h1 b (eb ▸ hb)
  | cptr b off p f hb h1 h2 h3 ih =>
    obtain ⟨e1, i1⟩ := e.imm b hb
    exact .cptr b off p f i1 (fun k hk => (cell?_of_heap e1).trans (h1 k hk)) ih h3
  | func fn vs ws ps qs hs hs' h h' ih ih' => exact .func fn vs ws ps qs hs hs' ih ih'
  | nilf => exact .nilf
  | iface t v p h ih => exact .iface t v p ih
  | nili => exact .nili
  | nilm => exact .nilm
  | mp b i hi h => exact .mp b i (e.live i 0 hi).1 fun hl => ((e.live i 0 hi).2 hl).2.1.trans (h ((e.live i 0 hi).2 hl).1)
  | yld b i hi h => exact .yld b i (e.live i 0 hi).1 fun hl => ((e.live i 0 hi).2 hl).2.1.trans (h ((e.live i 0 hi).2 hl).1)

/-- Nothing of a block is frozen; and, where the object is of version 0, no mark stands behind it. -/
def FzOk (n ver : Nat) (fz : Nat × Nat) : Prop := (∀ k, k < n → ¬ (fz.1 ≤ k ∧ k < fz.2)) ∧ (ver = 0 → fz.2 ≤ fz.1)
theorem FzOk.nil {n ver : Nat} : FzOk n ver (0, 0) := ⟨fun k _ => by omega, fun _ => Nat.le_refl _⟩

/-- What the world holds for one object. -/
def ObOk (β : Nat → Option Nat) (H : Heap) (w : World) (i : Nat) : OB → Prop
  | .cells ver cs => (β i = none → cs = []) ∧ ∀ b, β i = some b → ∃ (c : Array Value) (t : TypeId) (fz : Nat × Nat) (f : Nat → Value),
      w.heap[b]? = some (.cells c t fz) ∧ cs.length ≤ c.size ∧ (∀ k, k < cs.length → c[k]? = some (f k)) ∧
      (∀ (k : Nat) (p : PV), cs[k]? = some p → V β H w (f k) p) ∧ (∀ k, k < cs.length → (f k).oneCell' = true) ∧ FzOk c.size ver fz
  | .striter s pos => ∃ b, β i = some b ∧ w.heap[b]? = some (.stringIter s pos)
  | .glob b o => β i = some b ∧ w.heap[b]? = some o ∧ ∃ c t fz, o = .cells c t fz
  | .map es => ∃ (b : Nat) (c : Array MapEntry) (k : Nat), β i = some b ∧ w.heap[b]? = some (.map c k) ∧ c.size = es.length ∧
      (∀ (j : Nat) (e : MapEntry) (p : PV × PV), c[j]? = some e → es[j]? = some p → V β H w e.key p.1 ∧ V β H w e.val p.2) ∧
      (∀ (j : Nat) (e : MapEntry), c[j]? = some e → e.born < k) ∧ ∀ (i j : Nat) (e f : MapEntry), c[i]? = some e → c[j]? = some f → i < j → e.born < f.born
  | .mapx n bs es => ∃ (b : Nat) (c : Array MapEntry), β i = some b ∧ w.heap[b]? = some (.map c n) ∧ c.size = es.length ∧
      (∀ (j : Nat) (e : MapEntry) (p : PV × PV), c[j]? = some e → es[j]? = some p → V β H w e.key p.1 ∧ V β H w e.val p.2) ∧
      c.toList.map (·.born) = bs ∧ (∀ x ∈ bs, x < n) ∧ bs.Pairwise (· < ·)
  | .mapit m since seen last => ∃ (b bm : Nat), β i = some b ∧ w.heap[b]? = some (.mapIter (some bm) since seen.toArray last) ∧ Ref H m 0 ∧ (Live H m 0 → β m = some bm)
  | .lrec st pend σ ps asg body => ∃ (b fn D : Nat) (tmps : Array Value), β i = some b ∧ w.heap[b]? = some (.loop { state := st, pending := pend, fn := fn, tmps := tmps, params := ps.toArray, assign := asg, body := body, defers := D }) ∧
      tmps.size = σ.length ∧ ∀ t p, σ[t]? = some p → V β H w (tmps.getD t undef) p

structure Inv (β : Nat → Option Nat) (H : Heap) (w : World) : Prop where
  ok : ∀ i o, H[i]? = some (some o) → ObOk β H w i o
  inj : ∀ i j b, Alive H i → Alive H j → β i = some b → β j = some b → i = j

theorem Inv.block {β : Nat → Option Nat} {H : Heap} {w : World} (h : Inv β H w) {i b : Nat} (hi : Alive H i) (hb : β i = some b) : b < w.heap.size := by
  obtain ⟨o, ho⟩ := hi
  have := h.ok i o ho
  have key : ∃ x, w.heap[b]? = some x := by
    cases o with
    | cells v cs => obtain ⟨c, t, fz, f, hc, _⟩ := this.2 b hb; exact ⟨_, hc⟩
    | striter s pos => obtain ⟨b', hb', hc⟩ := this; rw [hb] at hb'; cases hb'; exact ⟨_, hc⟩
    | glob b' o => obtain ⟨hb', hc, _⟩ := this; rw [hb] at hb'; cases hb'; exact ⟨_, hc⟩
    | map es => obtain ⟨b', c, k, hb', hc, _⟩ := this; rw [hb] at hb'; cases hb'; exact ⟨_, hc⟩
    | mapx n bs es => obtain ⟨b', c, hb', hc, _⟩ := this; rw [hb] at hb'; cases hb'; exact ⟨_, hc⟩
    | mapit m since seen last => obtain ⟨b', bm, hb', hc, _⟩ := this; rw [hb] at hb'; cases hb'; exact ⟨_, hc⟩
    | lrec st pend σ ps asg body => obtain ⟨b', fn, D, tmps, hb', hc, _⟩ := this; rw [hb] at hb'; cases hb'; exact ⟨_, hc⟩
  obtain ⟨x, hx⟩ := key
  rcases Nat.lt_or_ge b w.heap.size with h | h
  · exact h
  · rw [Array.getElem?_eq_none h] at hx; cases hx

end Go.Proofs.SL

/-
  SL: types whose values are numbers, texts and truths, cell by cell: '==' of them. No claim by itself.
-/
namespace Go.Proofs.SL
open Go
set_option linter.unusedSimpArgs false
set_option linter.unusedVariables false

inductive Tag where
  | b
  | s
  | i (k : IntKind)
  deriving DecidableEq

def tagV : Value → Option Tag
  | .bool _ => some .b
  | .string _ => some .s
  | .int k _ => some (.i k)
  | _ => none

def tagP : PV → Option Tag
  | .bool _ => some .b
  | .str _ => some .s
  | .int k _ => some (.i k)
  | _ => none

/-- The kinds of a struct's cells, field by field. -/
def tagsFs (P : Program) (g : TypeId → Option (List Tag)) : List Field → Nat → Option (List Tag)
  | [], _ => some []
  | f :: fs, o => if f.offset = o ∧ (f.name != "_") = true then match g f.type with
      | some l => if l.length = P.cellsOf f.type then match tagsFs P g fs (o + l.length) with
          | some r => some (l ++ r)
          | none => none
        else none
      | none => none
    else none

/-- The kinds of a type's cells, where they are all numbers, texts and truths. -/
def tagsOf (P : Program) : Nat → TypeId → Option (List Tag)
  | 0, _ => none
  | d + 1, t => match P.underlying t with
    | some .bool => some [.b]
    | some .string => some [.s]
    | some (.int k) => some [.i k]
    | some (.array n e) => match tagsOf P d e with
      | some l => if l.length = P.cellsOf e then some (List.replicate n l).flatten else none
      | none => none
    | some (.struct fs) => if P.stoodInHeld t = false then tagsFs P (tagsOf P d) fs.toList 0 else none
    | _ => none

def Shp (P : Program) (t : TypeId) (x : Value) : Prop :=
  match P.underlying t with
  | some (.array _ _) | some (.struct _) => ∃ cs, x = .agg cs
  | _ => ∀ cs, x ≠ .agg cs

section
variable {P : Program} (w : World)

theorem tagV_cells {x : Value} {g : Tag} (h : tagV x = some g) : x.cells = #[x] := by
  cases x <;> first | rfl | (simp [tagV] at h; done)

theorem part_tag {e : TypeId} {d off : Nat} {l : List Tag} (hl : tagsOf P d e = some l) (hn : l.length = P.cellsOf e) {xs : Array Value} {p q : List (Option Tag)} (hp : p.length = off)
    (hx : xs.toList.map tagV = p ++ l.map some ++ q) : ∃ x, (part e xs off).run P w = .ok x w ∧ Shp P e x ∧ x.cells.toList.map tagV = l.map some ∧ x.cells.toList = (xs.toList.drop off).take l.length := by
  cases d with
  | zero => simp [tagsOf] at hl
  | succ d =>
    have hch : ((xs.toList.drop off).take l.length).map tagV = l.map some := by
      rw [List.map_take, List.map_drop, hx, ← hp, List.append_assoc, List.drop_left, ← List.length_map (f := some), List.take_left]
    cases hu : P.underlying e with
    | none => simp [tagsOf, hu] at hl
    | some u =>
      have aggc : (∃ n e', u = .array n e') ∨ (∃ fs, u = .struct fs) → ∃ x, (part e xs off).run P w = .ok x w ∧ Shp P e x ∧ x.cells.toList.map tagV = l.map some ∧ x.cells.toList = (xs.toList.drop off).take l.length := by
        intro hk
        obtain ⟨i, hi⟩ := info_of_underlying hu
        have he : (xs.extract off (off + P.cellsOf e)).toList = (xs.toList.drop off).take l.length := by
          rw [Array.toList_extract, hn]
          simp [List.extract]
        refine ⟨.agg (xs.extract off (off + P.cellsOf e)), ?_, ?_, ?_, he⟩
        · rcases hk with ⟨n, e', rfl⟩ | ⟨fs, rfl⟩ <;> simp [part, isAgg, run_underlying hu, run_sizeOf w hi]
        · rcases hk with ⟨n, e', rfl⟩ | ⟨fs, rfl⟩ <;> simp [Shp, hu]
        · show (xs.extract off (off + P.cellsOf e)).toList.map tagV = _
          rw [he]; exact hch
      have one : ∀ g, l = [g] → (∀ n e', u ≠ .array n e') → (∀ fs, u ≠ .struct fs) → ∃ x, (part e xs off).run P w = .ok x w ∧ Shp P e x ∧ x.cells.toList.map tagV = l.map some ∧ x.cells.toList = (xs.toList.drop off).take l.length := by
        intro g hg h1 h2
        subst hg
        have hlen : off < xs.toList.length := by
          have := congrArg List.length hx
          simp only [List.length_map, List.length_append, List.length_cons, List.length_nil] at this
          omega
        have hdt : (xs.toList.drop off).take 1 = [xs.toList[off]] := by
          rw [List.drop_eq_getElem_cons hlen]; simp
        have ht : tagV xs.toList[off] = some g := by
          have := hch
          simp only [List.length_cons, List.length_nil, Nat.zero_add, hdt, List.map_cons, List.map_nil, List.cons.injEq, and_true] at this
          exact this
        refine ⟨xs.toList[off], ?_, ?_, ?_, ?_⟩
        · have hxo : xs[off]? = some xs.toList[off] := by
            rw [← Array.getElem?_toList, List.getElem?_eq_getElem hlen]
          have hia : (isAgg e).run P w = .ok false w := by
            cases u <;> first | (simp [isAgg, run_underlying hu]; done) | exact absurd rfl (h1 _ _) | exact absurd rfl (h2 _)
          simp [part, hia, hxo]
        · unfold Shp
          rw [hu]
          cases u <;> first | exact absurd rfl (h1 _ _) | exact absurd rfl (h2 _) | (intro cs hc; rw [hc] at ht; simp [tagV] at ht)
        · rw [tagV_cells ht]; simpa using ht
        · rw [tagV_cells ht]; simp only [List.length_cons, List.length_nil, Nat.zero_add, hdt]
      cases u <;> simp only [tagsOf, hu] at hl <;> first
        | exact aggc (.inl ⟨_, _, rfl⟩)
        | exact aggc (.inr ⟨_, rfl⟩)
        | (cases hl; exact one _ rfl (by simp) (by simp))
        | (cases hl; done)

theorem split_eq {α : Type} {xs ys : List α} {off n : Nat} : (xs.drop off).take n = (ys.drop off).take n ∧ xs.drop (off + n) = ys.drop (off + n) ↔ xs.drop off = ys.drop off := by
  constructor
  · rintro ⟨h1, h2⟩
    rw [← List.take_append_drop n (xs.drop off), ← List.take_append_drop n (ys.drop off), h1, List.drop_drop, List.drop_drop, h2]
  · intro h
    exact ⟨by rw [h], by rw [← List.drop_drop, ← List.drop_drop, h]⟩

def EqT (P : Program) (dd : Nat) (e : TypeId) (l : List Tag) : Prop :=
  ∀ (w : World) (x y : Value), Shp P e x → Shp P e y → x.cells.toList.map tagV = l.map some → y.cells.toList.map tagV = l.map some →
    ∃ r : Bool, (Op.equalIn dd e x y).run P w = .ok r w ∧ (r = true ↔ x.cells.toList = y.cells.toList)

theorem eqItems_tag {dd d : Nat} {e : TypeId} {l : List Tag} (hl : tagsOf P d e = some l) (hn : l.length = P.cellsOf e) (IH : EqT P dd e l) {xs ys : Array Value} :
    ∀ (n i : Nat) (p p' : List (Option Tag)), p.length = i * P.cellsOf e → p'.length = i * P.cellsOf e → xs.toList.map tagV = p ++ (List.replicate n l).flatten.map some → ys.toList.map tagV = p' ++ (List.replicate n l).flatten.map some →
      ∃ r : Bool, (Op.eqItems dd e (P.cellsOf e) xs ys (List.range' i n)).run P w = .ok r w ∧ (r = true ↔ xs.toList.drop (i * P.cellsOf e) = ys.toList.drop (i * P.cellsOf e))
  | 0, i, p, p', hp, hp', hx, hy => by
    refine ⟨true, by simp [Op.eqItems], ?_⟩
    have h1 := congrArg List.length hx
    have h2 := congrArg List.length hy
    simp only [List.length_map, List.replicate_zero, List.flatten_nil, List.map_nil, List.append_nil] at h1 h2
    rw [List.drop_eq_nil_of_le (by omega), List.drop_eq_nil_of_le (by omega)]
    simp
  | n + 1, i, p, p', hp, hp', hx, hy => by
    have hr : (List.replicate (n + 1) l).flatten.map some = l.map some ++ (List.replicate n l).flatten.map some := by
      rw [List.replicate_succ, List.flatten_cons, List.map_append]
    rw [hr] at hx hy
    obtain ⟨x, hx1, hx2, hx3, hx4⟩ := part_tag w hl hn (xs := xs) (p := p) (q := (List.replicate n l).flatten.map some) hp (by rw [hx]; simp)
    obtain ⟨y, hy1, hy2, hy3, hy4⟩ := part_tag w hl hn (xs := ys) (p := p') (q := (List.replicate n l).flatten.map some) hp' (by rw [hy]; simp)
    obtain ⟨r, hr1, hr2⟩ := IH w x y hx2 hy2 hx3 hy3
    obtain ⟨r', hr3, hr4⟩ := eqItems_tag hl hn IH (xs := xs) (ys := ys) n (i + 1) (p ++ l.map some) (p' ++ l.map some) (by simp [hp, hn, Nat.succ_mul]) (by simp [hp', hn, Nat.succ_mul]) (by rw [hx, List.append_assoc]) (by rw [hy, List.append_assoc])
    rw [hx4, hy4, hn] at hr2
    rw [Nat.succ_mul] at hr4
    rw [List.range'_succ]
    simp only [Op.eqItems, Sem.run_bind, hx1, hy1, hr1, Result.andThen_ok]
    cases r
    · refine ⟨false, by simp, ?_⟩
      simp only [Bool.false_eq_true, false_iff]
      intro h
      exact absurd (hr2.mpr (split_eq.mpr h).1) (by simp)
    · refine ⟨r', by simpa using hr3, ?_⟩
      rw [hr4]
      exact ⟨fun h => split_eq.mp ⟨hr2.mp rfl, h⟩, fun h => (split_eq.mpr h).2⟩

theorem eqFields_tag {dd d : Nat} {xs ys : Array Value} (IH : ∀ e l, tagsOf P d e = some l → EqT P dd e l) :
    ∀ (fs : List Field) (o : Nat) (l : List Tag) (p p' : List (Option Tag)), tagsFs P (tagsOf P d) fs o = some l → p.length = o → p'.length = o → xs.toList.map tagV = p ++ l.map some → ys.toList.map tagV = p' ++ l.map some →
      ∃ r : Bool, (Op.eqFields dd xs ys fs).run P w = .ok r w ∧ (r = true ↔ xs.toList.drop o = ys.toList.drop o)
  | [], o, l, p, p', hl, hp, hp', hx, hy => by
    simp only [tagsFs, Option.some.injEq] at hl
    subst hl
    refine ⟨true, by simp [Op.eqFields], ?_⟩
    have h1 := congrArg List.length hx
    have h2 := congrArg List.length hy
    simp only [List.length_map, List.map_nil, List.append_nil] at h1 h2
    rw [List.drop_eq_nil_of_le (by omega), List.drop_eq_nil_of_le (by omega)]
    simp
  | f :: fs, o, l, p, p', hl, hp, hp', hx, hy => by
    simp only [tagsFs] at hl
    split at hl
    · rename_i hf
      split at hl
      · rename_i lf hlf
        split at hl
        · rename_i hn
          split at hl
          · rename_i r hr
            cases hl
            rw [List.map_append] at hx hy
            have hne : f.name ≠ "_" := by simpa using hf.2
            obtain ⟨x, hx1, hx2, hx3, hx4⟩ := part_tag w hlf hn (xs := xs) (p := p) (q := r.map some) (hp.trans hf.1.symm) (by rw [hx]; simp)
            obtain ⟨y, hy1, hy2, hy3, hy4⟩ := part_tag w hlf hn (xs := ys) (p := p') (q := r.map some) (hp'.trans hf.1.symm) (by rw [hy]; simp)
            obtain ⟨r1, hr1, hr2⟩ := IH _ _ hlf w x y hx2 hy2 hx3 hy3
            obtain ⟨r2, hr3, hr4⟩ := eqFields_tag IH fs (o + lf.length) r (p ++ lf.map some) (p' ++ lf.map some) hr (by simp [hp]) (by simp [hp']) (by rw [hx, List.append_assoc]) (by rw [hy, List.append_assoc])
            rw [hx4, hy4, hf.1] at hr2
            simp only [Op.eqFields, hne, ne_eq, not_false_eq_true, if_true, Sem.run_bind, hx1, hy1, hr1, Result.andThen_ok]
            cases r1
            · refine ⟨false, by simp, ?_⟩
              simp only [Bool.false_eq_true, false_iff]
              intro h
              exact absurd (hr2.mpr (split_eq.mpr h).1) (by simp)
            · refine ⟨r2, by simpa using hr3, ?_⟩
              rw [hr4]
              exact ⟨fun h => split_eq.mp ⟨hr2.mp rfl, h⟩, fun h => (split_eq.mpr h).2⟩
          · cases hl
        · cases hl
      · cases hl
    · cases hl

theorem eq_tag (dd : Nat) : ∀ (d : Nat) (e : TypeId) (l : List Tag), tagsOf P d e = some l → EqT P (dd + d) e l
  | 0, _, _, h => by simp [tagsOf] at h
  | d + 1, e, l, hl => by
    intro w x y sx sy hx hy
    unfold tagsOf at hl
    unfold Shp at sx sy
    cases hu : P.underlying e with
    | none => simp [hu] at hl
    | some u =>
      rw [hu] at hl sx sy
      have sc : ∀ {g : Tag} {z : Value}, (∀ cs, z ≠ .agg cs) → z.cells.toList.map tagV = [g].map some → tagV z = some g := by
        intro g z hz ht
        have hc : z.cells = #[z] := by cases z <;> first | rfl | exact absurd rfl (hz _)
        rw [hc] at ht
        simpa using ht
      cases u <;> simp only at hl sx sy <;> try (cases hl; done)
      case bool =>
        cases hl
        have hx' := sc sx hx
        have hy' := sc sy hy
        clear hx hy sx sy
        cases x <;> simp [tagV] at hx'
        cases y <;> simp [tagV] at hy'
        rename_i a b
        exact ⟨a == b, by rw [show dd + (d + 1) = (dd + d) + 1 from rfl]; exact run_equalIn_bool' w (dd + d) e a b hu, by simp [Value.cells]⟩
      case string =>
        cases hl
        have hx' := sc sx hx
        have hy' := sc sy hy
        clear hx hy sx sy
        cases x <;> simp [tagV] at hx'
        cases y <;> simp [tagV] at hy'
        rename_i a b
        refine ⟨a == b, by rw [show dd + (d + 1) = (dd + d) + 1 from rfl, beq_toListBytes]; exact run_equalIn_string w (dd + d) e a b hu, ?_⟩
        rw [beq_toListBytes]
        simp only [beq_iff_eq, Value.cells, List.cons.injEq, Value.string.injEq, and_true]
        exact ⟨fun h => by
          have : a.data.toList = b.data.toList := by rw [ByteArray.toList_eq, ByteArray.toList_eq] at h; exact h
          exact ByteArray.ext (Array.toList_inj.mp this), fun h => by rw [h]⟩
      case int k =>
        cases hl
        have hx' := sc sx hx
        have hy' := sc sy hy
        clear hx hy sx sy
        cases x <;> simp [tagV] at hx'
        cases y <;> simp [tagV] at hy'
        subst hx'; subst hy'
        rename_i a k b
        exact ⟨a == b, by rw [show dd + (d + 1) = (dd + d) + 1 from rfl]; exact run_equalIn_int w (dd + d) e _ _ a b hu, by simp [Value.cells]⟩
      case array n e' =>
        obtain ⟨xs, rfl⟩ := sx
        obtain ⟨ys, rfl⟩ := sy
        split at hl
        · rename_i l' hl'
          split at hl
          · rename_i hn
            cases hl
            have hi : ∃ i, P.info? e' = some i := by
              cases d with
              | zero => simp [tagsOf] at hl'
              | succ d' =>
                unfold tagsOf at hl'
                cases hue : P.underlying e' with
                | none => simp [hue] at hl'
                | some _ => exact info_of_underlying hue
            obtain ⟨i, hi⟩ := hi
            obtain ⟨r, hr1, hr2⟩ := eqItems_tag w hl' hn (eq_tag dd d e' l' hl') (xs := xs) (ys := ys) n 0 [] [] (by simp) (by simp) (by simpa using show xs.toList.map tagV = _ from hx) (by simpa using show ys.toList.map tagV = _ from hy)
            refine ⟨r, ?_, ?_⟩
            · rw [show dd + (d + 1) = (dd + d) + 1 from rfl, run_equalIn_array w (dd + d) xs ys hu hi, List.range_eq_range']
              exact hr1
            · rw [hr2]; simp [Value.cells]
          · cases hl
        · cases hl
      case struct fs =>
        obtain ⟨xs, rfl⟩ := sx
        obtain ⟨ys, rfl⟩ := sy
        split at hl
        · rename_i hs
          have hfs : P.fieldsOf e = fs := by simp [Program.fieldsOf, hu]
          obtain ⟨r, hr1, hr2⟩ := eqFields_tag w (xs := xs) (ys := ys) (fun e l h => eq_tag dd d e l h) fs.toList 0 l [] [] hl rfl rfl (by simpa using show xs.toList.map tagV = _ from hx) (by simpa using show ys.toList.map tagV = _ from hy)
          refine ⟨r, ?_, ?_⟩
          · rw [show dd + (d + 1) = (dd + d) + 1 from rfl, run_equalIn_struct w (dd + d) e xs ys (by rw [hfs]; exact hu) hs, hfs]
            exact hr1
          · rw [hr2]; simp [Value.cells]
        · cases hl
end

end Go.Proofs.SL

/-
  SL: the evaluator over abstract values. No claim by itself.
-/
namespace Go.Proofs.SL
open Go

inductive TK where
  | int (k : IntKind) | bool | str
  | ptr (e : Nat) | slice (e : Nat) | arr (n e : Nat)
  | struct (fs : List (Nat × Nat))
  | map (k e : Nat) | iface | func | other

/-- A type as the evaluator sees it: its kind, its cells, whether it is a struct or an array, its bytes, its zero value. -/
structure TD where
  k : TK
  size : Nat
  agg : Bool
  bytes : Nat
  zero : PV
  tags : Option (List Tag) := none

def ofScalar : Value → PV
  | .bool b => .bool b
  | .int k n => .int k n
  | .string s => .str s
  | .pointer none => .nilp
  | .slice none 0 0 => .nils
  | .nilFunc => .nilf
  | .nilIface => .nili
  | .map none => .nilm
  | _ => .any
def ofValue : Value → PV
  | .agg cs => .agg (cs.toList.map ofScalar)
  | v => ofScalar v

def opn (σ : Env) : Operand → PV
  | .tmp t => σ.getD t .any
  | .const v => ofValue v
  | .func f => .func (.func f) [] []
  | .global _ => .any

/-- Whether a value takes one cell, and may be stored there. -/
def PV.one : PV → Bool
  | .any | .agg _ | .tup _ => false
  | _ => true

def bitOp (op : BinOp) (k : IntKind) (a b : Int) : Int :=
  let x := BitVec.ofInt k.bits a
  let y := BitVec.ofInt k.bits b
  match op with
  | .and => k.wrap (x &&& y).toNat
  | .or => k.wrap (x ||| y).toNat
  | .xor => k.wrap (x ^^^ y).toNat
  | _ => k.wrap (x &&& ~~~y).toNat

def slt (a b : ByteArray) : Bool := Op.bytesLess a.toList b.toList

def intBin (op : BinOp) (k : IntKind) (a b : Int) : Bool × PV :=
  match op with
  | .add => (true, .int k (k.wrap (a + b)))
  | .sub => (true, .int k (k.wrap (a - b)))
  | .mul => (true, .int k (k.wrap (a * b)))
  | .quo => (!decide (b = 0), .int k (k.wrap (a.tdiv b)))
  | .rem => (!decide (b = 0), .int k (a.tmod b))
  | .and => (true, .int k (bitOp .and k a b))
  | .or => (true, .int k (bitOp .or k a b))
  | .xor => (true, .int k (bitOp .xor k a b))
  | .andNot => (true, .int k (bitOp .andNot k a b))
  | .shl => (decide (0 ≤ b), .int k (k.wrap (a * 2 ^ (min b.toNat k.bits))))
  | .shr => (decide (0 ≤ b), .int k (a.fdiv (2 ^ (min b.toNat k.bits))))
  | .eql => (true, .bool (decide (a = b)))
  | .neq => (true, .bool (!decide (a = b)))
  | .lss => (true, .bool (decide (a < b)))
  | .leq => (true, .bool (decide (a ≤ b)))
  | .gtr => (true, .bool (decide (b < a)))
  | .geq => (true, .bool (decide (b ≤ a)))

def strBin (op : BinOp) (a b : ByteArray) : Bool × PV :=
  match op with
  | .add => (decide (a.size + b.size < 9223372036854775808), .str (a ++ b))
  | .eql => (true, .bool (decide (a = b)))
  | .neq => (true, .bool (!decide (a = b)))
  | .lss => (true, .bool (slt a b))
  | .leq => (true, .bool (slt a b || decide (a = b)))
  | .gtr => (true, .bool (!(slt a b || decide (a = b))))
  | .geq => (true, .bool (!slt a b))
  | _ => (false, .any)

def no : Bool × PV := (false, .any)

/-- '==' of two values of one comparable type. -/
def eqBin (k : TK) (x y : PV) : Bool × PV :=
  match k, x, y with
  | .bool, .bool a, .bool b => (true, .bool (a == b))
  | .slice _, .nils, .nils => (true, .bool true)
  | .slice _, .nils, .sl _ xs => (!decide (xs.length = 0), .bool false)
  | .slice _, .sl _ xs, .nils => (!decide (xs.length = 0), .bool false)
  | .slice _, .nils, .buf _ _ _ n _ _ => (!decide (n = 0), .bool false)
  | .slice _, .buf _ _ _ n _ _, .nils => (!decide (n = 0), .bool false)
  | .func, .nilf, .nilf => (true, .bool true)
  | .func, .func _ _ _, .nilf => (true, .bool false)
  | .func, .nilf, .func _ _ _ => (true, .bool false)
  | .ptr _, .nilp, .nilp => (true, .bool true)
  | .ptr _, .nilp, .ptr _ _ _ => (true, .bool false)
  | .ptr _, .ptr _ _ _, .nilp => (true, .bool false)
  | .map _ _, .nilm, .nilm => (true, .bool true)
  | .map _ _, .nilm, .mp _ => (true, .bool false)
  | .map _ _, .mp _, .nilm => (true, .bool false)
  | _, _, _ => no

open Classical in
/-- '==' of two structs or arrays of numbers, texts and truths. -/
noncomputable def eqAgg (d : TD) (cs ds : List PV) : Bool × PV :=
  match d.tags with
  | some l => (d.agg && (decide (cs.map tagP = l.map some) && decide (ds.map tagP = l.map some)), .bool (decide (cs = ds)))
  | none => no

def notB : Bool × PV → Bool × PV
  | (c, .bool b) => (c, .bool !b)
  | _ => no

noncomputable def binV (T : Nat → Option TD) (op : BinOp) (t : Nat) (x y : PV) : Bool × PV :=
  match x, y with
  | .int k a, .int k' b => match op with
    | .shl => intBin .shl k a b
    | .shr => intBin .shr k a b
    | op => if k = k' then intBin op k a b else no
  | .str a, .str b => strBin op a b
  | .agg cs, .agg ds => match op, T t with
    | .eql, some d => eqAgg d cs ds
    | .neq, some d => notB (eqAgg d cs ds)
    | _, _ => no
  | x, y => match op, T t with
    | .eql, some d => eqBin d.k x y
    | .neq, some d => notB (eqBin d.k x y)
    | _, _ => no

def subCells (cs : List PV) (off n : Nat) : List PV := (cs.drop off).take n

/-- A part of an aggregate: of type 'd', from cell 'off' on. -/
def partV (d : TD) (cs : List PV) (off : Nat) : Bool × PV :=
  if d.agg then (decide (off + d.size ≤ cs.length), .agg (subCells cs off d.size)) else (decide (off < cs.length), cs.getD off .any)

def idx (i : Int) (n : Nat) : Bool := decide (0 ≤ i) && decide (i < n)

def lim (d : Nat) : Option PV → Option Int
  | none => some d
  | some (.int _ n) => some n
  | _ => none

/-- The address of an element. -/
def elemAddr (T : Nat → Option TD) (t : Nat) (x i : PV) : Bool × PV :=
  match T t, x, i with
  | some d, .ptr j ver off, .int _ i => match d.k with
    | .arr n e => match T e with
      | some de => (idx i n && decide (2 ≤ n), .ptr j ver (off + i.toNat * de.size))
      | none => no
    | _ => no
  | some d, .sl m xs, .int _ i => match d.k with
    | .slice e => match T e with
      | some de => (idx i xs.length && decide (de.size = m), .cptr (xs.getD i.toNat .any))
      | none => no
    | _ => no
  | some d, .buf j ver off len m _, .int _ i => match d.k with
    | .slice e => match T e with
      | some de => (idx i len && decide (de.size = m), .ptr j ver (off + i.toNat * m))
      | none => no
    | _ => no
  | _, _, _ => no

/-- The cells of an aggregate, parts laid in. -/
def fillV (place : Nat → Option (Nat × Nat)) (cs : List PV) : List (Nat × PV) → Bool × PV
  | [] => (true, .agg cs)
  | (i, p) :: rest => match place i, p with
    | _, .any => no
    | none, _ => no
    | some (off, n), p => let (c, r) := fillV place (cs.take off ++ p.cells ++ cs.drop (off + n)) rest
      (decide (p.cells.length = n) && (decide (off + n ≤ cs.length) && c), r)

def unV (op : UnOp) (p : PV) : Bool × PV :=
  match op, p with
  | .not, .bool b => (true, .bool !b)
  | .neg, .int k n => (true, .int k (k.wrap (0 - n)))
  | .xor, .int k n => (true, .int k (bitOp .xor k (if k.signed then -1 else k.max) n))
  | _, _ => no

def pickV (c a b : PV) : Bool × PV :=
  match c with
  | .bool true => (true, a)
  | .bool false => (true, b)
  | _ => no

/-- Conversions that need no memory: 'none' says that it is another one. -/
def convV (s d : TK) (p : PV) : Option (Bool × PV) :=
  match d, p with
  | .int k, .int _ n => some (true, .int k (k.wrap n))
  | .str, .str s => some (true, .str s)
  | .str, .int _ n => some (true, .str (Utf8.encode n))
  | .slice _, _ => none
  | .str, _ => match s with
    | .slice _ => none
    | _ => some no
  | _, _ => some no

def indexV (T : Nat → Option TD) (t : Nat) (p q : PV) : Bool × PV :=
  match T t with
  | none => no
  | some d => match p, q with
    | .str s, .int _ i => match d.k with
      | .str => (idx i s.size, .int .u8 (s.get! i.toNat).toNat)
      | _ => no
    | .agg cs, .int _ i => match d.k with
      | .arr n e => match T e with
        | some de => (idx i n && (partV de cs (i.toNat * de.size)).1, (partV de cs (i.toNat * de.size)).2)
        | none => no
      | _ => no
    | _, _ => no

def extractV (p : PV) (i : Nat) : Bool × PV :=
  match p with
  | .tup vs => (decide (i < vs.length), vs.getD i .any)
  | _ => no

/-- Field f of a struct type: where it begins, its type. -/
def fieldOf (T : Nat → Option TD) (t f : Nat) : Option (Nat × TD) :=
  match T t with
  | none => none
  | some d => match d.k with
    | .struct fs => match fs[f]? with
      | some (off, ft) => match T ft with
        | some df => some (off, df)
        | none => none
      | none => none
    | _ => none

def fieldV (T : Nat → Option TD) (t f : Nat) (p : PV) : Bool × PV :=
  match fieldOf T t f with
  | none => no
  | some (off, df) => match p with
    | .agg cs => partV df cs off
    | _ => no

def fieldAddrV (T : Nat → Option TD) (t f : Nat) (p : PV) : Bool × PV :=
  match fieldOf T t f with
  | none => no
  | some (fo, df) => match p with
    | .ptr i ver off => (!decide (df.size = 0), .ptr i ver (off + fo))
    | .cptr (.agg cs) => (!decide (df.size = 0) && ((partV df cs fo).1 && (df.agg || (partV df cs fo).2.one)), .cptr (partV df cs fo).2)
    | _ => no

def buildV (T : Nat → Option TD) (t : Nat) (parts : List (Nat × PV)) : Bool × PV :=
  match T t with
  | none => no
  | some d => match d.zero with
    | .agg cs => match d.k with
      | .struct fs => if (fs.all fun x => (T x.2).isSome) = true then fillV (fun i => (fieldOf T t i).map fun x => (x.1, x.2.size)) cs parts else no
      | .arr _ e => match T e with
        | some de => fillV (fun i => some (i * de.size, de.size)) cs parts
        | none => no
      | _ => no
    | _ => no

/-- The array that a slice is the beginning of, by its address. -/
def arrayAtV (T : Nat → Option TD) (t : Nat) (p : PV) : Bool × PV :=
  match T t with
  | some d => match d.k, p with
    | .arr n _, .buf i ver off len _ _ => (decide (n ≤ len) && !decide (len = 0), .ptr i ver off)
    | _, _ => no
  | none => no

def makeIfaceV (T : Nat → Option TD) (t : Nat) (p : PV) : Bool × PV :=
  match T t with
  | none => no
  | some d => match d.k with
    | .iface => no
    | _ => (true, .iface t p)

def zeroLit : Option PV → Bool
  | some (.int _ n) => decide (n = 0)
  | _ => false

def sliceV (T : Nat → Option TD) (t : Nat) (p : PV) (lo hi mx : Option PV) : Bool × PV :=
  match T t with
  | none => no
  | some d => match mx with
    | some m => match d.k with
      | .slice e => match T e with
        | none => no
        | some _ => match p with
          | .nils => (zeroLit lo && (zeroLit hi && zeroLit (some m)), .empt)
          | .empt => (zeroLit lo && (zeroLit hi && zeroLit (some m)), .empt)
          | .sl _ _ => (zeroLit lo && (zeroLit hi && zeroLit (some m)), .empt)
          | .buf _ _ _ _ _ _ => (zeroLit lo && (zeroLit hi && zeroLit (some m)), .empt)
          | _ => no
      | _ => no
    | none => match p with
      | .str s => match d.k, lim 0 lo, lim s.size hi with
        | .str, some l, some h => (decide (0 ≤ l) && (decide (l ≤ h) && decide (h ≤ s.size)), .str (s.extract l.toNat h.toNat))
        | _, _, _ => no
      | .sl m xs => match d.k, lim 0 lo, lim xs.length hi with
        | .slice e, some l, some h => match T e with
          | some de => (decide (0 ≤ l) && (decide (l ≤ h) && (decide (h ≤ xs.length) && decide (de.size = m))), .sl m ((xs.take h.toNat).drop l.toNat))
          | none => no
        | _, _, _ => no
      | .buf i ver off len m tip => match d.k, lim 0 lo, lim len hi with
        | .slice e, some l, some h => match T e with
          | some de => (decide (0 ≤ l) && (decide (l ≤ h) && (decide (h ≤ len) && decide (de.size = m))), .buf i ver (off + l.toNat * m) (h.toNat - l.toNat) m (tip && lo.isNone))
          | none => no
        | _, _, _ => no
      | _ => no

def lenV (T : Nat → Option TD) (ts : List Nat) (ps : List PV) : Bool × PV :=
  match ts, ps with
  | t :: _, p :: _ => match T t with
    | none => no
    | some d => match d.k, p with
      | .str, .str s => (true, .int .i64 s.size)
      | .slice _, .sl _ xs => (true, .int .i64 xs.length)
      | .slice _, .buf _ _ _ n _ _ => (true, .int .i64 n)
      | .slice _, .nils => (true, .int .i64 0)
      | .slice _, .empt => (true, .int .i64 0)
      | .arr n _, _ => (true, .int .i64 n)
      | _, _ => no
  | _, _ => no

def minV : List PV → Bool × PV
  | [.int k a, .int _ b] => (true, .int k (if b < a then b else a))
  | _ => no
def maxV : List PV → Bool × PV
  | [.int k a, .int _ b] => (true, .int k (if b > a then b else a))
  | _ => no

def nilCheckV (p : PV) : Bool × PV :=
  match p with
  | .ptr i ver off => (true, .ptr i ver off)
  | .cptr p => (true, .cptr p)
  | _ => no

/-- '==' of pointers: hangs on the heap. -/
def ptrEq (T : Nat → Option TD) (op : BinOp) (t : Nat) : Bool := match op with
  | .eql | .neq => match T t with
    | some d => match d.k with
      | .ptr _ => true
      | .slice _ => true
      | _ => false
    | none => false
  | _ => false
/-- len of a map. -/
def mapLen (T : Nat → Option TD) : List Nat → Bool
  | t :: _ => match T t with
    | some d => match d.k with
      | .map _ _ => true
      | _ => false
    | none => false
  | [] => false

/-- What hangs on the operands alone. -/
noncomputable def pureOp (T : Nat → Option TD) (g : Operand → PV) : Op → Option (Bool × PV)
  | .move x => some (true, g x)
  | .assign x => some (true, g x)
  | .pick c a b => some (pickV (g c) (g a) (g b))
  | .binOp op t x y _ => if ptrEq T op t = true then none else some (binV T op t (g x) (g y))
  | .unOp op _ x => some (unV op (g x))
  | .nilCheck x => some (nilCheckV (g x))
  | .convert src dst x => match T src, T dst with
    | some s, some d => convV s.k d.k (g x)
    | _, _ => some no
  | .index t x i => some (indexV T t (g x) (g i))
  | .extract x i => some (extractV (g x) i)
  | .field t x f => some (fieldV T t f (g x))
  | .fieldAddr t x f => some (fieldAddrV T t f (g x))
  | .indexAddr t x i => some (elemAddr T t (g x) (g i))
  | .build t parts => some (buildV T t (parts.toList.map fun p => (p.1, g p.2)))
  | .makeFunc fn a c => some (true, .func fn (a.toList.map g) (c.toList.map g))
  | .makeInterface t x => some (makeIfaceV T t (g x))
  | .sliceToArrayPointer t x => some (arrayAtV T t (g x))
  | .slice t x lo hi mx => match T t with
    | none => some no
    | some d => match d.k with
      | .arr _ _ => none
      | .ptr _ => none
      | _ => some (sliceV T t (g x) (lo.map g) (hi.map g) (mx.map g))
  | .call c => match c.callee with
    | .builtin .len => if mapLen T c.argTypes.toList = true then none else some (lenV T c.argTypes.toList (c.args.toList.map g))
    | .builtin .min => some (minV (c.args.toList.map g))
    | .builtin .max => some (maxV (c.args.toList.map g))
    | _ => none
  | _ => none

def isU8 : PV → Bool
  | .int .u8 n => decide (0 ≤ n ∧ n < 256)
  | _ => false
def bytesOf (xs : List PV) : ByteArray := ⟨(xs.map fun
  | .int _ n => UInt8.ofNat n.toNat
  | _ => 0).toArray⟩

def obj (H : Heap) (i ver : Nat) : Option (List PV) :=
  match H[i]? with
  | some (some (.cells v cs)) => if v = ver then some cs else none
  | _ => none

def loadV (d : TD) (H : Heap) (p : PV) : Bool × PV :=
  match p with
  | .ptr i ver off => match obj H i ver with
    | some cs => partV d cs off
    | none => no
  | .cptr p => if d.agg then (match p with
      | .agg cs => (decide (cs.length = d.size), .agg cs)
      | _ => no) else (p.one, p)
  | _ => no

/-- A slice of an array of n elements of m cells, at an address. -/
def arrSliceV (H : Heap) (n m : Nat) (p : PV) (lo hi : Option PV) : Bool × PV :=
  match p with
  | .ptr i ver off => match obj H i ver, lim 0 lo, lim n hi with
    | some cs, some l, some h => (decide (0 ≤ l) && (decide (l ≤ h) && (decide (h ≤ n) && decide (off + n * m ≤ cs.length))), .buf i ver (off + l.toNat * m) (h.toNat - l.toNat) m false)
    | _, _, _ => no
  | _ => no

def toStrV (H : Heap) (d : TK) (p : PV) : Option (Bool × PV) :=
  match d with
  | .str => match p with
    | .sl m xs => some (decide (m = 1) && xs.all isU8, .str (bytesOf xs))
    | .nils => some (true, .str ⟨#[]⟩)
    | .buf i ver off len m _ => some (match obj H i ver with
      | some cs => (decide (m = 1) && (decide (off + len ≤ cs.length) && (subCells cs off len).all isU8), .str (bytesOf (subCells cs off len)))
      | none => no)
    | _ => none
  | _ => none

/-! Maps: keys of one cell, and structs and arrays of numbers, texts and truths. -/
def isKeyT : TK → PV → Bool
  | .int k, .int k' _ => decide (k' = k)
  | .str, .str _ => true
  | .bool, .bool _ => true
  | _, _ => false
def isKeyP (d : TD) : PV → Bool
  | .agg cs => d.agg && (match d.tags with
    | some l => decide (cs.map tagP = l.map some)
    | none => false)
  | p => isKeyT d.k p
open Classical in
noncomputable def keyB : PV → PV → Bool
  | .int k a, .int k' b => decide (k = k' ∧ a = b)
  | .str a, .str b => decide (a = b)
  | .bool a, .bool b => decide (a = b)
  | .agg a, .agg b => decide (a = b)
  | _, _ => false
/-- Where a key stands among the entries, from a number on, and what it bears. -/
noncomputable def findP (p : PV) : List (PV × PV) → Nat → Option (Nat × PV)
  | [], _ => none
  | e :: es, i => if keyB p e.1 = true then some (i, e.2) else findP p es (i + 1)
/-- What a map tells of a key. -/
noncomputable def lookM (p z : PV) (es : List (PV × PV)) : PV × Bool := match findP p es 0 with
  | some (_, v) => (v, true)
  | none => (z, false)
/-- The entries, with a key that is told so. -/
noncomputable def putM (p v : PV) (es : List (PV × PV)) : List (PV × PV) := match findP p es 0 with
  | some (j, _) => es.set j (p, v)
  | none => es ++ [(p, v)]
/-- The entries without a key. -/
noncomputable def delM (p : PV) (es : List (PV × PV)) : List (PV × PV) := match findP p es 0 with
  | some (j, _) => es.eraseIdx j
  | none => es
def keysB (d : TD) (es : List (PV × PV)) : Bool := es.all fun q => isKeyP d q.1
/-- A map's keys and elements. -/
def mapTy (T : Nat → Option TD) (t : Nat) : Option (TD × TD) := match T t with
  | some d => match d.k with
    | .map kt et => match T kt, T et with
      | some dk, some de => some (dk, de)
      | _, _ => none
    | _ => none
  | none => none
/-- What a map holds. -/
def entriesO : OB → Option (List (PV × PV))
  | .map es => some es
  | .mapx _ _ es => some es
  | _ => none
noncomputable def lookE (T : Nat → Option TD) (H : Heap) (t : Nat) (x k : PV) (ok : Bool) : Bool × PV :=
  match mapTy T t, x with
  | some (dk, de), .mp i => match H[i]? with
    | some (some o) => match entriesO o with
      | some es => (isKeyP dk k && keysB dk es, if ok then .tup [(lookM k de.zero es).1, .bool (lookM k de.zero es).2] else (lookM k de.zero es).1)
      | none => no
    | _ => no
  | some (dk, de), .nilm => (isKeyP dk k, if ok then .tup [de.zero, .bool false] else de.zero)
  | _, _ => no
def lenM (H : Heap) : List PV → Bool × PV
  | .nilm :: _ => (true, .int .i64 0)
  | .mp i :: _ => match H[i]? with
    | some (some o) => match entriesO o with
      | some es => (true, .int .i64 es.length)
      | none => no
    | _ => no
  | _ => no
def ptrSame (H : Heap) : PV → PV → Bool × PV
  | .nilp, .nilp => (true, .bool true)
  | .nilp, .ptr _ _ _ => (true, .bool false)
  | .ptr _ _ _, .nilp => (true, .bool false)
  | .ptr i u o, .ptr j v q => (decide (u = 0) && (decide (v = 0) && ((obj H i u).isSome && (obj H j v).isSome)), .bool (decide (i = j) && decide (o = q)))
  | _, _ => no
/-- A slice that is not nil, though it may be empty: its object has been made. -/
def nilBuf (H : Heap) : PV → PV → Bool
  | .buf i ver _ _ _ true, .nils => match obj H i ver with
    | some (_ :: _) => true
    | _ => false
  | _, _ => false
def eqPtrV (T : Nat → Option TD) (H : Heap) (op : BinOp) (t : Nat) (x y : PV) : Bool × PV := match T t with
  | some d => match d.k with
    | .ptr e => match T e with
      | some de => (match op with
        | .eql => (decide (0 < de.size) && (ptrSame H x y).1, (ptrSame H x y).2)
        | .neq => (decide (0 < de.size) && (notB (ptrSame H x y)).1, (notB (ptrSame H x y)).2)
        | _ => no)
      | none => no
    | .slice _ => (match op with
      | .eql => ((eqBin d.k x y).1 || nilBuf H x y, (eqBin d.k x y).2)
      | .neq => ((notB (eqBin d.k x y)).1 || nilBuf H x y, (notB (eqBin d.k x y)).2)
      | _ => no)
    | _ => no
  | none => no
/-- A stamp's entry. -/
def findB (b : Nat) : List Nat → List (PV × PV) → Option (PV × PV)
  | x :: bs, e :: es => if x = b then some e else findB b bs es
  | _, _ => none
/-- The entry of an iterator's last step. -/
def entryV (H : Heap) : PV → Bool × PV
  | .ptr it 0 0 => match H[it]? with
    | some (some (.mapit m _ seen last)) => match H[m]? with
      | some (some (.mapx n bs es)) => match seen.getLast? with
        | some b => match findB b bs es with
          | some e => (decide (last = n), .tup [e.1, e.2])
          | none => no
        | none => no
      | _ => no
    | _ => no
  | _ => no

/-- What reads the heap, and leaves it. -/
noncomputable def readOp (T : Nat → Option TD) (g : Operand → PV) (H : Heap) : Op → Option (Bool × PV)
  | .load t a => some (match T t with
    | some d => loadV d H (g a)
    | none => no)
  | .convert s dst x => match T s, T dst with
    | some ds, some d => match ds.k with
      | .slice e => match T e with
        | some de => match de.k with
          | .int .u8 => toStrV H d.k (g x)
          | _ => none
        | none => none
      | _ => none
    | _, _ => none
  | .slice t x lo hi mx => match T t, mx with
    | some d, none => match d.k with
      | .arr n e => match T e with
        | some de => some (arrSliceV H n de.size (g x) (lo.map g) (hi.map g))
        | none => some no
      | .ptr a => match T a with
        | some da => match da.k with
          | .arr n e => match T e with
            | some de => some (arrSliceV H n de.size (g x) (lo.map g) (hi.map g))
            | none => some no
          | _ => some no
        | none => some no
      | _ => some no
    | _, _ => some no
  | .binOp op t x y _ => if ptrEq T op t = true then some (eqPtrV T H op t (g x) (g y)) else none
  | .lookup t x k ok => some (lookE T H t (g x) (g k) ok)
  | .entry it => some (entryV H (g it))
  | .call c => match c.callee with
    | .builtin .len => if mapLen T c.argTypes.toList = true then some (lenM H (c.args.toList.map g)) else none
    | _ => none
  | _ => none

inductive R where
  | val (b : Bool) (v : PV) (H : Heap)
  | br (c : Bool) (v1 : PV) (H1 : Heap) (v2 : PV) (H2 : Heap)
  | call (f : Nat) (args : List PV)
  | draw (c : Bool) (Q : PV → Heap → Prop)
  | ycall (i : Nat) (args : List PV)
  | bad

def chunk (m : Nat) (agg : Bool) : Nat → List PV → List PV
  | 0, _ => []
  | n + 1, cs => (if agg then .agg (cs.take m) else cs.getD 0 .any) :: chunk m agg n (cs.drop m)

/-- The elements of a slice or a string that is appended or copied. -/
def elemsOf (H : Heap) (d : TD) : PV → Option (Bool × List PV)
  | .sl m xs => some (decide (m = d.size), xs)
  | .str s => some (decide (d.size = 1) && !d.agg, s.toList.map fun b => .int .u8 b.toNat)
  | .nils => some (true, [])
  | .empt => some (true, [])
  | .buf i ver off len m _ => match obj H i ver with
    | some cs => some (decide (m = d.size) && (decide (off + len * m ≤ cs.length) && (d.agg || decide (d.size = 1))), chunk m d.agg len (subCells cs off (len * m)))
    | none => none
  | _ => none

/-- A new slice: to be changed later, or not. -/
def newSlice (mu : Bool) (c : Bool) (H : Heap) (m : Nat) (xs : List PV) (ver : Nat := 0) : R :=
  if mu then .val c (.buf H.length ver 0 xs.length m true) (H ++ [some (.cells ver (flat xs))]) else .val c (.sl m xs) H

def most : Nat := 70368744177664

def storeV (d : TD) (cs : List PV) (off : Nat) (v : PV) : Bool × List PV :=
  if d.agg then match v with
    | .agg vs => (decide (vs.length = d.size) && (decide (off + d.size ≤ cs.length) && vs.all PV.one), cs.take off ++ vs ++ cs.drop (off + d.size))
    | _ => (false, [])
  else (decide (off < cs.length) && (v.one && decide (d.size = 1)), cs.set off v)

def storeE (T : Nat → Option TD) (H : Heap) (t : Nat) (a x : PV) : R :=
  match T t with
  | none => .bad
  | some d => match a with
    | .ptr i ver off => match obj H i ver with
      | some cs => .val (storeV d cs off x).1 .any (H.set i (some (.cells ver (storeV d cs off x).2)))
      | none => .bad
    | _ => .bad

def boxE (H : Heap) (p : PV) : R :=
  match p with
  | .any => .bad
  | p => .val (p.cells.all PV.one) (.ptr H.length 0 0) (H ++ [some (.cells 0 p.cells)])

/-- A slice type's element. -/
def elemTy (T : Nat → Option TD) (t : Nat) : Option (Nat × TD) :=
  match T t with
  | none => none
  | some d => match d.k with
    | .slice e => match T e with
      | some de => some (e, de)
      | none => none
    | _ => none

def buildSliceE (T : Nat → Option TD) (mu : Bool) (H : Heap) (t n : Nat) (parts : List (Nat × PV)) : R :=
  match elemTy T t with
  | none => .bad
  | some (_, de) => match fillV (fun i => some (i * de.size, de.size)) (List.replicate (n * de.size) .any) parts with
    | (c, .agg cs) => newSlice mu (c && (cs.all PV.one && (decide (n * de.size ≤ 16777216) && (de.agg || decide (de.size = 1))))) H de.size (chunk de.size de.agg n cs)
    | _ => .bad

def bytesE (T : Nat → Option TD) (mu : Bool) (H : Heap) (t : Nat) (p : PV) : R :=
  match elemTy T t with
  | none => .bad
  | some (_, de) => match de.k, p with
    | .int .u8, .str s => newSlice mu (decide (de.size = 1)) H 1 (s.toList.map fun b => .int .u8 b.toNat) 1
    | _, _ => .bad

def rangeE (T : Nat → Option TD) (H : Heap) (t : Nat) (p : PV) : R :=
  match T t with
  | none => .bad
  | some d => match d.k, p with
    | .str, .str s => .val true (.ptr H.length 0 0) (H ++ [some (.striter s 0)])
    | .map _ _, .mp i => match H[i]? with
      | some (some (.mapx n _ _)) => .val true (.ptr H.length 0 0) (H ++ [some (.mapit i n [] n)])
      | _ => .bad
    | _, _ => .bad

/-- What an iterator over a map may come to. -/
def NextM (H : Heap) (it m since : Nat) (seen : List Nat) (n : Nat) (bs : List Nat) (es : List (PV × PV)) (v : PV) (H' : Heap) : Prop :=
  (v = .tup [.bool false] ∧ H' = H ∧ ∀ b ∈ bs, b ∈ seen) ∨
  ∃ (j b : Nat) (e : PV × PV), es[j]? = some e ∧ bs[j]? = some b ∧ b ∉ seen ∧ v = .tup [.bool true, e.1, e.2] ∧ H' = H.set it (some (.mapit m since (seen ++ [b]) n))

def nextE (H : Heap) (isStr : Bool) (p : PV) : R :=
  match isStr, p with
  | true, .ptr i 0 0 => match H[i]? with
    | some (some (.striter s pos)) => .br (decide (pos < s.size))
        (.tup [.bool true, .int .i64 pos, .int .i32 (Utf8.decode s pos).1]) (H.set i (some (.striter s (pos + (Utf8.decode s pos).2))))
        (.tup [.bool false]) H
    | _ => .bad
  | false, .ptr i 0 0 => match H[i]? with
    | some (some (.mapit m since seen last)) => match H[m]? with
      | some (some (.mapx n bs es)) => .draw ((bs.all fun b => decide (b < since)) && decide (since ≤ last)) (NextM H i m since seen n bs es)
      | _ => .bad
    | _ => .bad
  | _, _ => .bad

def appendable : TK → Bool
  | .slice _ => true
  | .str => true
  | _ => false

def appendE (T : Nat → Option TD) (mu : Bool) (H : Heap) (t u : Nat) (s x : PV) : R :=
  match elemTy T t, T u with
  | some (_, de), some du => match elemsOf H de x with
    | none => .bad
    | some (c, xs) => match s with
      | .nils => newSlice mu (c && (appendable du.k && (decide (xs.length * de.bytes ≤ most) && decide (xs.length ≤ most)))) H de.size xs
      | .empt => newSlice mu (c && (appendable du.k && (decide (xs.length * de.bytes ≤ most) && decide (xs.length ≤ most)))) H de.size xs
      | .buf i ver off len m true => match obj H i ver with
        | some cs => .val (c && (appendable du.k && (decide (de.size = m) && (decide (off = 0) && (decide (len * m = cs.length) && (decide ((len + xs.length) * de.bytes ≤ most) && decide (len + xs.length ≤ most)))))))
            (.buf i (ver + 1) 0 (len + xs.length) m true) (H.set i (some (.cells (ver + 1) (cs ++ flat xs))))
        | none => .bad
      | _ => .bad
  | _, _ => .bad

def copyE (T : Nat → Option TD) (H : Heap) (t : Nat) (d x : PV) : R :=
  match elemTy T t, d with
  | some (_, de), .buf i ver off len m _ => match elemsOf H de x, obj H i ver with
    | some (c, xs), some cs => .val (c && (decide (de.size = m) && (decide (off + len * m ≤ cs.length) && (xs.all fun x => decide (x.cells.length = m) && x.cells.all PV.one))))
        (.int .i64 (min xs.length len : Nat)) (H.set i (some (.cells ver (cs.take off ++ flat (xs.take (min xs.length len)) ++ cs.drop (off + min xs.length len * m)))))
    | _, _ => .bad
  | _, _ => .bad

def clearE (T : Nat → Option TD) (H : Heap) (t : Nat) (x : PV) : R :=
  match elemTy T t, x with
  | some (_, de), .buf i ver off len m _ => match obj H i ver with
    | some cs => .val (decide (de.size = m) && (decide (de.zero.cells.length = m) && (decide (0 < m) && (decide (off + len * m ≤ cs.length) && de.zero.cells.all PV.one))))
        (.tup []) (H.set i (some (.cells ver (cs.take off ++ flat (List.replicate len de.zero) ++ cs.drop (off + len * m)))))
    | none => .bad
  | _, _ => .bad

def makeSliceE (T : Nat → Option TD) (mu : Bool) (H : Heap) (t : Nat) (l c : PV) : R :=
  match elemTy T t, l, c with
  | some (_, de), .int _ n, .int _ n' => newSlice mu (decide (n = n') && (decide (0 ≤ n) && (decide (n.toNat * de.bytes ≤ most) && (decide (n.toNat ≤ most) && (de.zero.cells.all PV.one && (decide (0 < de.size) && decide (de.zero.cells.length = de.size)))))))
      H de.size (List.replicate n.toNat de.zero)
  | _, _, _ => .bad

def callE (f : PV) (args : List PV) : R :=
  match f with
  | .func (.func n) a b => .call n (a ++ args ++ b)
  | .yld i => .ycall i args
  | _ => .bad

def makeMapE (H : Heap) : R := .val true (.mp H.length) (H ++ [some (.map [])])
noncomputable def putE (T : Nat → Option TD) (H : Heap) (t : Nat) (x k v : PV) : R :=
  match mapTy T t, x with
  | some (dk, _), .mp i => match H[i]? with
    | some (some (.map es)) => .val (isKeyP dk k && keysB dk es) .any (H.set i (some (.map (putM k v es))))
    | _ => .bad
  | _, _ => .bad

/-- The births without a key's. -/
noncomputable def delB (p : PV) (bs : List Nat) (es : List (PV × PV)) : List Nat := match findP p es 0 with
  | some (j, _) => bs.eraseIdx j
  | none => bs
noncomputable def delE (T : Nat → Option TD) (H : Heap) (t : Nat) (x k : PV) : R :=
  match mapTy T t, x with
  | some (dk, _), .mp i => match H[i]? with
    | some (some (.map es)) => .val (isKeyP dk k && keysB dk es) (.tup []) (H.set i (some (.map (delM k es))))
    | some (some (.mapx n bs es)) => .val (isKeyP dk k && keysB dk es) (.tup []) (H.set i (some (.mapx n (delB k bs es) (delM k es))))
    | _ => .bad
  | _, _ => .bad

noncomputable def effOp (T : Nat → Option TD) (mu : Bool) (g : Operand → PV) (H : Heap) : Op → R
  | .store t a x => storeE T H t (g a) (g x)
  | .box _ x => boxE H (g x)
  | .alloc t => match T t with
    | some d => boxE H d.zero
    | none => .bad
  | .buildSlice t n parts => buildSliceE T mu H t n (parts.toList.map fun p => (p.1, g p.2))
  | .convert _ dst x => bytesE T mu H dst (g x)
  | .range t x => rangeE T H t (g x)
  | .makeSlice t l c => makeSliceE T mu H t (g l) (g c)
  | .next it isStr => nextE H isStr (g it)
  | .makeMap _ none => makeMapE H
  | .mapUpdate t m k v => putE T H t (g m) (g k) (g v)
  | .insert t m k v => putE T H t (g m) (g k) (g v)
  | .call c => match c.callee with
    | .value f => callE (g f) (c.args.toList.map g)
    | .builtin .append => match c.argTypes.toList, c.args.toList.map g with
      | [t, u], [s, x] => appendE T mu H t u s x
      | _, _ => .bad
    | .builtin .copy => match c.argTypes.toList, c.args.toList.map g with
      | t :: _, [d, x] => copyE T H t d x
      | _, _ => .bad
    | .builtin .delete => match c.argTypes.toList, c.args.toList.map g with
      | t :: _, [x, k] => delE T H t x k
      | _, _ => .bad
    | .builtin .clear => match c.argTypes.toList, c.args.toList.map g with
      | t :: _, [x] => clearE T H t x
      | _, _ => .bad
    | _ => .bad
  | _ => .bad

noncomputable def aop (T : Nat → Option TD) (mu : Bool) (g : Operand → PV) (H : Heap) (o : Op) : R :=
  match pureOp T g o with
  | some (b, v) => .val b v H
  | none => match readOp T g H o with
    | some (b, v) => .val b v H
    | none => effOp T mu g H o

/-- Items that wait: code, a block's end, a loop's next round, operations in their row, operations of a region whose order is drawn (by their numbers, in an order that will do). -/
inductive It where
  | code (c : Code)
  | blk (id : Nat)
  | loop (c : Code)
  | ops (all rest : List Oper)
  | op (all : List Oper) (o : Oper) (rest : List Oper)
  | dr (all : List Oper) (l : List Nat)
  | dop (all : List Oper) (i : Nat) (o : Oper) (l : List Nat)
  | dq (all : List Oper) (i : Nat) (rest : List Oper)
  | dqop (all : List Oper) (i : Nat) (o : Oper) (rest : List Oper)
  | dqp (p : Nat) (all : List Oper) (i : Nat) (rest : List Oper)
  | dqpop (p : Nat) (all : List Oper) (i : Nat) (o : Oper) (rest : List Oper)
  | dqs (p : Nat) (all : List Oper) (i : Nat) (rest : List Oper) (fills : List (Option (List PV)))
  | dqsop (p : Nat) (all : List Oper) (i : Nat) (o : Oper) (rest : List Oper) (fills : List (Option (List PV)))

inductive AEx where
  | normal
  | exit (id : Nat)
  | ret

inductive Ev where
  | need (b : Bool) (e : Ev)
  | call (f : Nat) (args : List PV) (dst : Option Nat) (its : List It) (σ : Env) (H : Heap)
  | ycall (i : Nat) (args : List PV) (dst : Option Nat) (its : List It) (σ : Env) (H : Heap)
  | callq (f : Nat) (args : List PV) (dst : Option Nat) (its : List It) (σ : Env) (H : Heap)
  | callqs (f : Nat) (args : List PV) (dst : Option Nat) (its : List It) (σ : Env) (H : Heap)
  | loop (c : Code) (its : List It) (σ : Env) (H : Heap)
  | done (x : AEx) (σ : Env) (H : Heap)
  | more (its : List It) (σ : Env) (H : Heap)
  | draw (Q : PV → Heap → Prop) (dst : Option Nat) (its : List It) (σ : Env)
  | stuck

def upd (σ : Env) (d : Option Nat) (v : PV) : Env :=
  match d with
  | none => σ
  | some t => σ.set t v

def toBlk (id : Nat) : List It → Option (List It)
  | [] => none
  | .blk i :: k => if i = id then some k else toBlk id k
  | _ :: k => toBlk id k

def guardOf (all : List Oper) (o : Oper) : Option (Option Nat × Bool) :=
  match o.guard with
  | none => none
  | some (j, want) => some ((all[j]?).bind (·.dst), want)

/-- A new variable's cells. -/
def cellsNew : PV → Option (Bool × List PV)
  | .any => none
  | p => some (p.cells.all PV.one, p.cells)
def newCs (T : Nat → Option TD) (g : Operand → PV) : Op → Option (Bool × List PV)
  | .box _ x => cellsNew (g x)
  | .alloc t => match T t with
    | some d => cellsNew d.zero
    | none => none
  | _ => none
/-- The object that a region's operation has made. -/
def slotO : Option (List PV) → Option OB
  | some cs => some (.cells 1 cs)
  | none => none

/-- An operation that stores what a statement has come to. -/
def isSet : Op → Bool
  | .assign _ => true
  | .store _ _ _ => true
  | _ => false
def idxs : Nat → List Oper → List Nat
  | _, [] => []
  | i, _ :: l => i :: idxs (i + 1) l

open Classical in
/-- Goes on till something is to be known: a test, a condition, a call, a loop, the end. 'ord': for each region whose order is drawn, an order. -/
noncomputable def eval (T : Nat → Option TD) (mu : Nat → Bool) (ord : Nat → List Nat) : Nat → List It → Env → Heap → Ev
  | 0, its, σ, H => .more its σ H
  | _ + 1, [], σ, H => .done .normal σ H
  | n + 1, .blk _ :: k, σ, H => eval T mu ord n k σ H
  | _ + 1, .loop c :: k, σ, H => .loop c k σ H
  | n + 1, .ops _ [] :: k, σ, H => eval T mu ord n k σ H
  | n + 1, .ops all (o :: rest) :: k, σ, H => match guardOf all o with
    | none => eval T mu ord n (.op all o rest :: k) σ H
    | some (some t, want) => match σ.getD t .any with
      | .bool b => if b = want then eval T mu ord n (.op all o rest :: k) (σ.set t (.bool want)) H
        else eval T mu ord n (.ops all rest :: k) (upd (σ.set t (.bool !want)) o.dst (.tup [])) H
      | .tup [] => eval T mu ord n (.ops all rest :: k) (upd σ o.dst (.tup [])) H
      | _ => .stuck
    | some (none, _) => .stuck
  | n + 1, .op all o rest :: k, σ, H => match aop T ((o.dst.map mu).getD false) (opn σ) H o.op with
    | .val b v H' => .need b (eval T mu ord n (.ops all rest :: k) (upd σ o.dst v) H')
    | .br c v1 H1 v2 H2 => if c = true then eval T mu ord n (.ops all rest :: k) (upd σ o.dst v1) H1 else eval T mu ord n (.ops all rest :: k) (upd σ o.dst v2) H2
    | .call f l => .call f l o.dst (.ops all rest :: k) σ H
    | .draw c Q => .need c (.draw Q o.dst (.ops all rest :: k) σ)
    | .ycall i l => .ycall i l o.dst (.ops all rest :: k) σ H
    | .bad => .stuck
  | n + 1, .dr _ [] :: k, σ, H => eval T mu ord n k σ H
  | n + 1, .dr all (i :: l) :: k, σ, H => match all[i]? with
    | none => .more (.dr all (i :: l) :: k) σ H
    | some o => match guardOf all o with
      | none => eval T mu ord n (.dop all i o l :: k) σ H
      | some (some t, want) => match σ.getD t .any with
        | .bool b => if b = want then eval T mu ord n (.dop all i o l :: k) (σ.set t (.bool want)) H
          else eval T mu ord n (.dr all l :: k) (upd (σ.set t (.bool !want)) o.dst (.tup [])) H
        | .tup [] => eval T mu ord n (.dr all l :: k) (upd σ o.dst (.tup [])) H
        | _ => .stuck
      | some (none, _) => .stuck
  | n + 1, .dop all _ o l :: k, σ, H => match aop T ((o.dst.map mu).getD false) (opn σ) H o.op with
    | .val b v H' => .need b (eval T mu ord n (.dr all l :: k) (upd σ o.dst v) H')
    | .br c v1 H1 v2 H2 => if c = true then eval T mu ord n (.dr all l :: k) (upd σ o.dst v1) H1 else eval T mu ord n (.dr all l :: k) (upd σ o.dst v2) H2
    | .call f as_ => .call f as_ o.dst (.dr all l :: k) σ H
    | .draw c Q => .need c (.draw Q o.dst (.dr all l :: k) σ)
    | .ycall _ _ => .stuck
    | .bad => .stuck
  | n + 1, .dq _ _ [] :: k, σ, H => eval T mu ord n k σ H
  | n + 1, .dq all i (o :: rest) :: k, σ, H => if isSet o.op = true then eval T mu ord n (.dr all (idxs i (o :: rest)) :: k) σ H else match guardOf all o with
    | none => eval T mu ord n (.dqop all i o rest :: k) σ H
    | some (some t, want) => match σ.getD t .any with
      | .bool b => if b = want then eval T mu ord n (.dqop all i o rest :: k) (σ.set t (.bool want)) H
        else eval T mu ord n (.dq all (i + 1) rest :: k) (upd (σ.set t (.bool !want)) o.dst (.tup [])) H
      | .tup [] => eval T mu ord n (.dq all (i + 1) rest :: k) (upd σ o.dst (.tup [])) H
      | _ => .stuck
    | some (none, _) => .stuck
  | n + 1, .dqop all i o rest :: k, σ, H => match pureOp T (opn σ) o.op with
    | some (b, v) => .need b (eval T mu ord n (.dq all (i + 1) rest :: k) (upd σ o.dst v) H)
    | none => match readOp T (opn σ) H o.op with
      | some (b, v) => .need b (eval T mu ord n (.dq all (i + 1) rest :: k) (upd σ o.dst v) H)
      | none => match effOp T false (opn σ) H o.op with
        | .call f as_ => .callq f as_ o.dst (.dq all (i + 1) rest :: k) σ H
        | .val b v H' => if H' = H then .need b (eval T mu ord n (.dq all (i + 1) rest :: k) (upd σ o.dst v) H) else .stuck
        | _ => .stuck
  | n + 1, .dqp _ _ _ [] :: k, σ, H => eval T mu ord n k σ H
  | n + 1, .dqp p all i (o :: rest) :: k, σ, H => if i = p then eval T mu ord n (.dr all (idxs i (o :: rest)) :: k) σ H else match guardOf all o with
    | none => eval T mu ord n (.dqpop p all i o rest :: k) σ H
    | some (some t, want) => match σ.getD t .any with
      | .bool b => if b = want then eval T mu ord n (.dqpop p all i o rest :: k) (σ.set t (.bool want)) H
        else eval T mu ord n (.dqp p all (i + 1) rest :: k) (upd (σ.set t (.bool !want)) o.dst (.tup [])) H
      | .tup [] => eval T mu ord n (.dqp p all (i + 1) rest :: k) (upd σ o.dst (.tup [])) H
      | _ => .stuck
    | some (none, _) => .stuck
  | n + 1, .dqpop p all i o rest :: k, σ, H => match pureOp T (opn σ) o.op with
    | some (b, v) => .need b (eval T mu ord n (.dqp p all (i + 1) rest :: k) (upd σ o.dst v) H)
    | none => match readOp T (opn σ) H o.op with
      | some (b, v) => .need b (eval T mu ord n (.dqp p all (i + 1) rest :: k) (upd σ o.dst v) H)
      | none => match effOp T false (opn σ) H o.op with
        | .call f as_ => .callq f as_ o.dst (.dqp p all (i + 1) rest :: k) σ H
        | .val b v H' => if H' = H then .need b (eval T mu ord n (.dqp p all (i + 1) rest :: k) (upd σ o.dst v) H) else .stuck
        | _ => .stuck
  | n + 1, .dqs _ _ _ [] fills :: k, σ, H => eval T mu ord n k σ (H ++ fills.map slotO)
  | n + 1, .dqs p all i (o :: rest) fills :: k, σ, H => if i = p then eval T mu ord n (.dr all (idxs i (o :: rest)) :: k) σ (H ++ fills.map slotO) else match guardOf all o with
    | none => eval T mu ord n (.dqsop p all i o rest fills :: k) σ H
    | some (some t, want) => match σ.getD t .any with
      | .bool b => if b = want then eval T mu ord n (.dqsop p all i o rest fills :: k) (σ.set t (.bool want)) H
        else eval T mu ord n (.dqs p all (i + 1) rest (fills ++ [none]) :: k) (upd (σ.set t (.bool !want)) o.dst (.tup [])) H
      | .tup [] => eval T mu ord n (.dqs p all (i + 1) rest (fills ++ [none]) :: k) (upd σ o.dst (.tup [])) H
      | _ => .stuck
    | some (none, _) => .stuck
  | n + 1, .dqsop p all i o rest fills :: k, σ, H => match pureOp T (opn σ) o.op with
    | some (b, v) => .need b (eval T mu ord n (.dqs p all (i + 1) rest (fills ++ [none]) :: k) (upd σ o.dst v) H)
    | none => match readOp T (opn σ) H o.op with
      | some (b, v) => .need b (eval T mu ord n (.dqs p all (i + 1) rest (fills ++ [none]) :: k) (upd σ o.dst v) H)
      | none => match newCs T (opn σ) o.op with
        | some (b, cs) => .need b (eval T mu ord n (.dqs p all (i + 1) rest (fills ++ [some cs]) :: k) (upd σ o.dst (.ptr (H.length + i) 1 0)) H)
        | none => match effOp T false (opn σ) H o.op with
          | .call f as_ => .callqs f as_ o.dst (.dqs p all (i + 1) rest (fills ++ [none]) :: k) σ H
          | _ => .stuck
  | n + 1, .code .skip :: k, σ, H => eval T mu ord n k σ H
  | n + 1, .code (.seq a b) :: k, σ, H => eval T mu ord n (.code a :: .code b :: k) σ H
  | n + 1, .code (.region _ ops false) :: k, σ, H => eval T mu ord n (.ops ops.toList ops.toList :: k) σ H
  | n + 1, .code (.region id ops true) :: k, σ, H => match ord id with
    | [] => eval T mu ord n (.dq ops.toList 0 ops.toList :: k) σ H
    | i :: l => if 2000 ≤ i then eval T mu ord n (.dqs (i - 2000) ops.toList 0 ops.toList [] :: k) σ H else if 1000 ≤ i then eval T mu ord n (.dqp (i - 1000) ops.toList 0 ops.toList :: k) σ H else eval T mu ord n (.dr ops.toList (i :: l) :: k) σ H
  | n + 1, .code (.cond c a b) :: k, σ, H => match opn σ c with
    | .bool t => if t = true then eval T mu ord n (.code a :: k) σ H else eval T mu ord n (.code b :: k) σ H
    | _ => .stuck
  | n + 1, .code (.block id c) :: k, σ, H => eval T mu ord n (.code c :: .blk id :: k) σ H
  | _ + 1, .code (.loop c) :: k, σ, H => .loop c k σ H
  | n + 1, .code (.exit id) :: k, σ, H => match toBlk id k with
    | some k' => eval T mu ord n k' σ H
    | none => .done (.exit id) σ H
  | _ + 1, .code .ret :: _, σ, H => .done .ret σ H
  | n + 1, .code (.label _) :: k, σ, H => eval T mu ord n k σ H
  | n + 1, .code (.scope c) :: k, σ, H => eval T mu ord n (.code c :: k) σ H
  | _ + 1, _ :: _, _, _ => .stuck

def slots (n : Nat) (args : List PV) : Env := args ++ List.replicate (n - args.length) .any

end Go.Proofs.SL

/-
  SL: operations that hang on their operands alone are sound. No claim by itself.
-/
namespace Go.Proofs.SL
open Go
set_option linter.unusedSimpArgs false
set_option linter.unusedVariables false

def kOk : TypeDesc → TK → Prop
  | .int k, .int k' => k = k'
  | .bool, .bool => True
  | .string, .str => True
  | .pointer e, .ptr e' => e = e'
  | .slice e, .slice e' => e = e'
  | .array n e, .arr n' e' => n = n' ∧ e = e'
  | .struct fs, .struct l => l = fs.toList.map fun f => (f.offset, f.type)
  | .map a b, .map c d => a = c ∧ b = d
  | .interface _, .iface => True
  | .func _ _ _, .func => True
  | _, .other => True
  | _, _ => False

def aggOf : TypeDesc → Bool
  | .struct _ | .array _ _ => true
  | _ => false

def ifaceOf : TypeDesc → Bool
  | .interface _ => true
  | _ => false

structure TdOk (P : Program) (t : Nat) (d : TD) : Prop where
  und : ∃ u, P.underlying t = some u ∧ kOk u d.k ∧ d.agg = aggOf u ∧ (d.k = .other → ifaceOf u = false)
  info : ∃ i z, P.info? t = some i ∧ i.size = d.size ∧ i.bytes = d.bytes ∧ i.zero = some z ∧ d.zero = ofValue z ∧ z.cells.size = d.size
  tags : ∀ l, d.tags = some l → P.eqGuardType P.depth t = false ∧ tagsOf P 12 t = some l

def TOk (P : Program) (T : Nat → Option TD) : Prop := ∀ t d, T t = some d → TdOk P t d

section inv
variable {β : Nat → Option Nat} {H : Heap} {w : World} {v : Value}
theorem V.bool_inv {b : Bool} (h : V β H w v (.bool b)) : v = .bool b := by cases h; rfl
theorem V.int_inv {k : IntKind} {n : Int} (h : V β H w v (.int k n)) : v = .int k n := by cases h; rfl
theorem V.str_inv {s : ByteArray} (h : V β H w v (.str s)) : v = .string s := by cases h; rfl
theorem V.agg_inv {ps : List PV} (h : V β H w v (.agg ps)) : ∃ vs : Array Value, v = .agg vs ∧ vs.size = ps.length ∧ ∀ (i : Nat) (x : Value) (p : PV), vs[i]? = some x → ps[i]? = some p → V β H w x p := by
  cases h with | agg vs _ hs h => exact ⟨vs, rfl, hs, h⟩
theorem V.tup_inv {ps : List PV} (h : V β H w v (.tup ps)) : ∃ vs : Array Value, v = .tuple vs ∧ vs.size = ps.length ∧ ∀ (i : Nat) (x : Value) (p : PV), vs[i]? = some x → ps[i]? = some p → V β H w x p := by
  cases h with | tup vs _ hs h => exact ⟨vs, rfl, hs, h⟩
theorem V.nils_inv (h : V β H w v .nils) : v = .slice none 0 0 := by cases h; rfl
theorem V.empt_inv (h : V β H w v .empt) : ∃ a, v = .slice a 0 0 := by cases h; exact ⟨_, rfl⟩
theorem V.nilp_inv (h : V β H w v .nilp) : v = .pointer none := by cases h; rfl
theorem V.nilf_inv (h : V β H w v .nilf) : v = .nilFunc := by cases h; rfl
theorem V.nili_inv (h : V β H w v .nili) : v = .nilIface := by cases h; rfl
theorem V.func_inv {fn : Fn} {ps qs : List PV} (h : V β H w v (.func fn ps qs)) : ∃ vs ws : Array Value, v = .func fn vs ws ∧ vs.size = ps.length ∧ ws.size = qs.length ∧
    (∀ (i : Nat) (x : Value) (p : PV), vs[i]? = some x → ps[i]? = some p → V β H w x p) ∧ (∀ (i : Nat) (x : Value) (p : PV), ws[i]? = some x → qs[i]? = some p → V β H w x p) := by
  cases h with | func _ vs ws _ _ hs hs' h h' => exact ⟨vs, ws, rfl, hs, hs', h, h'⟩
theorem V.sl_inv {m : Nat} {xs : List PV} (h : V β H w v (.sl m xs)) : ∃ a cap, v = .slice a xs.length cap ∧ xs.length ≤ cap ∧ (xs ≠ [] → ∃ b off, a = some ⟨b, off, none⟩ ∧ Imm β H w b ∧ (∀ x ∈ xs, x.cells.length = m) ∧
    ∃ f : Nat → Value, (∀ k, k < (flat xs).length → w.cell? ⟨b, off + k, none⟩ = some (f k)) ∧ (∀ (k : Nat) (p : PV), (flat xs)[k]? = some p → V β H w (f k) p) ∧ ∀ k, k < (flat xs).length → (f k).oneCell' = true) := by
  cases h with
  | sl0 a c => exact ⟨a, c, rfl, Nat.zero_le _, fun h => absurd rfl h⟩
  | sl b off cap _ _ f hb hm hc h1 h2 h3 => exact ⟨_, cap, rfl, hc, fun _ => ⟨b, off, rfl, hb, hm, f, h1, h2, h3⟩⟩
end inv

theorem V.ofScalar (β : Nat → Option Nat) (H : Heap) (w : World) (v : Value) : V β H w v (SL.ofScalar v) := by
  unfold SL.ofScalar
  split <;> constructor

theorem V.ofValue (β : Nat → Option Nat) (H : Heap) (w : World) (v : Value) : V β H w v (SL.ofValue v) := by
  unfold SL.ofValue
  split
  · rename_i cs
    refine .agg _ _ (by simp) fun i x p hx hp => ?_
    simp only [List.getElem?_map, Array.getElem?_toList, hx, Option.map_some, Option.some.injEq] at hp
    subst hp
    exact V.ofScalar ..
  · exact V.ofScalar ..

/-- The deferred calls of an activation: marks of ranges over functions, each of a block laid since the activation began. -/
structure Marks (n : Nat) (β : Nat → Option Nat) (H : Heap) (w : World) (ds : List Deferred) : Prop where
  at_ : ∀ d ∈ ds, ∃ D, d = { target := .collected D, args := #[] } ∧ n ≤ D ∧ Imm β H w D ∧ w.heap[D]? = some (.deferred (some []))
  ne : ds.Pairwise (· ≠ ·)
theorem Marks.nil {n : Nat} {β : Nat → Option Nat} {H : Heap} {w : World} : Marks n β H w [] := ⟨fun d hd => (by cases hd), .nil⟩
theorem Marks.mono {n : Nat} {β β' : Nat → Option Nat} {H H' : Heap} {w w' : World} {ds : List Deferred} (e : Ext β H w β' H' w') (h : Marks n β H w ds) : Marks n β' H' w' ds := ⟨fun d hd => by
  obtain ⟨D, h1, h2, h3, h4⟩ := h.at_ d hd
  exact ⟨D, h1, h2, (e.imm D h3).2, (e.imm D h3).1.trans h4⟩, h.ne⟩

/-- The frame's temporaries are what the environment says. -/
structure FR (n : Nat) (β : Nat → Option Nat) (H : Heap) (w : World) (a : Act) (σ : Env) : Prop where
  size : a.tmps.size = σ.length
  v : ∀ t p, σ[t]? = some p → V β H w (a.tmps.getD t undef) p
  defers : Marks n β H w a.defers

theorem FR.mono {n : Nat} {β β' : Nat → Option Nat} {H H' : Heap} {w w' : World} {a : Act} {σ : Env} (e : Ext β H w β' H' w') (h : FR n β H w a σ) : FR n β' H' w' a σ :=
  ⟨h.size, fun t p hp => (h.v t p hp).mono e, h.defers.mono e⟩

theorem FR.opn {n : Nat} {β : Nat → Option Nat} {H : Heap} {w : World} {a : Act} {σ : Env} (h : FR n β H w a σ) (x : Operand) : V β H w (a.eval x) (SL.opn σ x) := by
  cases x with
  | tmp t =>
    simp only [SL.opn, Act.eval]
    cases hp : σ[t]? with
    | none => simp only [List.getD, hp, Option.getD_none]; exact .any _
    | some p => simp only [List.getD, hp, Option.getD_some]; exact h.v t p hp
  | const v => exact V.ofValue ..
  | global g => exact .any _
  | func f => exact .func _ _ _ _ _ rfl rfl (by simp) (by simp)

theorem FR.put {n : Nat} {β : Nat → Option Nat} {H : Heap} {w : World} {a : Act} {σ : Env} (h : FR n β H w a σ) (d : Option Tmp) {v : Value} {p : PV} (hv : V β H w v p) :
    FR n β H w (a.put d v) (upd σ d p) := by
  cases d with
  | none => exact h
  | some t =>
    refine ⟨by simp [Act.put, upd, h.size], fun t' p' hp => ?_, h.defers⟩
    simp only [upd] at hp
    by_cases e : t = t'
    · subst e
      have hlt : t < σ.length := by
        rcases Nat.lt_or_ge t σ.length with h | h
        · exact h
        · rw [List.getElem?_eq_none (by simp; omega)] at hp; cases hp
      rw [List.getElem?_set_self hlt] at hp
      cases hp
      simp [Act.put, h.size, hlt]
      exact hv
    · rw [List.getElem?_set_ne e] at hp
      have := h.v t' p' hp
      simpa [Act.put, Array.getElem?_setIfInBounds_ne e, Array.getD_eq_getD_getElem?] using this

section ops
variable {P : Program} {T : Nat → Option TD} {β : Nat → Option Nat} {H : Heap} {w : World}

theorem intBin_ok (op : BinOp) (t : Nat) (k : IntKind) (a b : Int) (yk : IntKind) (hk : op ≠ .shl → op ≠ .shr → k = yk) {c : Bool} {v : PV} (h : intBin op k a b = (c, v)) (hc : c = true) :
    ∃ x, (∀ w2, (Go.binOp op t (.int k a) (.int yk b)).run P w2 = .ok x w2) ∧ V β H w x v := by
  cases op <;> simp only [intBin, Prod.mk.injEq] at h <;> obtain ⟨rfl, rfl⟩ := h
  case shl => exact ⟨_, fun w2 => by simp only [Go.binOp, Op.shift]; rw [if_neg (by simpa using hc)]; rfl, .int ..⟩
  case shr => exact ⟨_, fun w2 => by simp only [Go.binOp, Op.shift]; rw [if_neg (by simpa using hc)]; rfl, .int ..⟩
  all_goals (obtain rfl := hk (by simp) (by simp))
  case quo => exact ⟨_, fun w2 => by simp only [Go.binOp, Op.intDiv, ne_eq, not_true_eq_false, if_false]; rw [if_neg (by simpa using hc)]; rfl, .int ..⟩
  case rem => exact ⟨_, fun w2 => by simp only [Go.binOp, Op.intDiv, ne_eq, not_true_eq_false, if_false]; rw [if_neg (by simpa using hc)]; rfl, .int ..⟩
  case eql => exact ⟨_, fun w2 => by simp only [Go.binOp, Op.intCmp, ne_eq, not_true_eq_false, if_false]; rfl, by rw [show (a == b) = decide (a = b) from rfl]; exact .bool _⟩
  case neq => exact ⟨_, fun w2 => by simp only [Go.binOp, Op.intCmp, ne_eq, not_true_eq_false, if_false]; rfl, by rw [show (a != b) = !decide (a = b) from rfl]; exact .bool _⟩
  all_goals exact ⟨_, fun w2 => by simp only [Go.binOp, Op.intArith, Op.intBits, Op.intCmp, ne_eq, not_true_eq_false, if_false]; rfl, by first | exact .int .. | exact .bool _⟩

theorem toList_beq (a b : ByteArray) : (a.toList == b.toList) = decide (a = b) := by
  have key : a.toList = b.toList ↔ a = b := by
    constructor
    · intro h
      have : a.data = b.data := by
        have e1 : a.toList = a.data.toList := by simp [ByteArray.toList_eq]
        have e2 : b.toList = b.data.toList := by simp [ByteArray.toList_eq]
        rw [e1, e2] at h
        exact Array.toList_inj.mp h
      cases a; cases b; simpa using this
    · rintro rfl; rfl
  by_cases h : a = b
  · subst h; simp
  · have h' : ¬ a.toList = b.toList := fun e => h (key.mp e)
    simp [h, h']

theorem strBin_ok (op : BinOp) (t : Nat) (a b : ByteArray) {c : Bool} {v : PV} (h : strBin op a b = (c, v)) (hc : c = true) :
    ∃ x, (∀ w2, (Go.binOp op t (.string a) (.string b)).run P w2 = .ok x w2) ∧ V β H w x v := by
  cases op <;> simp only [strBin, Prod.mk.injEq] at h <;> obtain ⟨rfl, rfl⟩ := h
  case add =>
    refine ⟨_, fun w2 => by
      simp only [Go.binOp, Op.stringOp]
      rw [if_neg (by
        have := of_decide_eq_true hc
        simp only [IntKind.max, IntKind.signed, IntKind.bits]
        omega)]
      rfl, .str _⟩
  all_goals first
    | (cases hc; done)
    | exact ⟨_, fun w2 => by simp only [Go.binOp, Op.stringOp]; rfl, by simp only [slt, toList_beq]; exact .bool _⟩

theorem run_equal {t : Nat} {d : TD} (hT : TdOk P t d) {x y : Value} {p q : PV} (hx : V β H w x p) (hy : V β H w y q) {c : Bool} {v : PV} (h : eqBin d.k p q = (c, v)) (hc : c = true) :
    ∃ b, (∀ w2, (Op.equal t x y).run P w2 = .ok b w2) ∧ v = .bool b := by
  obtain ⟨u, hu, hk, _, _⟩ := hT.und
  have hund := run_underlying hu
  obtain ⟨dd, hd⟩ : ∃ dd, Op.maxDepth = dd + 1 := ⟨9999, rfl⟩
  subst hc
  unfold eqBin at h
  split at h
  · rename_i a b hk'
    simp only [Prod.mk.injEq, true_and] at h
    subst h
    obtain rfl := hx.bool_inv
    obtain rfl := hy.bool_inv
    rw [hk'] at hk
    cases u <;> simp only [kOk] at hk
    exact ⟨_, fun w2 => by unfold Op.equal; rw [hd]; simp only [Op.equalIn, Sem.run_bind, hund, Result.andThen_ok]; rfl, rfl⟩
  · rename_i e hk'
    simp only [Prod.mk.injEq, true_and] at h
    subst h
    obtain rfl := hx.nils_inv
    obtain rfl := hy.nils_inv
    rw [hk'] at hk
    cases u <;> simp only [kOk] at hk
    exact ⟨_, fun w2 => by unfold Op.equal; rw [hd]; simp only [Op.equalIn, Sem.run_bind, hund, Result.andThen_ok]; rfl, rfl⟩
  · rename_i e m xs hk'
    simp only [Prod.mk.injEq] at h
    obtain ⟨hc, rfl⟩ := h
    obtain rfl := hx.nils_inv
    obtain ⟨a, cap, rfl, _, hsl⟩ := hy.sl_inv
    have hne : xs ≠ [] := by rintro rfl; simp at hc
    obtain ⟨b, off, rfl, _⟩ := hsl hne
    rw [hk'] at hk
    cases u <;> simp only [kOk] at hk
    exact ⟨_, fun w2 => by unfold Op.equal; rw [hd]; simp only [Op.equalIn, Sem.run_bind, hund, Result.andThen_ok]; rfl, rfl⟩
  · rename_i e m xs hk'
    simp only [Prod.mk.injEq] at h
    obtain ⟨hc, rfl⟩ := h
    obtain rfl := hy.nils_inv
    obtain ⟨a, cap, rfl, _, hsl⟩ := hx.sl_inv
    have hne : xs ≠ [] := by rintro rfl; simp at hc
    obtain ⟨b, off, rfl, _⟩ := hsl hne
    rw [hk'] at hk
    cases u <;> simp only [kOk] at hk
    exact ⟨_, fun w2 => by unfold Op.equal; rw [hd]; simp only [Op.equalIn, Sem.run_bind, hund, Result.andThen_ok]; rfl, rfl⟩
  · rename_i e i ver off n m tip hk'
    simp only [Prod.mk.injEq] at h
    obtain ⟨hc, rfl⟩ := h
    obtain rfl := hx.nils_inv
    obtain ⟨a, cap, rfl, ha⟩ : ∃ a cap, y = .slice a n cap ∧ (n ≠ 0 → ∃ b, a = some ⟨b, off, none⟩) := by
      cases hy with | buf a cap _ _ _ _ _ _ _ ha _ _ => exact ⟨a, cap, rfl, ha⟩
    obtain ⟨b, rfl⟩ := ha (by simpa using hc)
    rw [hk'] at hk
    cases u <;> simp only [kOk] at hk
    exact ⟨_, fun w2 => by unfold Op.equal; rw [hd]; simp only [Op.equalIn, Sem.run_bind, hund, Result.andThen_ok]; rfl, rfl⟩
  · rename_i e i ver off n m tip hk'
    simp only [Prod.mk.injEq] at h
    obtain ⟨hc, rfl⟩ := h
    obtain rfl := hy.nils_inv
    obtain ⟨a, cap, rfl, ha⟩ : ∃ a cap, x = .slice a n cap ∧ (n ≠ 0 → ∃ b, a = some ⟨b, off, none⟩) := by
      cases hx with | buf a cap _ _ _ _ _ _ _ ha _ _ => exact ⟨a, cap, rfl, ha⟩
    obtain ⟨b, rfl⟩ := ha (by simpa using hc)
    rw [hk'] at hk
    cases u <;> simp only [kOk] at hk
    exact ⟨_, fun w2 => by unfold Op.equal; rw [hd]; simp only [Op.equalIn, Sem.run_bind, hund, Result.andThen_ok]; rfl, rfl⟩
  · rename_i hk'
    simp only [Prod.mk.injEq, true_and] at h
    subst h
    obtain rfl := hx.nilf_inv
    obtain rfl := hy.nilf_inv
    rw [hk'] at hk
    cases u <;> simp only [kOk] at hk
    exact ⟨_, fun w2 => by unfold Op.equal; rw [hd]; simp only [Op.equalIn, Sem.run_bind, hund, Result.andThen_ok]; rfl, rfl⟩
  · rename_i hk'
    simp only [Prod.mk.injEq, true_and] at h
    subst h
    obtain ⟨vs, ws, rfl, _⟩ := hx.func_inv
    obtain rfl := hy.nilf_inv
    rw [hk'] at hk
    cases u <;> simp only [kOk] at hk
    exact ⟨_, fun w2 => by unfold Op.equal; rw [hd]; simp only [Op.equalIn, Sem.run_bind, hund, Result.andThen_ok]; rfl, rfl⟩
  · rename_i hk'
    simp only [Prod.mk.injEq, true_and] at h
    subst h
    obtain rfl := hx.nilf_inv
    obtain ⟨vs, ws, rfl, _⟩ := hy.func_inv
    rw [hk'] at hk
    cases u <;> simp only [kOk] at hk
    exact ⟨_, fun w2 => by unfold Op.equal; rw [hd]; simp only [Op.equalIn, Sem.run_bind, hund, Result.andThen_ok]; rfl, rfl⟩
  · rename_i e hk'
    simp only [Prod.mk.injEq, true_and] at h
    subst h
    obtain rfl := hx.nilp_inv
    obtain rfl := hy.nilp_inv
    rw [hk'] at hk
    cases u <;> simp only [kOk] at hk
    exact ⟨_, fun w2 => by unfold Op.equal; rw [hd]; simp only [Op.equalIn, Sem.run_bind, hund, Result.andThen_ok]; rfl, rfl⟩
  · rename_i e i ver off hk'
    simp only [Prod.mk.injEq, true_and] at h
    subst h
    obtain rfl := hx.nilp_inv
    obtain ⟨b, rfl⟩ : ∃ b, y = .pointer (some ⟨b, off, none⟩) := by cases hy; exact ⟨_, rfl⟩
    rw [hk'] at hk
    cases u <;> simp only [kOk] at hk
    exact ⟨_, fun w2 => by unfold Op.equal; rw [hd]; simp only [Op.equalIn, Sem.run_bind, hund, Result.andThen_ok]; rfl, rfl⟩
  · rename_i e i ver off hk'
    simp only [Prod.mk.injEq, true_and] at h
    subst h
    obtain rfl := hy.nilp_inv
    obtain ⟨b, rfl⟩ : ∃ b, x = .pointer (some ⟨b, off, none⟩) := by cases hx; exact ⟨_, rfl⟩
    rw [hk'] at hk
    cases u <;> simp only [kOk] at hk
    exact ⟨_, fun w2 => by unfold Op.equal; rw [hd]; simp only [Op.equalIn, Sem.run_bind, hund, Result.andThen_ok]; rfl, rfl⟩
  · rename_i e e' hk'
    simp only [Prod.mk.injEq, true_and] at h
    subst h
    obtain rfl : x = .map none := by cases hx; rfl
    obtain rfl : y = .map none := by cases hy; rfl
    rw [hk'] at hk
    cases u <;> simp only [kOk] at hk
    exact ⟨_, fun w2 => by unfold Op.equal; rw [hd]; simp only [Op.equalIn, Sem.run_bind, hund, Result.andThen_ok]; rfl, rfl⟩
  · rename_i e e' i hk'
    simp only [Prod.mk.injEq, true_and] at h
    subst h
    obtain rfl : x = .map none := by cases hx; rfl
    obtain ⟨b, rfl⟩ : ∃ b, y = .map (some b) := by cases hy; exact ⟨_, rfl⟩
    rw [hk'] at hk
    cases u <;> simp only [kOk] at hk
    exact ⟨_, fun w2 => by unfold Op.equal; rw [hd]; simp only [Op.equalIn, Sem.run_bind, hund, Result.andThen_ok]; rfl, rfl⟩
  · rename_i e e' i hk'
    simp only [Prod.mk.injEq, true_and] at h
    subst h
    obtain rfl : y = .map none := by cases hy; rfl
    obtain ⟨b, rfl⟩ : ∃ b, x = .map (some b) := by cases hx; exact ⟨_, rfl⟩
    rw [hk'] at hk
    cases u <;> simp only [kOk] at hk
    exact ⟨_, fun w2 => by unfold Op.equal; rw [hd]; simp only [Op.equalIn, Sem.run_bind, hund, Result.andThen_ok]; rfl, rfl⟩
  · simp [no] at h

/-- The value that a scalar is. -/
def valP : PV → Value
  | .bool b => .bool b
  | .int k n => .int k n
  | .str s => .string s
  | _ => undef

theorem V.val {v : Value} {p : PV} {g : Tag} (h : V β H w v p) (ht : tagP p = some g) : v = valP p ∧ tagV v = some g := by
  cases h <;> simp only [tagP] at ht <;> first
    | (cases ht; done)
    | exact ⟨rfl, by simpa [tagV] using ht⟩

theorem vals_tags {vs : List Value} {ps : List PV} {l : List Tag} (hs : vs.length = ps.length) (hv : ∀ (i : Nat) (v : Value) (p : PV), vs[i]? = some v → ps[i]? = some p → V β H w v p) (ht : ps.map tagP = l.map some) :
    vs = ps.map valP ∧ vs.map tagV = l.map some := by
  induction ps generalizing vs l with
  | nil =>
    cases vs with
    | nil => cases l with
      | nil => exact ⟨rfl, rfl⟩
      | cons g l => simp at ht
    | cons v vs => simp at hs
  | cons p ps ih =>
    cases vs with
    | nil => simp at hs
    | cons v vs =>
      cases l with
      | nil => simp at ht
      | cons g l =>
        simp only [List.map_cons, List.cons.injEq] at ht
        obtain ⟨h1, h2⟩ := (hv 0 v p rfl rfl).val ht.1
        obtain ⟨h3, h4⟩ := ih (by simpa using hs) (fun i v p h h' => hv (i + 1) v p (by simpa using h) (by simpa using h')) ht.2
        exact ⟨by rw [List.map_cons, ← h1, ← h3], by rw [List.map_cons, List.map_cons, h2, h4]⟩

theorem valP_inj {ps qs : List PV} {l : List Tag} (hp : ps.map tagP = l.map some) (hq : qs.map tagP = l.map some) : ps.map valP = qs.map valP ↔ ps = qs := by
  refine ⟨fun h => ?_, fun h => by rw [h]⟩
  induction ps generalizing qs l with
  | nil => cases qs with
    | nil => rfl
    | cons q qs => simp at h
  | cons p ps ih =>
    cases qs with
    | nil => simp at h
    | cons q qs =>
      cases l with
      | nil => simp at hp
      | cons g l =>
        simp only [List.map_cons, List.cons.injEq] at hp hq h
        rw [ih hp.2 hq.2 h.2]
        congr 1
        have h1 := hp.1
        have h2 := hq.1
        have h3 := h.1
        cases p <;> simp only [tagP] at h1 <;> (try (cases h1; done)) <;> cases q <;> simp only [tagP] at h2 <;> (try (cases h2; done)) <;> simp_all [valP]

theorem run_eqAgg {t : Nat} {d : TD} (hT : TdOk P t d) {x y : Value} {cs ds : List PV} (hx : V β H w x (.agg cs)) (hy : V β H w y (.agg ds)) {c : Bool} {v : PV} (h : eqAgg d cs ds = (c, v)) (hc : c = true) :
    ∃ (vs ws : Array Value) (b : Bool), x = .agg vs ∧ y = .agg ws ∧ P.eqGuardType P.depth t = false ∧ (∀ w2, (Op.equal t x y).run P w2 = .ok b w2) ∧ v = .bool b := by
  unfold eqAgg at h
  split at h
  · rename_i l hl
    simp only [Prod.mk.injEq] at h
    obtain ⟨h1, rfl⟩ := h
    rw [hc] at h1
    simp only [Bool.and_eq_true, decide_eq_true_eq] at h1
    obtain ⟨ha, h2, h3⟩ := h1
    obtain ⟨vs, rfl, s1, v1⟩ := hx.agg_inv
    obtain ⟨ws, rfl, s2, v2⟩ := hy.agg_inv
    obtain ⟨hg, ht⟩ := hT.tags l hl
    obtain ⟨u, hu, _, hua, _⟩ := hT.und
    have sh : ∀ z : Array Value, Shp P t (.agg z) := fun z => by
      unfold Shp
      rw [hu]
      rw [ha] at hua
      cases u <;> simp [aggOf] at hua <;> exact ⟨_, rfl⟩
    obtain ⟨e1, t1⟩ := vals_tags (vs := vs.toList) (ps := cs) (by simpa using s1) (fun i v p h h' => v1 i v p (by simpa using h) h') h2
    obtain ⟨e2, t2⟩ := vals_tags (vs := ws.toList) (ps := ds) (by simpa using s2) (fun i v p h h' => v2 i v p (by simpa using h) h') h3
    have key : ∀ w2, ∃ r : Bool, (Op.equal t (.agg vs) (.agg ws)).run P w2 = .ok r w2 ∧ (r = true ↔ cs = ds) := fun w2 => by
      obtain ⟨r, hr1, hr2⟩ := eq_tag 9988 12 t l ht w2 (.agg vs) (.agg ws) (sh _) (sh _) t1 t2
      refine ⟨r, hr1, hr2.trans ?_⟩
      show vs.toList = ws.toList ↔ _
      rw [e1, e2]
      exact valP_inj h2 h3
    refine ⟨vs, ws, _, rfl, rfl, hg, fun w2 => ?_, rfl⟩
    obtain ⟨r, hr1, hr2⟩ := key w2
    rw [hr1]
    congr 1
    cases r
    · simp only [Bool.false_eq_true, false_iff] at hr2; simp [hr2]
    · simp only [true_iff] at hr2; simp [hr2]
  · simp only [no, Prod.mk.injEq] at h
    rw [← h.1] at hc; cases hc

/-- A value that 'eqBin' takes is no aggregate and no interface. -/
theorem eqBin_plain {k : TK} {p q : PV} {c : Bool} {v : PV} (h : eqBin k p q = (c, v)) (hc : c = true) {x y : Value} (hx : V β H w x p) (hy : V β H w y q) :
    (∀ cs ds, ¬ (x = .agg cs ∧ y = .agg ds)) ∧ ¬ (x = .nilIface ∧ y = .nilIface) ∧ (∀ k a b, ¬ (x = .int k a ∧ ∃ k', y = .int k' b)) := by
  subst hc
  unfold eqBin at h
  split at h <;> first
    | (simp [no] at h; done)
    | (cases hx <;> cases hy <;> (refine ⟨?_, ?_, ?_⟩ <;> simp))

theorem eqGuard_ok (op : BinOp) (t : Nat) (x y : Operand) {a b : Value} (h1 : ∀ cs ds, ¬ (a = .agg cs ∧ b = .agg ds)) (h2 : ¬ (a = .nilIface ∧ b = .nilIface)) :
    ∀ w2, (eqGuard op t x y a b).run P w2 = .ok () w2 := by
  intro w2
  unfold eqGuard
  have key : (match a, b with
      | .nilIface, .nilIface => (if ((match x with | .const _ => true | _ => false) || (match y with | .const _ => true | _ => false)) = true then pure () else do
          if ← Op.eqGuardIn Op.maxDepth t a b then unsupported (.noEntry "binop/eql: two nil values of an interface type with methods, neither of them the literal nil") : Sem Unit)
      | .agg _, .agg _ => do
          if !(← program).eqGuardType (← program).depth t then return
          if ← Op.eqGuardIn Op.maxDepth t a b then unsupported (.noEntry "binop/eql: two nil values of an interface type with methods, in a part of a struct or an array")
      | _, _ => pure ()).run P w2 = .ok () w2 := by
    split
    · exact absurd ⟨rfl, rfl⟩ h2
    · exact absurd ⟨rfl, rfl⟩ (h1 _ _)
    · rfl
  by_cases ho : (!(match op with | .eql | .neq => true | _ => false)) = true
  · cases op <;> first | rfl | simp at ho
  · cases op <;> first | exact key | simp at ho

theorem notB_inv {r : Bool × PV} {c : Bool} {v : PV} (h : notB r = (c, v)) (hc : c = true) : ∃ b, r = (true, .bool b) ∧ v = .bool !b := by
  obtain ⟨rc, rv⟩ := r
  subst hc
  unfold notB at h
  split at h
  · rename_i c' b heq
    cases heq
    simp only [Prod.mk.injEq] at h
    obtain ⟨rfl, rfl⟩ := h
    exact ⟨b, rfl, rfl⟩
  · simp [no] at h

theorem binOp_eql {t : Nat} {x y : Value} (h : ∀ k a b, ¬ (x = .int k a ∧ ∃ k', y = .int k' b)) (h2 : ∀ a b, ¬ (x = .string a ∧ y = .string b))
    (h3 : ∀ k a, x ≠ .float k a) (h4 : ∀ k a b, x ≠ .complex k a b) : Go.binOp .eql t x y = (do pure (.bool (← Op.equal t x y))) ∧ Go.binOp .neq t x y = (do pure (.bool (!(← Op.equal t x y)))) := by
  constructor <;> unfold Go.binOp <;> split <;> first
    | rfl
    | (rename_i e; exact absurd ⟨rfl, _, rfl⟩ (h _ _ _))
    | exact absurd ⟨rfl, rfl⟩ (h2 _ _)
    | exact absurd rfl (h3 _ _)
    | exact absurd rfl (h4 _ _ _)
    | simp_all

theorem eqBin_plain2 {k : TK} {p q : PV} {c : Bool} {v : PV} (h : eqBin k p q = (c, v)) (hc : c = true) {x y : Value} (hx : V β H w x p) (hy : V β H w y q) :
    (∀ a b, ¬ (x = .string a ∧ y = .string b)) ∧ (∀ k a, x ≠ .float k a) ∧ (∀ k a b, x ≠ .complex k a b) := by
  subst hc
  unfold eqBin at h
  split at h <;> first
    | (simp [no] at h; done)
    | (cases hx <;> cases hy <;> (refine ⟨?_, ?_, ?_⟩ <;> simp))

theorem binV_ok (hT : TOk P T) (op : BinOp) (t : Nat) (xo yo : Operand) {x y : Value} {p q : PV} (hx : V β H w x p) (hy : V β H w y q) {c : Bool} {v : PV}
    (h : binV T op t p q = (c, v)) (hc : c = true) :
    ∃ r, (∀ w2, (do eqGuard op t xo yo x y; Go.binOp op t x y : Sem Value).run P w2 = .ok r w2) ∧ V β H w r v := by
  unfold binV at h
  split at h
  · rename_i k a k' b
    obtain rfl := hx.int_inv
    obtain rfl := hy.int_inv
    have key : ∃ r, (∀ w2, (Go.binOp op t (.int k a) (.int k' b)).run P w2 = .ok r w2) ∧ V β H w r v := by
      split at h
      · exact intBin_ok .shl t k a b k' (by simp) h hc
      · exact intBin_ok .shr t k a b k' (by simp) h hc
      · split at h
        · exact intBin_ok op t k a b k' (fun _ _ => by assumption) h hc
        · subst hc; simp [no] at h
    obtain ⟨r, hr, hv⟩ := key
    exact ⟨r, fun w2 => by simp only [Sem.run_bind, eqGuard_ok op t xo yo (a := .int k a) (b := .int k' b) (by simp) (by simp), Result.andThen_ok]; exact hr w2, hv⟩
  · rename_i a b
    obtain rfl := hx.str_inv
    obtain rfl := hy.str_inv
    obtain ⟨r, hr, hv⟩ := strBin_ok (P := P) (β := β) (H := H) (w := w) op t a b h hc
    exact ⟨r, fun w2 => by simp only [Sem.run_bind, eqGuard_ok op t xo yo (a := .string a) (b := .string b) (by simp) (by simp), Result.andThen_ok]; exact hr w2, hv⟩
  · rename_i cs ds
    split at h
    · rename_i d hd
      obtain ⟨vs, ws, b, rfl, rfl, hg, hb, rfl⟩ := run_eqAgg (hT t d hd) hx hy h hc
      refine ⟨_, fun w2 => ?_, .bool b⟩
      simp only [Sem.run_bind, run_eqGuard_agg w2 .eql t xo yo vs ws hg, Result.andThen_ok, (binOp_eql (t := t) (x := .agg vs) (y := .agg ws) (by simp) (by simp) (by simp) (by simp)).1, hb]
      rfl
    · rename_i d hd
      obtain ⟨b', hb', rfl⟩ := notB_inv h hc
      obtain ⟨vs, ws, b, rfl, rfl, hg, hb, e⟩ := run_eqAgg (hT t d hd) hx hy hb' rfl
      cases e
      refine ⟨_, fun w2 => ?_, .bool _⟩
      simp only [Sem.run_bind, run_eqGuard_agg w2 .neq t xo yo vs ws hg, Result.andThen_ok, (binOp_eql (t := t) (x := .agg vs) (y := .agg ws) (by simp) (by simp) (by simp) (by simp)).2, hb]
      rfl
    · subst hc; simp [no] at h
  · split at h
    · rename_i d hd
      obtain ⟨b, hb, rfl⟩ := run_equal (hT t d hd) hx hy h hc
      obtain ⟨h1, h2, h3⟩ := eqBin_plain h hc hx hy
      obtain ⟨h4, h5, h6⟩ := eqBin_plain2 h hc hx hy
      refine ⟨_, fun w2 => ?_, .bool b⟩
      simp only [Sem.run_bind, eqGuard_ok .eql t xo yo h1 h2, Result.andThen_ok, (binOp_eql h3 h4 h5 h6).1, hb]
      rfl
    · rename_i d hd
      obtain ⟨b', hb', rfl⟩ := notB_inv h hc
      obtain ⟨b, hb, e⟩ := run_equal (hT t d hd) hx hy hb' rfl
      cases e
      obtain ⟨h1, h2, h3⟩ := eqBin_plain hb' rfl hx hy
      obtain ⟨h4, h5, h6⟩ := eqBin_plain2 hb' rfl hx hy
      refine ⟨_, fun w2 => ?_, .bool _⟩
      simp only [Sem.run_bind, eqGuard_ok .neq t xo yo h1 h2, Result.andThen_ok, (binOp_eql h3 h4 h5 h6).2, hb]
      rfl
    · subst hc; simp [no] at h

/-- The cells of a value: as many as the abstract one has, and what they are. -/
theorem V.cellsOf {v : Value} {p : PV} (h : V β H w v p) (hp : p ≠ .any) : v.cells.size = p.cells.length ∧ ∀ (i : Nat) (x : Value) (q : PV), v.cells[i]? = some x → p.cells[i]? = some q → V β H w x q := by
  have one : ∀ (v : Value) (p : PV), V β H w v p → v.cells = #[v] → p.cells = [p] → v.cells.size = p.cells.length ∧ ∀ (i : Nat) (x : Value) (q : PV), v.cells[i]? = some x → p.cells[i]? = some q → V β H w x q := by
    intro v p h h1 h2
    rw [h1, h2]
    refine ⟨rfl, fun i x q hx hq => ?_⟩
    cases i with
    | zero => simp at hx hq; subst hx; subst hq; exact h
    | succ i => simp at hx
  cases h with
  | any => exact absurd rfl hp
  | agg vs ps hs h => exact ⟨hs, h⟩
  | ptr b i ver off hi hh => exact one _ _ (.ptr b i ver off hi hh) rfl rfl
  | buf a cap i ver off len m tip hc ha hi hh => exact one _ _ (.buf a cap i ver off len m tip hc ha hi hh) rfl rfl
  | bool b => exact one _ _ (.bool b) rfl rfl
  | int k n => exact one _ _ (.int k n) rfl rfl
  | str s => exact one _ _ (.str s) rfl rfl
  | tup vs ps hs h => exact one _ _ (.tup vs ps hs h) rfl rfl
  | nilp => exact one _ _ .nilp rfl rfl
  | nils => exact one _ _ .nils rfl rfl
  | empt a => exact one _ _ (.empt a) rfl rfl
  | sl0 a c m => exact one _ _ (.sl0 a c m) rfl rfl
  | sl b off cap m xs f hb hm hc h1 h2 h3 => exact one _ _ (.sl b off cap m xs f hb hm hc h1 h2 h3) rfl rfl
  | cptr b off p f hb h1 h2 h3 => exact one _ _ (.cptr b off p f hb h1 h2 h3) rfl rfl
  | func fn vs ws ps qs a b c d => exact one _ _ (.func fn vs ws ps qs a b c d) rfl rfl
  | yld b i hi hh => exact one _ _ (.yld b i hi hh) rfl rfl
  | nilf => exact one _ _ .nilf rfl rfl
  | iface t v p h => exact one _ _ (.iface t v p h) rfl rfl
  | nili => exact one _ _ .nili rfl rfl
  | nilm => exact one _ _ .nilm rfl rfl
  | mp b i hi hh => exact one _ _ (.mp b i hi hh) rfl rfl

theorem V.oneCell {v : Value} {p : PV} (h : V β H w v p) (hp : p.one = true) : v.oneCell' = true := by
  cases h <;> first
    | rfl
    | (simp [PV.one] at hp; done)
    | assumption

theorem run_isAgg {t : Nat} {d : TD} (hT : TdOk P t d) {w : World} : (isAgg t).run P w = .ok d.agg w := by
  obtain ⟨u, hu, _, ha, _⟩ := hT.und
  unfold isAgg
  simp only [Sem.run_bind, run_underlying hu w, Result.andThen_ok, ha]
  cases u <;> rfl

theorem run_sizeOf' {t : Nat} {d : TD} (hT : TdOk P t d) {w : World} : (sizeOf t).run P w = .ok d.size w := by
  obtain ⟨i, z, hi, hs, _⟩ := hT.info
  unfold sizeOf typeInfo
  simp [hi, hs]

theorem run_zeroValue' {t : Nat} {d : TD} (hT : TdOk P t d) : ∃ z, (∀ w2, (zeroValue t).run P w2 = .ok z w2) ∧ V β H w z d.zero := by
  obtain ⟨i, z, hi, _, _, hz, e, _⟩ := hT.info
  refine ⟨z, fun w2 => ?_, e ▸ V.ofValue ..⟩
  unfold zeroValue typeInfo
  simp [hi, hz]

theorem run_partV {t : Nat} {d : TD} (hT : TdOk P t d) {vs : Array Value} {ps : List PV} (hs : vs.size = ps.length)
    (h : ∀ (i : Nat) (v : Value) (p : PV), vs[i]? = some v → ps[i]? = some p → V β H w v p) {off : Nat} {c : Bool} {v : PV} (hp : partV d ps off = (c, v)) (hc : c = true) :
    ∃ x, (∀ w2, (part t vs off).run P w2 = .ok x w2) ∧ V β H w x v := by
  unfold partV at hp
  have hrun : ∀ w2, (part t vs off).run P w2 = ((if d.agg = true then (do pure (.agg (vs.extract off (off + (← sizeOf t)))) : Sem Value) else match vs[off]? with | some v => pure v | none => stuck "part: no such cell").run P w2) := fun w2 => by
    unfold part
    simp only [Sem.run_bind, run_isAgg hT, Result.andThen_ok]
    rfl
  simp only [hrun]
  split at hp
  · rename_i ha
    simp only [Prod.mk.injEq] at hp
    obtain ⟨rfl, rfl⟩ := hp
    have hle : off + d.size ≤ ps.length := of_decide_eq_true hc
    refine ⟨.agg (vs.extract off (off + d.size)), fun w2 => by simp only [ha, if_true, Sem.run_bind, run_sizeOf' hT, Result.andThen_ok]; rfl, .agg _ _ ?_ fun i x q hx hq => ?_⟩
    · simp [subCells, hs]; omega
    · simp only [subCells, List.getElem?_take, List.getElem?_drop] at hq
      split at hq
      · refine h (off + i) x q ?_ hq
        have hlt : i < d.size := by assumption
        rw [Array.getElem?_extract] at hx
        split at hx
        · exact hx
        · cases hx
      · cases hq
  · rename_i ha
    simp only [Prod.mk.injEq] at hp
    obtain ⟨rfl, rfl⟩ := hp
    have hlt : off < ps.length := of_decide_eq_true hc
    obtain ⟨x, hx⟩ : ∃ x, vs[off]? = some x := ⟨vs[off]'(hs ▸ hlt), by simp [hs ▸ hlt]⟩
    refine ⟨x, fun w2 => by simp only [ha, if_false, Bool.false_eq_true, hx]; rfl, h off x _ hx ?_⟩
    simp [List.getElem?_eq_getElem hlt]

end ops
end Go.Proofs.SL

/-
  SL: 'pureOp' is sound. No claim by itself.
-/
namespace Go.Proofs.SL
open Go
set_option linter.unusedSimpArgs false
set_option linter.unusedVariables false
variable {P : Program} {T : Nat → Option TD} {β : Nat → Option Nat} {H : Heap} {w : World}

theorem flat_cons (x : PV) (xs : List PV) : flat (x :: xs) = x.cells ++ flat xs := rfl
theorem flat_append (xs ys : List PV) : flat (xs ++ ys) = flat xs ++ flat ys := by simp [flat]

theorem flat_length {m : Nat} : ∀ {xs : List PV}, (∀ x ∈ xs, x.cells.length = m) → (flat xs).length = xs.length * m
  | [], _ => by simp [flat]
  | x :: xs, h => by
    rw [flat_cons, List.length_append, h x (by simp), flat_length (fun y hy => h y (by simp [hy])), List.length_cons, Nat.succ_mul]; omega

theorem flat_drop {m : Nat} : ∀ {xs : List PV} (l : Nat), (∀ x ∈ xs, x.cells.length = m) → flat (xs.drop l) = (flat xs).drop (l * m)
  | _, 0, _ => by simp
  | [], _ + 1, _ => by simp [flat]
  | x :: xs, l + 1, h => by
    have hx := h x (by simp)
    rw [List.drop_succ_cons, flat_drop l (fun y hy => h y (by simp [hy])), flat_cons, Nat.succ_mul, ← hx, Nat.add_comm, ← List.drop_drop, List.drop_left]

theorem flat_take {m : Nat} : ∀ {xs : List PV} (l : Nat), (∀ x ∈ xs, x.cells.length = m) → flat (xs.take l) = (flat xs).take (l * m)
  | _, 0, _ => by simp [flat]
  | [], _ + 1, _ => by simp [flat]
  | x :: xs, l + 1, h => by
    have hx := h x (by simp)
    have e1 : x.cells.length ≤ (l + 1) * m := by rw [Nat.succ_mul]; omega
    have e2 : (l + 1) * m - x.cells.length = l * m := by rw [Nat.succ_mul]; omega
    rw [List.take_succ_cons, flat_cons, flat_take l (fun y hy => h y (by simp [hy])), flat_cons, List.take_append, List.take_of_length_le e1, e2]

theorem flat_at {m : Nat} {xs : List PV} (h : ∀ x ∈ xs, x.cells.length = m) {i k : Nat} (hi : i < xs.length) (hk : k < m) : (flat xs)[i * m + k]? = (xs[i]).cells[k]? := by
  have e : flat (xs.drop i) = (flat xs).drop (i * m) := flat_drop i h
  rw [← List.getElem?_drop, ← e, List.drop_eq_getElem_cons hi, flat_cons, List.getElem?_append_left (by rw [h _ (List.getElem_mem hi)]; exact hk)]

theorem idx_spec {i : Int} {n : Nat} (h : idx i n = true) : 0 ≤ i ∧ i < n := by
  unfold idx at h
  simp only [Bool.and_eq_true, decide_eq_true_eq] at h
  exact h

theorem addr_add (b off n : Nat) : (⟨b, off, none⟩ : Addr).add n = ⟨b, off + n, none⟩ := by
  unfold Addr.add; split
  · subst_vars; rfl
  · rfl

theorem map_args {ρ : Operand → Value} {g : Operand → PV} (hg : ∀ x, V β H w (ρ x) (g x)) (l : Array Operand) :
    (l.map ρ).size = (l.toList.map g).length ∧ ∀ (i : Nat) (v : Value) (p : PV), (l.map ρ)[i]? = some v → (l.toList.map g)[i]? = some p → V β H w v p := by
  refine ⟨by simp, fun i v p hv hp => ?_⟩
  simp only [Array.getElem?_map, List.getElem?_map, Array.getElem?_toList] at hv hp
  cases ho : l[i]? with
  | none => rw [ho] at hv; cases hv
  | some o =>
    rw [ho] at hv hp
    simp only [Option.map_some, Option.some.injEq] at hv hp
    subst hv; subst hp
    exact hg o

theorem lim_ok {ρ : Operand → Value} {g : Operand → PV} (hg : ∀ x, V β H w (ρ x) (g x)) {d : Nat} {o : Option Operand} {n : Int} (h : lim d (o.map g) = some n) :
    (o = none ∧ n = d) ∨ ∃ x k, o = some x ∧ ρ x = .int k n := by
  cases o with
  | none => simp only [Option.map_none, lim, Option.some.injEq] at h; exact .inl ⟨rfl, h.symm⟩
  | some x =>
    right
    simp only [Option.map_some] at h
    have := hg x
    unfold lim at h
    split at h
    · rename_i e; cases e
    · rename_i k n' e
      simp only [Option.some.injEq] at e h
      subst h
      rw [e] at this
      exact ⟨x, k, rfl, this.int_inv⟩
    · cases h

/-- The bounds of a slice expression, as the machine works them out. -/
theorem run_bounds {w2 : World} {ρ : Operand → Value} {g : Operand → PV} (hg : ∀ x, V β H w (ρ x) (g x)) (isSlice : Bool) (len cap : Nat) (hcap : len ≤ cap) {lo hi : Option Operand} {l h : Int}
    (hl : lim 0 (lo.map g) = some l) (hh : lim len (hi.map g) = some h) (h1 : 0 ≤ l) (h2 : l ≤ h) (h3 : h ≤ len) :
    (Instr.sliceBounds isSlice len cap (lo.map ρ) (hi.map ρ) none).run P w2 = .ok (l.toNat, h.toNat, cap) w2 := by
  unfold Instr.sliceBounds
  rcases lim_ok hg hh with ⟨rfl, rfl⟩ | ⟨y, ky, rfl, ey⟩ <;> rcases lim_ok hg hl with ⟨rfl, rfl⟩ | ⟨x, kx, rfl, ex⟩
  · simp
  · simp only [Option.map_none, Option.map_some, Sem.run_bind, Sem.run_pure, Result.andThen_ok, ex]
    have : ((Instr.sliceBound (.int kx l) len .sliceB).run P w2) = .ok l.toNat w2 := by
      unfold Instr.sliceBound asIntOf
      simp only [Sem.run_bind, Sem.run_pure, Result.andThen_ok]
      rw [if_pos ⟨h1, by omega⟩]; rfl
    simp [this]
  · simp only [Option.map_none, Option.map_some, Sem.run_bind, Sem.run_pure, Result.andThen_ok, ey]
    have : ∀ c, ((Instr.sliceBound (.int ky h) cap c).run P w2) = .ok h.toNat w2 := by
      intro c
      unfold Instr.sliceBound asIntOf
      simp only [Sem.run_bind, Sem.run_pure, Result.andThen_ok]
      rw [if_pos ⟨by omega, by omega⟩]; rfl
    simp [this]
  · simp only [Option.map_none, Option.map_some, Sem.run_bind, Sem.run_pure, Result.andThen_ok, ey, ex]
    have e1 : ∀ c, ((Instr.sliceBound (.int ky h) cap c).run P w2) = .ok h.toNat w2 := by
      intro c
      unfold Instr.sliceBound asIntOf
      simp only [Sem.run_bind, Sem.run_pure, Result.andThen_ok]
      rw [if_pos ⟨by omega, by omega⟩]; rfl
    have e2 : ((Instr.sliceBound (.int kx l) h.toNat .sliceB).run P w2) = .ok l.toNat w2 := by
      unfold Instr.sliceBound asIntOf
      simp only [Sem.run_bind, Sem.run_pure, Result.andThen_ok]
      rw [if_pos ⟨h1, by omega⟩]; rfl
    simp [e1, e2]

theorem V.sl_slice {a : Option Addr} {cap m : Nat} {xs : List PV} (hv : V β H w (.slice a xs.length cap) (.sl m xs)) {l h : Nat} (h1 : l ≤ h) (h2 : h ≤ xs.length) :
    V β H w (.slice (if cap = l then a else a.map (·.add (l * m))) (h - l) (cap - l)) (.sl m ((xs.take h).drop l)) := by
  have hlen : ((xs.take h).drop l).length = h - l := by simp; omega
  obtain ⟨a', cap', e, hc, hs⟩ := hv.sl_inv
  simp only [Value.slice.injEq] at e
  obtain ⟨rfl, _, rfl⟩ := e
  by_cases hz : h - l = 0
  · have : (xs.take h).drop l = [] := List.eq_nil_of_length_eq_zero (by omega)
    rw [this, hz]; exact .sl0 ..
  · have hne : xs ≠ [] := by rintro rfl; simp at h2; omega
    obtain ⟨b, off, rfl, hb, hm, f, f1, f2, f3⟩ := hs hne
    have hcl : ¬ cap = l := by omega
    rw [if_neg hcl, ← hlen, Option.map_some, addr_add]
    have hm' : ∀ x ∈ xs.take h, x.cells.length = m := fun x hx => hm x (List.mem_of_mem_take hx)
    have ef : flat ((xs.take h).drop l) = ((flat xs).take (h * m)).drop (l * m) := by rw [flat_drop l hm', flat_take h hm]
    refine .sl b (off + l * m) (cap - l) m _ (fun k => f (l * m + k)) hb (fun x hx => hm' x (List.mem_of_mem_drop hx)) (by rw [hlen]; omega) (fun k hk => ?_) (fun k p hp => ?_) fun k hk => ?_
    · rw [ef] at hk
      simp only [List.length_drop, List.length_take] at hk
      rw [Nat.add_assoc]
      exact f1 _ (by omega)
    · rw [ef, List.getElem?_drop, List.getElem?_take] at hp
      split at hp
      · exact f2 _ p hp
      · cases hp
    · rw [ef] at hk
      simp only [List.length_drop, List.length_take] at hk
      exact f3 _ (by omega)

theorem V.sl_elem {a : Option Addr} {cap m : Nat} {xs : List PV} (hv : V β H w (.slice a xs.length cap) (.sl m xs)) {i : Nat} (hi : i < xs.length) :
    ∃ b off, a = some ⟨b, off, none⟩ ∧ V β H w (.pointer (some ⟨b, off + i * m, none⟩)) (.cptr (xs.getD i .any)) := by
  obtain ⟨a', cap', e, hc, hs⟩ := hv.sl_inv
  simp only [Value.slice.injEq] at e
  obtain ⟨rfl, _, rfl⟩ := e
  have hne : xs ≠ [] := by rintro rfl; simp at hi
  obtain ⟨b, off, rfl, hb, hm, f, f1, f2, f3⟩ := hs hne
  have eg : xs.getD i .any = xs[i] := by simp [List.getD, hi]
  have hmi : (xs[i]).cells.length = m := hm _ (List.getElem_mem hi)
  refine ⟨b, off, rfl, ?_⟩
  rw [eg]
  have hin : ∀ k, k < (xs[i]).cells.length → i * m + k < (flat xs).length := fun k hk => by
    rw [flat_length hm]
    have : (i + 1) * m ≤ xs.length * m := Nat.mul_le_mul_right m hi
    rw [Nat.succ_mul] at this
    omega
  refine .cptr b (off + i * m) _ (fun k => f (i * m + k)) hb (fun k hk => ?_) (fun k q hq => ?_) fun k hk => f3 _ (hin k hk)
  · rw [Nat.add_assoc]
    exact f1 _ (hin k hk)
  · refine f2 _ q ?_
    have hk : k < m := by
      rcases Nat.lt_or_ge k m with h | h
      · exact h
      · rw [List.getElem?_eq_none (by omega)] at hq; cases hq
    rw [flat_at hm hi hk]; exact hq

theorem V.buf_inv {v : Value} {i ver off len m : Nat} {tip : Bool} (h : V β H w v (.buf i ver off len m tip)) : ∃ a cap, v = .slice a len cap ∧ len ≤ cap ∧ (len ≠ 0 → ∃ b, a = some ⟨b, off, none⟩) ∧ Ref H i ver ∧
    (Live H i ver → (β i = none → cap = 0 ∧ (tip = true → off = 0)) ∧ ∀ b, β i = some b →
        (len = 0 ∧ tip = false) ∨ (a = some ⟨b, off, none⟩ ∧ off + cap * m ≤ bsize w b ∧ (tip = true → off = 0 ∧ olen H i ≤ cap * m))) := by
  cases h with | buf a cap _ _ _ _ _ _ hc ha hi h => exact ⟨a, cap, rfl, hc, ha, hi, h⟩

theorem V.ptr_inv {v : Value} {i ver off : Nat} (h : V β H w v (.ptr i ver off)) : ∃ b, v = .pointer (some ⟨b, off, none⟩) ∧ Ref H i ver ∧ (Live H i ver → β i = some b) := by
  cases h with | ptr b _ _ _ hi h => exact ⟨b, rfl, hi, h⟩

theorem V.buf_slice {a : Option Addr} {cap i ver off len m : Nat} {tip : Bool} (hv : V β H w (.slice a len cap) (.buf i ver off len m tip)) {l h : Nat} (h1 : l ≤ h) (h2 : h ≤ len) {t : Bool}
    (ht : t = true → tip = true ∧ l = 0) :
    V β H w (.slice (if cap = l then a else a.map (·.add (l * m))) (h - l) (cap - l)) (.buf i ver (off + l * m) (h - l) m t) := by
  obtain ⟨a', cap', e, hc, ha, hi, hs⟩ := hv.buf_inv
  simp only [Value.slice.injEq] at e
  obtain ⟨rfl, _, rfl⟩ := e
  refine .buf _ _ i ver _ _ m t (by omega) (fun hne => by
    obtain ⟨b, rfl⟩ := ha (by omega)
    exact ⟨b, by rw [if_neg (by omega), Option.map_some, addr_add]⟩) hi fun hl => ?_
  obtain ⟨h0, h3⟩ := hs hl
  refine ⟨fun hn => ?_, fun b hb => ?_⟩
  · obtain ⟨rfl, ho⟩ := h0 hn
    exact ⟨by omega, fun htt => by obtain ⟨h5, rfl⟩ := ht htt; rw [ho h5]; omega⟩
  · by_cases hz : h - l = 0 ∧ t = false
    · exact .inl hz
    · right
      rcases h3 b hb with ⟨rfl, htf⟩ | ⟨rfl, hsz, htp⟩
      · exact absurd ⟨by omega, by cases t with | false => rfl | true => obtain ⟨h5, _⟩ := ht rfl; rw [htf] at h5; cases h5⟩ hz
      · by_cases hcl : cap = l
        · have hl0 : t = true := by cases t with | true => rfl | false => exact absurd ⟨by omega, rfl⟩ hz
          obtain ⟨h5, rfl⟩ := ht hl0
          exact ⟨by simp [hcl], by simpa [hcl] using hsz, fun _ => by simpa [hcl] using htp h5⟩
        · rw [if_neg hcl, Option.map_some, addr_add]
          refine ⟨rfl, ?_, fun htt => ?_⟩
          · have : l * m + (cap - l) * m = cap * m := by rw [← Nat.add_mul]; congr 1; omega
            omega
          · obtain ⟨h5, rfl⟩ := ht htt
            obtain ⟨h6, h7⟩ := htp h5
            exact ⟨by omega, by simpa using h7⟩

theorem V.cptr_inv {v : Value} {p : PV} (h : V β H w v (.cptr p)) : ∃ b off, ∃ f : Nat → Value, v = .pointer (some ⟨b, off, none⟩) ∧ Imm β H w b ∧
    (∀ k, k < p.cells.length → w.cell? ⟨b, off + k, none⟩ = some (f k)) ∧ (∀ (k : Nat) (q : PV), p.cells[k]? = some q → V β H w (f k) q) ∧ ∀ k, k < p.cells.length → (f k).oneCell' = true := by
  cases h with | cptr b off _ f hb h1 h2 h3 => exact ⟨b, off, f, rfl, hb, h1, h2, h3⟩


theorem run_underlying' {t : Nat} {d : TD} (hT : TdOk P t d) : ∃ u, (∀ w, (underlying t).run P w = .ok u w) ∧ kOk u d.k ∧ (d.k = .other → ifaceOf u = false) := by
  obtain ⟨u, hu, hk, _, ho⟩ := hT.und
  exact ⟨u, run_underlying hu, hk, ho⟩

theorem kOk_slice {u : TypeDesc} {e : Nat} (h : kOk u (.slice e)) : u = .slice e := by
  cases u <;> simp only [kOk] at h; subst h; rfl
theorem kOk_arr {u : TypeDesc} {n e : Nat} (h : kOk u (.arr n e)) : u = .array n e := by
  cases u <;> simp only [kOk] at h; obtain ⟨rfl, rfl⟩ := h; rfl
theorem kOk_str {u : TypeDesc} (h : kOk u .str) : u = .string := by
  cases u <;> simp only [kOk] at h; rfl
theorem kOk_int {u : TypeDesc} {k : IntKind} (h : kOk u (.int k)) : u = .int k := by
  cases u <;> simp only [kOk] at h; subst h; rfl
theorem kOk_struct {u : TypeDesc} {l : List (Nat × Nat)} (h : kOk u (.struct l)) : ∃ fs, u = .struct fs ∧ l = fs.toList.map fun f => (f.offset, f.type) := by
  cases u <;> simp only [kOk] at h; exact ⟨_, rfl, h⟩
theorem kOk_ptr {u : TypeDesc} {e : Nat} (h : kOk u (.ptr e)) : u = .pointer e := by
  cases u <;> simp only [kOk] at h; subst h; rfl

theorem field_at {fs : Array Field} {f off ft : Nat} (h : (fs.toList.map fun f => (f.offset, f.type))[f]? = some (off, ft)) : ∃ fd, fs[f]? = some fd ∧ fd.offset = off ∧ fd.type = ft := by
  rw [List.getElem?_map, Array.getElem?_toList] at h
  cases hf : fs[f]? with
  | none => rw [hf] at h; cases h
  | some fd =>
    rw [hf] at h
    simp only [Option.map_some, Option.some.injEq, Prod.mk.injEq] at h
    exact ⟨fd, rfl, h.1, h.2⟩

theorem run_fieldPlace {w : World} {b off : Nat} {f : Field} {d : TD} (hT : TdOk P f.type d) (hd : ¬ d.size = 0) : (fieldPlace ⟨b, off, none⟩ f).run P w = .ok ⟨b, off + f.offset, none⟩ w := by
  unfold fieldPlace
  simp only [Sem.run_bind, run_sizeOf' hT, Result.andThen_ok, if_neg hd, addr_add]
  rfl

/-- The frame of an operation that yields a value and leaves the world. -/
def Yes (P : Program) (ρ : Operand → Value) (o : Oper) (β : Nat → Option Nat) (H : Heap) (w : World) (v : PV) : Prop :=
  ∃ x, (∀ w2, (execOp ρ o).run P w2 = .ok (.value x) w2) ∧ V β H w x v

/-- The same, for as long as the heap is as it is. -/
def YesR (P : Program) (ρ : Operand → Value) (o : Oper) (β : Nat → Option Nat) (H : Heap) (w : World) (v : PV) : Prop :=
  ∃ x, (∀ w2 : World, w2.heap = w.heap → (execOp ρ o).run P w2 = .ok (.value x) w2) ∧ V β H w x v

theorem yes_of {ρ : Operand → Value} {o : Oper} {v : PV} {s : Sem Value} (e : execOp ρ o = (do pure (.value (← s)))) (h : ∃ x, (∀ w2, s.run P w2 = .ok x w2) ∧ V β H w x v) : Yes P ρ o β H w v := by
  obtain ⟨x, hx, hv⟩ := h
  refine ⟨x, fun w2 => ?_, hv⟩
  rw [e]
  simp only [Sem.run_bind, hx, Result.andThen_ok]
  rfl

theorem yesR_of {ρ : Operand → Value} {o : Oper} {v : PV} {s : Sem Value} (e : execOp ρ o = (do pure (.value (← s)))) (h : ∃ x, (∀ w2 : World, w2.heap = w.heap → s.run P w2 = .ok x w2) ∧ V β H w x v) : YesR P ρ o β H w v := by
  obtain ⟨x, hx, hv⟩ := h
  refine ⟨x, fun w2 h2 => ?_, hv⟩
  rw [e]
  simp only [Sem.run_bind, hx w2 h2, Result.andThen_ok]
  rfl

theorem elemAddr_ok (hT : TOk P T) {t : Nat} {x i : Value} {p q : PV} (hx : V β H w x p) (hi : V β H w i q) {c : Bool} {v : PV} (h : elemAddr T t p q = (c, v)) (hc : c = true) :
    ∃ r, (∀ w2, (Instr.indexAt t x i).run P w2 = .ok r w2) ∧ V β H w r v := by
  subst hc
  unfold elemAddr at h
  split at h
  · rename_i d j ver off k n hd
    obtain rfl := hi.int_inv
    split at h
    · rename_i l e hk
      split at h
      · rename_i de hde
        simp only [Prod.mk.injEq, Bool.and_eq_true, decide_eq_true_eq] at h
        obtain ⟨⟨hix, h2⟩, rfl⟩ := h
        obtain ⟨i0, i1⟩ := idx_spec hix
        obtain ⟨b, rfl, hl, hb⟩ := hx.ptr_inv
        obtain ⟨u, hu, hku, _⟩ := run_underlying' (hT t d hd)
        rw [hk] at hku
        obtain rfl := kOk_arr hku
        refine ⟨.pointer (some ⟨b, off + n.toNat * de.size, none⟩), fun w2 => ?_, .ptr _ _ _ _ hl hb⟩
        unfold Instr.indexAt asIntOf
        have ht : ¬ l ≤ 1 := by omega
        simp only [Sem.run_bind, Sem.run_pure, Result.andThen_ok, hu, Instr.sureAddr, ht, decide_false, Bool.false_and, i0, i1, and_self, if_true, run_sizeOf' (hT e de hde), addr_add]
      · simp [no] at h
    · simp [no] at h
  · rename_i d m xs k n hd
    obtain rfl := hi.int_inv
    split at h
    · rename_i e hk
      split at h
      · rename_i de hde
        simp only [Prod.mk.injEq, Bool.and_eq_true, decide_eq_true_eq] at h
        obtain ⟨⟨hix, h2⟩, rfl⟩ := h
        obtain ⟨i0, i1⟩ := idx_spec hix
        obtain ⟨a, cap, rfl, hcc, _⟩ := hx.sl_inv
        obtain ⟨b, off, rfl, hv⟩ := hx.sl_elem (i := n.toNat) (by omega)
        obtain ⟨u, hu, hku, _⟩ := run_underlying' (hT t d hd)
        rw [hk] at hku
        obtain rfl := kOk_slice hku
        refine ⟨_, fun w2 => ?_, hv⟩
        unfold Instr.indexAt asIntOf
        simp only [Sem.run_bind, Sem.run_pure, Result.andThen_ok, hu, i0, i1, and_self, if_true, run_sizeOf' (hT e de hde), addr_add, h2, Bool.and_false]
      · simp [no] at h
    · simp [no] at h
  · rename_i d j ver off len m tip k n hd
    obtain rfl := hi.int_inv
    split at h
    · rename_i e hk
      split at h
      · rename_i de hde
        simp only [Prod.mk.injEq, Bool.and_eq_true, decide_eq_true_eq] at h
        obtain ⟨⟨hix, h2⟩, rfl⟩ := h
        obtain ⟨i0, i1⟩ := idx_spec hix
        obtain ⟨a, cap, rfl, hcc, ha, hl, hb⟩ := hx.buf_inv
        obtain ⟨b, rfl⟩ := ha (by omega)
        obtain ⟨u, hu, hku, _⟩ := run_underlying' (hT t d hd)
        rw [hk] at hku
        obtain rfl := kOk_slice hku
        refine ⟨.pointer (some ⟨b, off + n.toNat * m, none⟩), fun w2 => ?_, .ptr _ _ _ _ hl fun hlv => ?_⟩
        · unfold Instr.indexAt asIntOf
          simp only [Sem.run_bind, Sem.run_pure, Result.andThen_ok, hu, i0, i1, and_self, if_true, run_sizeOf' (hT e de hde), addr_add, h2, Bool.and_false]
        · obtain ⟨h3, h4⟩ := hb hlv
          cases hbj : β j with
          | none => have := (h3 hbj).1; omega
          | some b' =>
            rcases h4 b' hbj with ⟨h5, _⟩ | ⟨h5, _⟩
            · omega
            · simp only [Option.some.injEq, Addr.mk.injEq] at h5; rw [h5.1]
      · simp [no] at h
    · simp [no] at h
  · simp [no] at h


theorem fill_ok (place : Nat → Option (Nat × Nat)) : ∀ (parts : List (Nat × Value)) (qs : List (Nat × PV)) (vs : Array Value) (ps : List PV),
    parts.length = qs.length → (∀ (i : Nat) (x : Nat × Value) (y : Nat × PV), parts[i]? = some x → qs[i]? = some y → x.1 = y.1 ∧ V β H w x.2 y.2) →
    vs.size = ps.length → (∀ (i : Nat) (v : Value) (p : PV), vs[i]? = some v → ps[i]? = some p → V β H w v p) →
    ∀ {v : PV} {c : Bool}, fillV place ps qs = (c, v) → c = true → ∃ r, Instr.fill place vs parts = some r ∧ V β H w (.agg r) v := by
  intro parts
  induction parts with
  | nil =>
    intro qs vs ps hl hp hs hv v c h hc
    cases qs with
    | cons _ _ => simp at hl
    | nil =>
      simp only [fillV, Prod.mk.injEq] at h
      obtain ⟨_, rfl⟩ := h
      exact ⟨vs, rfl, .agg vs ps hs hv⟩
  | cons x rest ih =>
    intro qs vs ps hl hp hs hv v c h hc
    cases qs with
    | nil => simp at hl
    | cons y qrest =>
      obtain ⟨i, x⟩ := x
      obtain ⟨j, y⟩ := y
      obtain ⟨e, hxy⟩ := hp 0 _ _ rfl rfl
      simp only at e hxy
      subst e
      subst hc
      unfold fillV at h
      split at h
      · simp [no] at h
      · simp [no] at h
      · rename_i q _ _ off n hpl hany
        obtain ⟨hc1, hc2⟩ := hxy.cellsOf hany
        simp only [Prod.mk.injEq, Bool.and_eq_true, decide_eq_true_eq] at h
        obtain ⟨⟨h1, h2, h3⟩, h4⟩ := h
        have hsz : x.cells.size = n := by rw [hc1, h1]
        -- the fold lays the cells in
        have hfold : ∀ (l : List Value) (k : Nat) (cs : Array Value), off + k + l.length ≤ cs.size →
            (l.zipIdx k).foldl (fun cs (c, j) => cs.setIfInBounds (off + j) c) cs = (cs.toList.take (off + k) ++ l ++ cs.toList.drop (off + k + l.length)).toArray := by
          intro l
          induction l with
          | nil => intro k cs _; simp
          | cons a l ihl =>
            intro k cs hk
            simp only [List.zipIdx_cons, List.foldl_cons]
            rw [ihl (k + 1) _ (by simp at hk ⊢; omega)]
            apply Array.ext'
            simp only [Array.toList_setIfInBounds, List.length_cons]
            have hlt : off + k < cs.toList.length := by simp at hk ⊢; omega
            have e1 : (cs.toList.set (off + k) a).take (off + (k + 1)) = cs.toList.take (off + k) ++ [a] := by
              rw [← Nat.add_assoc, List.take_add_one, List.take_set_of_le (Nat.le_refl _)]
              congr 1
              rw [List.getElem?_set_self hlt]; rfl
            have e2 : (cs.toList.set (off + k) a).drop (off + (k + 1) + l.length) = cs.toList.drop (off + k + (l.length + 1)) := by
              rw [List.drop_set_of_lt (by omega)]
              congr 1; omega
            rw [e1, e2]
            simp
        have hle : off + n ≤ vs.size := by rw [hs]; exact h2
        have hz : (x.cells.zipIdx.foldl (fun cs (c, j) => cs.setIfInBounds (off + j) c) vs) = (vs.toList.take off ++ x.cells.toList ++ vs.toList.drop (off + n)).toArray := by
          rw [← Array.foldl_toList, Array.toList_zipIdx]
          have := hfold x.cells.toList 0 vs (by simp [hsz]; omega)
          simp only [Nat.add_zero] at this
          rw [this, Array.length_toList, hsz]
        obtain ⟨r, hr, hV⟩ := ih qrest (vs.toList.take off ++ x.cells.toList ++ vs.toList.drop (off + n)).toArray (ps.take off ++ q.cells ++ ps.drop (off + n)) (by simpa using hl)
          (fun i a b ha hb => hp (i + 1) a b (by simpa using ha) (by simpa using hb))
          (by simp [hs, hc1, h1])
          (by
            intro k a b ha hb
            simp only [List.getElem?_toArray, List.append_assoc, List.getElem?_append, List.length_take, Array.length_toList, List.getElem?_take, List.getElem?_drop, Array.getElem?_toList] at ha hb
            have e1 : min off vs.size = off := by omega
            have e2 : min off ps.length = off := by omega
            rw [e1] at ha
            rw [e2] at hb
            rw [hsz] at ha
            rw [h1] at hb
            by_cases k1 : k < off
            · simp only [k1, if_true] at ha hb; exact hv k a b ha hb
            · simp only [k1, if_false] at ha hb
              by_cases k2 : k - off < n
              · simp only [k2, if_true] at ha hb; exact hc2 _ a b ha hb
              · simp only [k2, if_false] at ha hb; exact hv _ a b ha hb)
          (c := true) (v := v) (by rw [← h4, ← h3]) rfl
        refine ⟨r, ?_, hV⟩
        unfold Instr.fill
        simp only [hpl]
        rw [if_neg (by simp only [Bool.or_eq_true, decide_eq_true_eq, ne_eq, not_or, Decidable.not_not, Nat.not_lt]; omega), hz]
        exact hr

end Go.Proofs.SL

/-
  SL: 'pureOp' is sound: the main theorem. No claim by itself.
-/
namespace Go.Proofs.SL
open Go
set_option linter.unusedSimpArgs false
set_option linter.unusedVariables false
variable {P : Program} {T : Nat → Option TD} {β : Nat → Option Nat} {H : Heap} {w : World}

theorem no_ne {c : Bool} {v : PV} {Q : Prop} (h : no = (c, v)) (hc : c = true) : Q := by subst hc; simp [no] at h

/-- What is to be shown of an operation that yields a value and leaves the world. -/
def Gives (P : Program) (β : Nat → Option Nat) (H : Heap) (w : World) (s : Sem Value) (v : PV) : Prop := ∃ r, (∀ w2, s.run P w2 = .ok r w2) ∧ V β H w r v

theorem index_ok (hT : TOk P T) {t : Nat} {x i : Value} {p q : PV} {c : Bool} {v : PV} (hx : V β H w x p) (hi : V β H w i q)
    (h : indexV T t p q = (c, v)) (hc : c = true) : Gives P β H w (Instr.index t x i) v := by
  unfold indexV at h
  split at h
  · exact no_ne h hc
  rename_i d hd
  split at h
  · rename_i s k n
    obtain rfl := hx.str_inv
    obtain rfl := hi.int_inv
    split at h
    · rename_i hk
      simp only [Prod.mk.injEq] at h
      obtain ⟨rfl, rfl⟩ := h
      obtain ⟨h0, h1⟩ := idx_spec hc
      obtain ⟨u, hu, hku, _⟩ := run_underlying' (hT t d hd)
      rw [hk] at hku
      obtain rfl := kOk_str hku
      have hlt : n.toNat < s.size := by omega
      refine ⟨.int .u8 (s.get! n.toNat).toNat, fun w2 => ?_, .int ..⟩
      have e : s[n.toNat]? = some (s.get! n.toNat) := by
        rw [getElem?_pos s n.toNat hlt]
        congr 1
        show s.data[n.toNat] = s.data[n.toNat]!
        rw [getElem!_pos s.data n.toNat hlt]
      unfold Instr.index asIntOf
      simp only [Sem.run_bind, Sem.run_pure, Result.andThen_ok, hu, h0, if_true, e]
    · exact no_ne h hc
  · rename_i cs k n
    obtain ⟨vs, rfl, hs, hv⟩ := hx.agg_inv
    obtain rfl := hi.int_inv
    split at h
    · rename_i l e hk
      split at h
      · rename_i de hde
        simp only [Prod.mk.injEq] at h
        obtain ⟨rfl, rfl⟩ := h
        simp only [Bool.and_eq_true] at hc
        obtain ⟨h0, h1⟩ := idx_spec hc.1
        obtain ⟨u, hu, hku, _⟩ := run_underlying' (hT t d hd)
        rw [hk] at hku
        obtain rfl := kOk_arr hku
        obtain ⟨r, hr, hV⟩ := run_partV (hT e de hde) (w := w) hs hv (off := n.toNat * de.size) (c := (partV de cs (n.toNat * de.size)).1) rfl hc.2
        refine ⟨r, fun w2 => ?_, hV⟩
        unfold Instr.index asIntOf
        simp only [Sem.run_bind, Sem.run_pure, Result.andThen_ok, hu, h0, h1, and_self, if_true, run_sizeOf' (hT e de hde), hr]
      · exact no_ne h hc
    · exact no_ne h hc
  · exact no_ne h hc

theorem un_ok {op : UnOp} {x : Value} {p : PV} {c : Bool} {v : PV} (hx : V β H w x p) (h : unV op p = (c, v)) (hc : c = true) : Gives P β H w (Op.unary op x) v := by
  unfold unV at h
  split at h
  · simp only [Prod.mk.injEq] at h; obtain ⟨_, rfl⟩ := h
    exact ⟨_, fun w2 => by rw [hx.bool_inv]; rfl, .bool _⟩
  · simp only [Prod.mk.injEq] at h; obtain ⟨_, rfl⟩ := h
    exact ⟨_, fun w2 => by rw [hx.int_inv]; rfl, .int ..⟩
  · simp only [Prod.mk.injEq] at h; obtain ⟨_, rfl⟩ := h
    exact ⟨_, fun w2 => by rw [hx.int_inv]; rfl, .int ..⟩
  · exact no_ne h hc

theorem extract_ok {x : Value} {i : Nat} {p : PV} {c : Bool} {v : PV} (hx : V β H w x p) (h : extractV p i = (c, v)) (hc : c = true) : Gives P β H w (Instr.extract x i) v := by
  unfold extractV at h
  split at h
  · rename_i vs
    simp only [Prod.mk.injEq] at h; obtain ⟨rfl, rfl⟩ := h
    obtain ⟨ws, rfl, hs, hv⟩ := hx.tup_inv
    have hlt : i < vs.length := of_decide_eq_true hc
    obtain ⟨r, hr⟩ : ∃ r, ws[i]? = some r := ⟨ws[i]'(hs ▸ hlt), by simp [hs ▸ hlt]⟩
    exact ⟨r, fun w2 => by simp only [Instr.extract, hr]; rfl, hv i r _ hr (by simp [List.getElem?_eq_getElem hlt])⟩
  · exact no_ne h hc

theorem fieldOf_ok (hT : TOk P T) {t f off : Nat} {df : TD} (h : fieldOf T t f = some (off, df)) :
    ∃ fs fd, (∀ w, (underlying t).run P w = .ok (.struct fs) w) ∧ fs[f]? = some fd ∧ fd.offset = off ∧ TdOk P fd.type df := by
  unfold fieldOf at h
  split at h
  · cases h
  rename_i d hd
  split at h
  · rename_i fs hk
    split at h
    · rename_i off' ft hf
      split at h
      · rename_i df' hdf
        simp only [Option.some.injEq, Prod.mk.injEq] at h
        obtain ⟨rfl, rfl⟩ := h
        obtain ⟨u, hu, hku, _⟩ := run_underlying' (hT t d hd)
        rw [hk] at hku
        obtain ⟨fds, rfl, rfl⟩ := kOk_struct hku
        obtain ⟨fd, hfd, rfl, rfl⟩ := field_at hf
        exact ⟨fds, fd, hu, hfd, rfl, hT _ _ hdf⟩
      · cases h
    · cases h
  · cases h

theorem field_ok (hT : TOk P T) {t f : Nat} {x : Value} {p : PV} {c : Bool} {v : PV} (hx : V β H w x p) (h : fieldV T t f p = (c, v)) (hc : c = true) : Gives P β H w (Instr.field t x f) v := by
  unfold fieldV at h
  split at h
  · exact no_ne h hc
  rename_i off df hf
  obtain ⟨fs, fd, hu, hfd, rfl, hdf⟩ := fieldOf_ok hT hf
  split at h
  · rename_i cs
    obtain ⟨ws, rfl, hs, hv⟩ := hx.agg_inv
    obtain ⟨r, hr, hV⟩ := run_partV hdf (w := w) hs hv h hc
    exact ⟨r, fun w2 => by simp only [Instr.field, Sem.run_bind, hu, Result.andThen_ok, hfd, asAgg, Sem.run_pure, hr], hV⟩
  · exact no_ne h hc

theorem cptr_part {b off fo : Nat} {cs : List PV} {f' : Nat → Value} {df : TD} (him : Imm β H w b) (h1 : ∀ k, k < cs.length → w.cell? ⟨b, off + k, none⟩ = some (f' k))
    (h2 : ∀ (k : Nat) (q : PV), cs[k]? = some q → V β H w (f' k) q) (h4 : ∀ k, k < cs.length → (f' k).oneCell' = true) (hp : (partV df cs fo).1 = true) (h3 : (df.agg || (partV df cs fo).2.one) = true) :
    V β H w (.pointer (some ⟨b, off + fo, none⟩)) (.cptr (partV df cs fo).2) := by
  unfold partV at hp h3 ⊢
  split at hp
  · rename_i ha
    have hle : fo + df.size ≤ cs.length := of_decide_eq_true hp
    rw [if_pos ha]
    refine .cptr b _ _ (fun k => f' (fo + k)) him (fun k hk => ?_) (fun k q hq => ?_) fun k hk => h4 _ (by simp only [PV.cells, subCells, List.length_take, List.length_drop] at hk; omega)
    · rw [Nat.add_assoc]
      exact h1 _ (by simp only [PV.cells, subCells, List.length_take, List.length_drop] at hk; omega)
    · simp only [PV.cells, subCells, List.getElem?_take, List.getElem?_drop] at hq
      split at hq
      · exact h2 _ q hq
      · cases hq
  · rename_i ha
    have hlt : fo < cs.length := of_decide_eq_true hp
    rw [if_neg ha] at h3 ⊢
    simp only [show df.agg = false by simpa using ha, Bool.false_or] at h3
    have e : cs.getD fo .any = cs[fo] := by simp [hlt]
    simp only [e] at h3 ⊢
    have ec : (cs[fo]).cells = [cs[fo]] := by
      cases hcs : cs[fo] <;> rw [hcs] at h3 <;> first | rfl | simp [PV.one] at h3
    refine .cptr b _ _ (fun k => f' (fo + k)) him (fun k hk => ?_) (fun k q hq => ?_) fun k hk => h4 _ (by rw [ec] at hk; simp only [List.length_singleton] at hk; omega)
    · rw [ec] at hk
      simp only [List.length_singleton] at hk
      rw [Nat.add_assoc]
      exact h1 _ (by omega)
    · rw [ec] at hq
      cases k with
      | zero =>
        simp only [List.getElem?_cons_zero, Option.some.injEq] at hq
        subst hq
        exact h2 _ _ (by simp [hlt])
      | succ k => simp at hq

theorem fieldAddr_ok (hT : TOk P T) {t f : Nat} {x : Value} {p : PV} {c : Bool} {v : PV} (hx : V β H w x p) (h : fieldAddrV T t f p = (c, v)) (hc : c = true) : Gives P β H w (Instr.fieldAt t x f) v := by
  unfold fieldAddrV at h
  split at h
  · exact no_ne h hc
  rename_i fo df hf
  obtain ⟨fs, fd, hu, hfd, rfl, hdf⟩ := fieldOf_ok hT hf
  split at h
  · rename_i i ver off
    simp only [Prod.mk.injEq] at h; obtain ⟨rfl, rfl⟩ := h
    obtain ⟨b, rfl, hl, hlv⟩ := hx.ptr_inv
    exact ⟨_, fun w2 => by simp only [Instr.fieldAt, Sem.run_bind, hu, Result.andThen_ok, hfd, Instr.sureAddr, Sem.run_pure, run_fieldPlace hdf (by simpa using hc)], .ptr b i ver (off + fd.offset) hl hlv⟩
  · rename_i cs
    simp only [Prod.mk.injEq] at h; obtain ⟨rfl, rfl⟩ := h
    simp only [Bool.and_eq_true] at hc
    obtain ⟨b, off, f', rfl, him, h1, h2, h4⟩ := hx.cptr_inv
    exact ⟨_, fun w2 => by simp only [Instr.fieldAt, Sem.run_bind, hu, Result.andThen_ok, hfd, Instr.sureAddr, Sem.run_pure, run_fieldPlace hdf (by simpa using hc.1)],
      cptr_part him h1 h2 h4 hc.2.1 hc.2.2⟩
  · exact no_ne h hc

theorem conv_ok (hT : TOk P T) {s t : Nat} {ds dt : TD} (hs : T s = some ds) (ht : T t = some dt) {x : Value} {p : PV} {c : Bool} {v : PV} (hx : V β H w x p)
    (h : convV ds.k dt.k p = some (c, v)) (hc : c = true) : Gives P β H w (convert s t x) v := by
  obtain ⟨us, hus, hks, hos⟩ := run_underlying' (hT s ds hs)
  obtain ⟨ut, hut, hkt, _⟩ := run_underlying' (hT t dt ht)
  unfold convV at h
  split at h
  · rename_i k k' n e
    simp only [Option.some.injEq, Prod.mk.injEq] at h; obtain ⟨_, rfl⟩ := h
    rw [e] at hkt
    obtain rfl := kOk_int hkt
    obtain rfl := hx.int_inv
    refine ⟨.int k (k.wrap n), fun w2 => ?_, .int ..⟩
    unfold convert
    simp only [Sem.run_bind, hus, hut, Result.andThen_ok]
    cases us <;> rfl
  · rename_i s' e
    simp only [Option.some.injEq, Prod.mk.injEq] at h; obtain ⟨_, rfl⟩ := h
    rw [e] at hkt
    obtain rfl := kOk_str hkt
    obtain rfl := hx.str_inv
    refine ⟨.string s', fun w2 => ?_, .str _⟩
    unfold convert
    simp only [Sem.run_bind, hus, hut, Result.andThen_ok]
    cases us <;> rfl
  · rename_i k n e
    simp only [Option.some.injEq, Prod.mk.injEq] at h; obtain ⟨_, rfl⟩ := h
    rw [e] at hkt
    obtain rfl := kOk_str hkt
    obtain rfl := hx.int_inv
    refine ⟨.string (Utf8.encode n), fun w2 => ?_, .str _⟩
    unfold convert
    simp only [Sem.run_bind, hus, hut, Result.andThen_ok]
    cases us <;> rfl
  · cases h
  · split at h
    · cases h
    · exact no_ne (Option.some.inj h) hc
  · exact no_ne (Option.some.inj h) hc

theorem makeIface_ok (hT : TOk P T) {t : Nat} {x : Value} {p : PV} {c : Bool} {v : PV} (hx : V β H w x p) (h : makeIfaceV T t p = (c, v)) (hc : c = true) : Gives P β H w (Instr.makeInterface t x) v := by
  unfold makeIfaceV at h
  split at h
  · exact no_ne h hc
  rename_i d hd
  obtain ⟨u, hu, hku, ho⟩ := run_underlying' (hT t d hd)
  split at h
  · exact no_ne h hc
  · rename_i hk
    simp only [Prod.mk.injEq] at h; obtain ⟨_, rfl⟩ := h
    refine ⟨.iface t x, fun w2 => ?_, .iface _ _ _ hx⟩
    unfold Instr.makeInterface
    simp only [Sem.run_bind, hu, Result.andThen_ok]
    cases u with
    | interface ms =>
      exfalso
      cases hdk : d.k <;> rw [hdk] at hku hk ho <;> simp only [kOk] at hku
      · exact hk rfl
      · simp [ifaceOf] at ho
    | _ => rfl

theorem zeroLit_ok {ρ : Operand → Value} {g : Operand → PV} (hg : ∀ x, V β H w (ρ x) (g x)) {o : Option Operand} (h : zeroLit (o.map g) = true) : ∃ x k, o = some x ∧ ρ x = .int k 0 := by
  cases o with
  | none => simp [zeroLit] at h
  | some x =>
    have := hg x
    simp only [Option.map_some] at h
    unfold zeroLit at h
    split at h
    · rename_i k n e
      simp only [Option.some.injEq] at e
      rw [e] at this
      have hn : n = 0 := of_decide_eq_true h
      subst hn
      exact ⟨x, k, rfl, this.int_inv⟩
    · cases h

theorem bounds0 {w2 : World} {ρ : Operand → Value} {g : Operand → PV} (hg : ∀ x, V β H w (ρ x) (g x)) {lo hi : Option Operand} {m : Operand}
    (h : (zeroLit (lo.map g) && (zeroLit (hi.map g) && zeroLit (some (g m)))) = true) (b : Bool) (len cap : Nat) :
    (Instr.sliceBounds b len cap (lo.map ρ) (hi.map ρ) ((some m).map ρ)).run P w2 = .ok (0, 0, 0) w2 := by
  simp only [Bool.and_eq_true] at h
  obtain ⟨x, kx, rfl, ex⟩ := zeroLit_ok hg h.1
  obtain ⟨y, ky, rfl, ey⟩ := zeroLit_ok hg h.2.1
  obtain ⟨z, kz, e, ez⟩ := zeroLit_ok (o := some m) hg h.2.2
  cases e
  have hb : ∀ (k : IntKind) (n : Nat) (c : BoundsCode), (Instr.sliceBound (.int k 0) n c).run P w2 = .ok 0 w2 := by
    intro k n c
    unfold Instr.sliceBound asIntOf
    simp
  simp [Instr.sliceBounds, ex, ey, ez, hb]


/-- 's[0:0:0]'. -/
theorem slice_zero {ρ : Operand → Value} {g : Operand → PV} (hg : ∀ x, V β H w (ρ x) (g x)) {t e : Nat} {lo hi : Option Operand} {m : Operand} {d : TD}
    (hu : ∀ w, (underlying t).run P w = .ok (.slice e) w) (he : ∃ n, ∀ w, (sizeOf e).run P w = .ok n w) {a : Option Addr} {len cap : Nat}
    (h : (zeroLit (lo.map g) && (zeroLit (hi.map g) && zeroLit (some (g m)))) = true) :
    Gives P β H w (Instr.sliceAt t (.slice a len cap) (lo.map ρ) (hi.map ρ) ((some m).map ρ)) .empt := by
  obtain ⟨n, hn⟩ := he
  refine ⟨.slice a 0 0, fun w2 => ?_, .empt _⟩
  unfold Instr.sliceAt
  simp only [Sem.run_bind, hu, Result.andThen_ok]
  unfold Instr.slice
  simp only [Sem.run_bind, hu, Result.andThen_ok, bounds0 hg h, hn]
  simp

theorem slice_ok (hT : TOk P T) {ρ : Operand → Value} {g : Operand → PV} (hg : ∀ x, V β H w (ρ x) (g x)) {t : Nat} {x : Operand} {lo hi mx : Option Operand} {c : Bool} {v : PV}
    (h : sliceV T t (g x) (lo.map g) (hi.map g) (mx.map g) = (c, v)) (hc : c = true) (hk : ∀ d, T t = some d → (∀ n e, d.k ≠ .arr n e) ∧ ∀ e, d.k ≠ .ptr e) :
    Gives P β H w (Instr.sliceAt t (ρ x) (lo.map ρ) (hi.map ρ) (mx.map ρ)) v := by
  have hx := hg x
  unfold sliceV at h
  split at h
  · exact no_ne h hc
  rename_i d hd
  obtain ⟨u, hu, hku, _⟩ := run_underlying' (hT t d hd)
  split at h
  · rename_i m hm
    obtain ⟨mo, rfl, rfl⟩ : ∃ mo, mx = some mo ∧ g mo = m := by
      cases mx with
      | none => simp at hm
      | some mo => simp at hm; exact ⟨mo, rfl, hm⟩
    split at h
    · rename_i e hke
      rw [hke] at hku
      obtain rfl := kOk_slice hku
      split at h
      · exact no_ne h hc
      · rename_i de hde
        have key : ∀ (a : Option Addr) (len cap : Nat), ρ x = .slice a len cap → (zeroLit (lo.map g) && (zeroLit (hi.map g) && zeroLit (some (g mo)))) = true →
            Gives P β H w (Instr.sliceAt t (ρ x) (lo.map ρ) (hi.map ρ) ((some mo).map ρ)) .empt := fun a len cap e1 e2 => by
          rw [e1]; exact slice_zero hg (d := de) hu ⟨_, fun w => run_sizeOf' (hT e de hde)⟩ e2
        split at h
        · rename_i hp
          simp only [Prod.mk.injEq] at h; obtain ⟨rfl, rfl⟩ := h
          rw [hp] at hx
          exact key _ _ _ hx.nils_inv hc
        · rename_i hp
          simp only [Prod.mk.injEq] at h; obtain ⟨rfl, rfl⟩ := h
          rw [hp] at hx
          obtain ⟨a, ha⟩ := hx.empt_inv
          exact key _ _ _ ha hc
        · rename_i hp
          simp only [Prod.mk.injEq] at h; obtain ⟨rfl, rfl⟩ := h
          rw [hp] at hx
          obtain ⟨a, cap, ha, _⟩ := hx.sl_inv
          exact key _ _ _ ha hc
        · rename_i hp
          simp only [Prod.mk.injEq] at h; obtain ⟨rfl, rfl⟩ := h
          rw [hp] at hx
          obtain ⟨a, cap, ha, _⟩ := hx.buf_inv
          exact key _ _ _ ha hc
        · exact no_ne h hc
    · exact no_ne h hc
  · rename_i hm
    obtain rfl : mx = none := by cases mx with | none => rfl | some _ => simp at hm
    split at h
    · rename_i s hs
      rw [hs] at hx
      split at h
      · rename_i l' h' hkd hl hh
        rw [hkd] at hku
        obtain rfl := kOk_str hku
        simp only [Prod.mk.injEq] at h; obtain ⟨rfl, rfl⟩ := h
        simp only [Bool.and_eq_true, decide_eq_true_eq] at hc
        refine ⟨_, fun w2 => ?_, .str _⟩
        rw [hx.str_inv]
        unfold Instr.sliceAt
        simp only [Sem.run_bind, hu, Result.andThen_ok]
        unfold Instr.slice
        simp only [Sem.run_bind, hu, Result.andThen_ok, run_bounds hg false s.size s.size (Nat.le_refl _) hl hh hc.1 hc.2.1 hc.2.2, Option.map_none, Option.isSome_none, Bool.false_eq_true, if_false]
        rfl
      · exact no_ne h hc
    · rename_i m xs hs
      rw [hs] at hx
      split at h
      · rename_i e l' h' hkd hl hh
        rw [hkd] at hku
        obtain rfl := kOk_slice hku
        split at h
        · rename_i de hde
          simp only [Prod.mk.injEq] at h; obtain ⟨rfl, rfl⟩ := h
          simp only [Bool.and_eq_true, decide_eq_true_eq] at hc
          obtain ⟨a, cap, hv, hcap, _⟩ := hx.sl_inv
          rw [hv] at hx ⊢
          refine ⟨_, fun w2 => ?_, hx.sl_slice (l := l'.toNat) (h := h'.toNat) (by omega) (by omega)⟩
          unfold Instr.sliceAt
          simp only [Sem.run_bind, hu, Result.andThen_ok]
          unfold Instr.slice
          simp only [Sem.run_bind, hu, Result.andThen_ok, run_bounds hg true xs.length cap hcap hl hh hc.1 hc.2.1 hc.2.2.1, Option.map_none, run_sizeOf' (hT e de hde), hc.2.2.2]
          rfl
        · exact no_ne h hc
      · exact no_ne h hc
    · rename_i i ver off len m tip hs
      rw [hs] at hx
      split at h
      · rename_i e l' h' hkd hl hh
        rw [hkd] at hku
        obtain rfl := kOk_slice hku
        split at h
        · rename_i de hde
          simp only [Prod.mk.injEq] at h; obtain ⟨rfl, rfl⟩ := h
          simp only [Bool.and_eq_true, decide_eq_true_eq] at hc
          obtain ⟨a, cap, hv, hcap, _⟩ := hx.buf_inv
          rw [hv] at hx ⊢
          refine ⟨_, fun w2 => ?_, hx.buf_slice (l := l'.toNat) (h := h'.toNat) (by omega) (by omega) (fun ht => ?_)⟩
          · unfold Instr.sliceAt
            simp only [Sem.run_bind, hu, Result.andThen_ok]
            unfold Instr.slice
            simp only [Sem.run_bind, hu, Result.andThen_ok, run_bounds hg true len cap hcap hl hh hc.1 hc.2.1 hc.2.2.1, Option.map_none, run_sizeOf' (hT e de hde), hc.2.2.2]
            rfl
          · simp only [Bool.and_eq_true] at ht
            refine ⟨ht.1, ?_⟩
            cases lo with
            | some _ => simp at ht
            | none => simp only [Option.map_none, lim, Option.some.injEq] at hl; omega
        · exact no_ne h hc
      · exact no_ne h hc
    · exact no_ne h hc


theorem len_ok (hT : TOk P T) {ρ : Operand → Value} {g : Operand → PV} (hg : ∀ x, V β H w (ρ x) (g x)) {ts : Array TypeId} {ty : TypeId} {args : Array Operand} {c : Bool} {v : PV}
    (h : lenV T ts.toList (args.toList.map g) = (c, v)) (hc : c = true) : Gives P β H w (Builtin.len_ ts ty (args.map ρ)) v := by
  unfold lenV at h
  split at h
  · rename_i t ts' p ps ht hp
    have h0 : ts[0]? = some t := by rw [← Array.getElem?_toList, ht]; rfl
    obtain ⟨o, ho, rfl⟩ : ∃ o, args[0]? = some o ∧ g o = p := by
      rw [← Array.getElem?_toList]
      cases ha : args.toList with
      | nil => rw [ha] at hp; simp at hp
      | cons o l => rw [ha] at hp; simp only [List.map_cons, List.cons.injEq] at hp; exact ⟨o, rfl, hp.1⟩
    have h1 : (args.map ρ)[0]? = some (ρ o) := by simp [ho]
    have hx := hg o
    split at h
    · exact no_ne h hc
    rename_i d hd
    obtain ⟨u, hu, hku, _⟩ := run_underlying' (hT t d hd)
    unfold Builtin.len_
    split at h
    · rename_i s hk hs
      simp only [Prod.mk.injEq] at h; obtain ⟨_, rfl⟩ := h
      rw [hk] at hku; obtain rfl := kOk_str hku
      rw [hs] at hx
      exact ⟨_, fun w2 => by simp only [h0, h1, Sem.run_bind, hu, Result.andThen_ok, hx.str_inv]; rfl, .int ..⟩
    · rename_i e m xs hk hs
      simp only [Prod.mk.injEq] at h; obtain ⟨_, rfl⟩ := h
      rw [hk] at hku; obtain rfl := kOk_slice hku
      rw [hs] at hx
      obtain ⟨a, cap, ha, _⟩ := hx.sl_inv
      exact ⟨_, fun w2 => by simp only [h0, h1, Sem.run_bind, hu, Result.andThen_ok, ha]; rfl, .int ..⟩
    · rename_i e i ver off n m tip hk hs
      simp only [Prod.mk.injEq] at h; obtain ⟨_, rfl⟩ := h
      rw [hk] at hku; obtain rfl := kOk_slice hku
      rw [hs] at hx
      obtain ⟨a, cap, ha, _⟩ := hx.buf_inv
      exact ⟨_, fun w2 => by simp only [h0, h1, Sem.run_bind, hu, Result.andThen_ok, ha]; rfl, .int ..⟩
    · rename_i e hk hs
      simp only [Prod.mk.injEq] at h; obtain ⟨_, rfl⟩ := h
      rw [hk] at hku; obtain rfl := kOk_slice hku
      rw [hs] at hx
      exact ⟨_, fun w2 => by simp only [h0, h1, Sem.run_bind, hu, Result.andThen_ok, hx.nils_inv]; rfl, .int ..⟩
    · rename_i e hk hs
      simp only [Prod.mk.injEq] at h; obtain ⟨_, rfl⟩ := h
      rw [hk] at hku; obtain rfl := kOk_slice hku
      rw [hs] at hx
      obtain ⟨a, ha⟩ := hx.empt_inv
      exact ⟨_, fun w2 => by simp only [h0, h1, Sem.run_bind, hu, Result.andThen_ok, ha]; rfl, .int ..⟩
    · rename_i n e hk
      simp only [Prod.mk.injEq] at h; obtain ⟨_, rfl⟩ := h
      rw [hk] at hku; obtain rfl := kOk_arr hku
      exact ⟨_, fun w2 => by simp only [h0, h1, Sem.run_bind, hu, Result.andThen_ok]; rfl, .int ..⟩
    · exact no_ne h hc
  · exact no_ne h hc

theorem one_arg {ρ : Operand → Value} {g : Operand → PV} (hg : ∀ x, V β H w (ρ x) (g x)) {args : Array Operand} {p : PV} (h : args.toList.map g = [p]) :
    ∃ x, (args.map ρ).toList = [x] ∧ V β H w x p := by
  cases ha : args.toList with
  | nil => rw [ha] at h; simp at h
  | cons a l =>
    rw [ha] at h
    cases l with
    | cons b l => simp at h
    | nil =>
      simp at h
      exact ⟨ρ a, by rw [Array.toList_map, ha]; rfl, h ▸ hg a⟩
theorem two_args {ρ : Operand → Value} {g : Operand → PV} (hg : ∀ x, V β H w (ρ x) (g x)) {args : Array Operand} {p q : PV} (h : args.toList.map g = [p, q]) :
    ∃ x y, (args.map ρ).toList = [x, y] ∧ V β H w x p ∧ V β H w y q := by
  cases ha : args.toList with
  | nil => rw [ha] at h; simp at h
  | cons a l =>
    rw [ha] at h
    cases l with
    | nil => simp at h
    | cons b l =>
      cases l with
      | nil =>
        simp only [List.map_cons, List.map_nil, List.cons.injEq, and_true] at h
        exact ⟨ρ a, ρ b, by simp [ha], h.1 ▸ hg a, h.2 ▸ hg b⟩
      | cons _ _ => simp at h

theorem min_ok {ρ : Operand → Value} {g : Operand → PV} (hg : ∀ x, V β H w (ρ x) (g x)) {ts : Array TypeId} {ty : TypeId} {args : Array Operand} {c : Bool} {v : PV}
    (h : minV (args.toList.map g) = (c, v)) (hc : c = true) : Gives P β H w (Builtin.min_ ts ty (args.map ρ)) v := by
  unfold minV at h
  split at h
  · rename_i k a k' b hp
    simp only [Prod.mk.injEq] at h; obtain ⟨_, rfl⟩ := h
    obtain ⟨x, y, hl, hx, hy⟩ := two_args hg hp
    obtain rfl := hx.int_inv
    obtain rfl := hy.int_inv
    exact ⟨_, fun w2 => by unfold Builtin.min_; rw [hl]; rfl, .int ..⟩
  · exact no_ne h hc

theorem max_ok {ρ : Operand → Value} {g : Operand → PV} (hg : ∀ x, V β H w (ρ x) (g x)) {ts : Array TypeId} {ty : TypeId} {args : Array Operand} {c : Bool} {v : PV}
    (h : maxV (args.toList.map g) = (c, v)) (hc : c = true) : Gives P β H w (Builtin.max_ ts ty (args.map ρ)) v := by
  unfold maxV at h
  split at h
  · rename_i k a k' b hp
    simp only [Prod.mk.injEq] at h; obtain ⟨_, rfl⟩ := h
    obtain ⟨x, y, hl, hx, hy⟩ := two_args hg hp
    obtain rfl := hx.int_inv
    obtain rfl := hy.int_inv
    exact ⟨_, fun w2 => by unfold Builtin.max_; rw [hl]; rfl, .int ..⟩
  · exact no_ne h hc

theorem run_mapM {α γ : Type} (f : α → Sem γ) (gf : α → γ) (xs : Array α) (h : ∀ x ∈ xs.toList, (f x).run P w = .ok (gf x) w) : (xs.mapM f).run P w = .ok (xs.map gf) w := by
  rw [Array.mapM_eq_mapM_toList, Sem.run_map]
  have key : ∀ l : List α, (∀ x ∈ l, (f x).run P w = .ok (gf x) w) → (l.mapM f).run P w = .ok (l.map gf) w := by
    intro l
    induction l with
    | nil => intro _; rfl
    | cons a l ih =>
      intro hl
      simp only [List.mapM_cons, Sem.run_bind, hl a (by simp), Result.andThen_ok, ih (fun x hx => hl x (by simp [hx]))]
      rfl
  rw [key _ h, Result.andThen_ok, ← Array.toList_map, Array.toArray_toList]

theorem build_ok (hT : TOk P T) {ρ : Operand → Value} {g : Operand → PV} (hg : ∀ x, V β H w (ρ x) (g x)) {t : Nat} {parts : Array (Nat × Operand)} {c : Bool} {v : PV}
    (h : buildV T t (parts.toList.map fun p => (p.1, g p.2)) = (c, v)) (hc : c = true) : Gives P β H w (Instr.build t (parts.map fun (i, x) => (i, ρ x))) v := by
  unfold buildV at h
  split at h
  · exact no_ne h hc
  rename_i d hd
  obtain ⟨z, hz, hzV⟩ := run_zeroValue' (w := w) (β := β) (H := H) (hT t d hd)
  obtain ⟨u, hu, hku, _⟩ := run_underlying' (hT t d hd)
  have hrel : ∀ (i : Nat) (x : Nat × Value) (y : Nat × PV), (parts.map fun (i, x) => (i, ρ x)).toList[i]? = some x → (parts.toList.map fun p => (p.1, g p.2))[i]? = some y → x.1 = y.1 ∧ V β H w x.2 y.2 := by
    intro i x y hx hy
    simp only [Array.toList_map, List.getElem?_map, Array.getElem?_toList] at hx hy
    cases ho : parts[i]? with
    | none => rw [ho] at hx; cases hx
    | some o =>
      rw [ho] at hx hy
      simp only [Option.map_some, Option.some.injEq] at hx hy
      subst hx; subst hy
      exact ⟨rfl, hg _⟩
  split at h
  · rename_i cs hzero
    rw [hzero] at hzV
    obtain ⟨vs, rfl, hs, hv⟩ := hzV.agg_inv
    split at h
    · rename_i fl hk
      rw [hk] at hku
      obtain ⟨fds, rfl, hfl⟩ := kOk_struct hku
      split at h
      · rename_i hall
        have hsz : ∀ f ∈ fds.toList, ∃ df, T f.type = some df := fun f hf => by
          have := List.all_eq_true.mp hall (f.offset, f.type) (by rw [hfl]; exact List.mem_map.2 ⟨f, hf, rfl⟩)
          exact Option.isSome_iff_exists.mp this
        obtain ⟨r, hr, hV⟩ := fill_ok _ _ _ vs cs (by simp) hrel hs hv h hc
        refine ⟨.agg r, fun w2 => ?_, hV⟩
        unfold Instr.build
        have hm : (fds.mapM fun f => (do pure (f.offset, ← sizeOf f.type) : Sem (Nat × Nat))).run P w2 = .ok (fds.map fun f => (f.offset, ((T f.type).map (·.size)).getD 0)) w2 := by
          refine run_mapM _ _ fds fun f hf => ?_
          obtain ⟨df, hdf⟩ := hsz f hf
          simp only [Sem.run_bind, run_sizeOf' (hT _ df hdf), Result.andThen_ok, hdf, Option.map_some, Option.getD_some]
          rfl
        simp only [Sem.run_bind, hz, hu, Result.andThen_ok, Value.cells, hm]
        have hpl : (fun x => (fds.map fun f => (f.offset, ((T f.type).map (·.size)).getD 0))[x]?) = fun i => (fieldOf T t i).map fun x => (x.1, x.2.size) := by
          funext i
          unfold fieldOf
          simp only [hd, hk, hfl, List.getElem?_map, Array.getElem?_map, Array.getElem?_toList]
          cases hi : fds[i]? with
          | none => rfl
          | some f =>
            obtain ⟨df, hdf⟩ := hsz f (by
              have := Array.mem_of_getElem? hi
              simpa using this)
            simp [hdf]
        rw [hpl, hr]
        rfl
      · exact no_ne h hc
    · rename_i n e hk
      rw [hk] at hku
      obtain rfl := kOk_arr hku
      split at h
      · rename_i de hde
        obtain ⟨r, hr, hV⟩ := fill_ok _ _ _ vs cs (by simp) hrel hs hv h hc
        refine ⟨.agg r, fun w2 => ?_, hV⟩
        unfold Instr.build
        simp only [Sem.run_bind, hz, hu, Result.andThen_ok, run_sizeOf' (hT e de hde), Value.cells, hr]
        rfl
      · exact no_ne h hc
    · exact no_ne h hc
  · exact no_ne h hc


theorem arrayAt_ok (hT : TOk P T) {t : Nat} {x : Value} {p : PV} {c : Bool} {v : PV} (hx : V β H w x p) (h : arrayAtV T t p = (c, v)) (hc : c = true) : Gives P β H w (Instr.arrayAt t x) v := by
  unfold arrayAtV at h
  split at h
  · rename_i d hd
    obtain ⟨u, hu, hku, _⟩ := run_underlying' (hT t d hd)
    split at h
    · rename_i n e i ver off len m tip hk
      simp only [Prod.mk.injEq] at h
      obtain ⟨h1, rfl⟩ := h
      rw [hc] at h1
      simp only [Bool.and_eq_true, decide_eq_true_eq, Bool.not_eq_true', decide_eq_false_iff_not] at h1
      rw [hk] at hku; obtain rfl := kOk_arr hku
      obtain ⟨a, cap, rfl, hlc, ha, hi, hl⟩ := hx.buf_inv
      obtain ⟨b, rfl⟩ := ha h1.2
      refine ⟨.pointer (some ⟨b, off, none⟩), fun w2 => ?_, .ptr b i ver off hi fun hlv => ?_⟩
      · simp only [Instr.arrayAt, Sem.run_bind, hu, Result.andThen_ok]
        rw [if_neg (by omega)]
        rfl
      · obtain ⟨hn, hs⟩ := hl hlv
        cases hb : β i with
        | none => have := (hn hb).1; omega
        | some b' =>
          rcases hs b' hb with ⟨h0, _⟩ | ⟨he, _⟩
          · exact absurd h0 h1.2
          · cases he; rfl
    · exact no_ne h hc
  · exact no_ne h hc

theorem yes_gives {ρ : Operand → Value} {o : Oper} {v : PV} {s : Sem Value} (e : execOp ρ o = (do pure (.value (← s)))) (h : Gives P β H w s v) : Yes P ρ o β H w v := yes_of e h

theorem pure_ok (hT : TOk P T) {ρ : Operand → Value} {g : Operand → PV} (hg : ∀ x, V β H w (ρ x) (g x)) {o : Oper} {c : Bool} {v : PV}
    (h : pureOp T g o.op = some (c, v)) (hc : c = true) : Yes P ρ o β H w v := by
  obtain ⟨dst, op, ty, pos, after, guard⟩ := o
  cases op <;> simp only [pureOp, Option.some.injEq] at h <;> try (cases h; done)
  case move x => simp only [Prod.mk.injEq] at h; obtain ⟨_, rfl⟩ := h; exact ⟨ρ x, fun _ => rfl, hg x⟩
  case assign x => simp only [Prod.mk.injEq] at h; obtain ⟨_, rfl⟩ := h; exact ⟨ρ x, fun _ => rfl, hg x⟩
  case pick c' a b =>
    have hcv := hg c'
    unfold pickV at h
    split at h
    · rename_i e
      simp only [Prod.mk.injEq] at h; obtain ⟨_, rfl⟩ := h
      rw [e] at hcv
      exact ⟨ρ a, fun w2 => by simp only [execOp, hcv.bool_inv, asBool]; rfl, hg a⟩
    · rename_i e
      simp only [Prod.mk.injEq] at h; obtain ⟨_, rfl⟩ := h
      rw [e] at hcv
      exact ⟨ρ b, fun w2 => by simp only [execOp, hcv.bool_inv, asBool]; rfl, hg b⟩
    · exact no_ne h hc
  case binOp op t x y yt =>
    split at h
    · cases h
    · exact yes_of rfl (binV_ok hT op t x y (hg x) (hg y) (Option.some.inj h) hc)
  case unOp op t x => exact yes_gives rfl (un_ok (hg x) h hc)
  case nilCheck x =>
    have hx := hg x
    unfold nilCheckV at h
    split at h
    · rename_i e
      simp only [Prod.mk.injEq] at h; obtain ⟨_, rfl⟩ := h
      rw [e] at hx
      obtain ⟨b, hb, _⟩ := hx.ptr_inv
      exact ⟨ρ x, fun w2 => by simp only [execOp, hb]; rfl, hx⟩
    · rename_i e
      simp only [Prod.mk.injEq] at h; obtain ⟨_, rfl⟩ := h
      rw [e] at hx
      obtain ⟨b, off, f, hb, _⟩ := hx.cptr_inv
      exact ⟨ρ x, fun w2 => by simp only [execOp, hb]; rfl, hx⟩
    · exact no_ne h hc
  case convert s d x =>
    split at h
    · rename_i ds dd hs hd
      exact yes_gives rfl (conv_ok hT hs hd (hg x) h hc)
    · exact no_ne (Option.some.inj h) hc
  case index t x i => exact yes_gives rfl (index_ok hT (hg x) (hg i) h hc)
  case extract x i => exact yes_gives rfl (extract_ok (hg x) h hc)
  case field t x f => exact yes_gives rfl (field_ok hT (hg x) h hc)
  case fieldAddr t x f => exact yes_gives rfl (fieldAddr_ok hT (hg x) h hc)
  case indexAddr t x i => exact yes_gives rfl (elemAddr_ok hT (hg x) (hg i) h hc)
  case build t parts => exact yes_gives rfl (build_ok hT hg h hc)
  case makeFunc fn a b =>
    simp only [Prod.mk.injEq] at h; obtain ⟨_, rfl⟩ := h
    obtain ⟨h1, h2⟩ := map_args hg a
    obtain ⟨h3, h4⟩ := map_args hg b
    exact yes_gives (s := Instr.makeFunc fn (a.map ρ) (b.map ρ)) rfl ⟨_, fun _ => rfl, .func _ _ _ _ _ h1 h3 h2 h4⟩
  case makeInterface t x => exact yes_gives rfl (makeIface_ok hT (hg x) h hc)
  case sliceToArrayPointer t x => exact yes_gives (s := Instr.arrayAt t (ρ x)) rfl (arrayAt_ok hT (hg x) h hc)
  case slice t x lo hi mx =>
    split at h
    · exact no_ne (Option.some.inj h) hc
    · rename_i d hd
      split at h
      · cases h
      · cases h
      · rename_i h1 h2
        exact yes_gives rfl (slice_ok hT hg (Option.some.inj h) hc fun d' hd' => by
          rw [hd] at hd'; cases hd'; exact ⟨h1, h2⟩)
  case call cl =>
    obtain ⟨callee, args, ts⟩ := cl
    simp only at h
    split at h
    · split at h
      · cases h
      · exact yes_gives (s := Builtin.len_ ts ty (args.map ρ)) rfl (len_ok hT hg (Option.some.inj h) hc)
    · exact yes_gives (s := Builtin.min_ ts ty (args.map ρ)) rfl (min_ok hg (Option.some.inj h) hc)
    · exact yes_gives (s := Builtin.max_ ts ty (args.map ρ)) rfl (max_ok hg (Option.some.inj h) hc)
    · cases h

end Go.Proofs.SL

/-
  SL: keys of maps: numbers, bools, texts, structs and arrays of these; what reads a map; '==' of pointers. No claim by itself.
-/
namespace Go.Proofs.SL
open Go Go.MapKept
set_option linter.unusedSimpArgs false
set_option linter.unusedVariables false

section
variable {P : Program}
def CkT (P : Program) (dd : Nat) (e : TypeId) (l : List Tag) : Prop :=
  ∀ (em : Bool) (w : World) (x : Value), Shp P e x → x.cells.toList.map tagV = l.map some → (Instr.checkKey em dd e x).run P w = .ok () w

theorem ck_fields {em : Bool} {dd d : Nat} {w : World} {xs : Array Value} (IH : ∀ e l, tagsOf P d e = some l → CkT P dd e l) :
    ∀ (fs : List Field) (o : Nat) (l : List Tag) (p : List (Option Tag)), tagsFs P (tagsOf P d) fs o = some l → p.length = o → xs.toList.map tagV = p ++ l.map some →
      ∀ f ∈ fs, f.name ≠ "_" ∧ ∃ x, (part f.type xs f.offset).run P w = .ok x w ∧ (Instr.checkKey em dd f.type x).run P w = .ok () w
  | [], _, _, _, _, _, _ => by simp
  | f :: fs, o, l, p, hl, hp, hx => by
    simp only [tagsFs] at hl
    split at hl
    · rename_i hf
      split at hl
      · rename_i lf hlf
        split at hl
        · rename_i hn
          split at hl
          · rename_i r hr
            cases hl
            rw [List.map_append] at hx
            have hne : f.name ≠ "_" := by simpa using hf.2
            obtain ⟨x, hx1, hx2, hx3, hx4⟩ := part_tag w hlf hn (xs := xs) (p := p) (q := r.map some) (hp.trans hf.1.symm) (by rw [hx]; simp)
            intro g hg
            rcases List.mem_cons.1 hg with rfl | hg
            · exact ⟨hne, x, hx1, IH _ _ hlf em w x hx2 hx3⟩
            · exact ck_fields IH fs (o + lf.length) r (p ++ lf.map some) hr (by simp [hp]) (by rw [hx, List.append_assoc]) g hg
          · cases hl
        · cases hl
      · cases hl
    · cases hl

theorem ck_tag (dd : Nat) : ∀ (d : Nat) (e : TypeId) (l : List Tag), tagsOf P d e = some l → CkT P (dd + d) e l
  | 0, _, _, h => by simp [tagsOf] at h
  | d + 1, e, l, hl => by
    intro em w x sx hx
    unfold tagsOf at hl
    unfold Shp at sx
    cases hu : P.underlying e with
    | none => simp [hu] at hl
    | some u =>
      rw [hu] at hl sx
      rw [show dd + (d + 1) = (dd + d) + 1 from rfl, Instr.checkKey]
      cases u <;> simp only at hl sx <;> try (cases hl; done)
      case bool => simp only [Sem.run_bind, run_underlying hu, Result.andThen_ok]; rfl
      case string => simp only [Sem.run_bind, run_underlying hu, Result.andThen_ok]; rfl
      case int k => simp only [Sem.run_bind, run_underlying hu, Result.andThen_ok]; rfl
      case array n e' =>
        obtain ⟨xs, rfl⟩ := sx
        split at hl
        · rename_i l' hl'
          split at hl
          · rename_i hn
            cases hl
            have hi : ∃ i, P.info? e' = some i := by
              cases d with
              | zero => simp [tagsOf] at hl'
              | succ d' =>
                unfold tagsOf at hl'
                cases hue : P.underlying e' with
                | none => simp [hue] at hl'
                | some _ => exact info_of_underlying hue
            obtain ⟨i, hi⟩ := hi
            have IH := ck_tag dd d e' l' hl'
            simp only [Sem.run_bind, run_underlying hu, Result.andThen_ok]
            simp only [Std.Legacy.Range.forIn_eq_forIn_range', Std.Legacy.Range.size, Nat.sub_zero, Nat.add_one_sub_one, Nat.div_one]
            have each : ∀ j ∈ List.range' 0 n, ∃ a, (part e' xs (j * P.cellsOf e')).run P w = .ok a w ∧ (Instr.checkKey em (dd + d) e' a).run P w = .ok () w := fun j hj => by
              have hj' : j < n := by simpa using (List.mem_range'_1.mp hj).2
              have hr : (List.replicate n l').flatten.map some = (List.replicate j l').flatten.map some ++ l'.map some ++ (List.replicate (n - j - 1) l').flatten.map some := by
                rw [← List.map_append, ← List.map_append]
                congr 1
                have : n = j + (1 + (n - j - 1)) := by omega
                conv => lhs; rw [this, ← List.replicate_append_replicate, ← List.replicate_append_replicate]
                simp
              obtain ⟨a, h1, h2, h3, h4⟩ := part_tag w hl' hn (xs := xs) (off := j * P.cellsOf e') (p := (List.replicate j l').flatten.map some) (q := (List.replicate (n - j - 1) l').flatten.map some) (by simp [hn]) (by rw [← hr]; exact hx)
              exact ⟨a, h1, IH em w a h2 h3⟩
            generalize List.range' 0 n = is at each
            induction is with
            | nil => simp
            | cons j is ih =>
              obtain ⟨a, p1, p2⟩ := each j (by simp)
              simp only [List.forIn_cons, Sem.run_bind, run_sizeOf w hi, Result.andThen_ok, p1, p2, Sem.run_pure]
              exact ih fun y hy => each y (by simp [hy])
          · cases hl
        · cases hl
      case struct fs =>
        obtain ⟨xs, rfl⟩ := sx
        split at hl
        · have each := ck_fields (em := em) (w := w) (xs := xs) (fun e l h => ck_tag dd d e l h) fs.toList 0 l [] hl rfl (by simpa using show xs.toList.map tagV = _ from hx)
          simp only [Sem.run_bind, run_underlying hu, Result.andThen_ok]
          rw [← Array.forIn_toList]
          generalize fs.toList = L at each
          induction L with
          | nil => simp
          | cons f L ih =>
            obtain ⟨hn, a, p1, p2⟩ := each f (by simp)
            simp only [List.forIn_cons, Sem.run_bind, hn, ne_eq, not_false_eq_true, if_true, Result.andThen_ok, p1, p2, Sem.run_pure]
            exact ih fun y hy => each y (by simp [hy])
        · cases hl

theorem bits_tag {v : Value} {g : Tag} (h : tagV v = some g) (n : Nat) : Instr.sameBits n v v = true := by
  cases v <;> simp [tagV] at h <;> cases n <;> simp [Instr.sameBits, bytes_beq]
theorem bits_agg {vs : Array Value} {l : List Tag} (h : vs.toList.map tagV = l.map some) (n : Nat) : Instr.sameBits (n + 1) (.agg vs) (.agg vs) = true := by
  simp only [Instr.sameBits, beq_self_eq_true, Bool.true_and, List.all_eq_true]
  intro p hp
  obtain ⟨i, hi, e⟩ := List.getElem_of_mem hp
  rw [List.getElem_zip] at e
  rw [← e]
  have hil : i < vs.toList.length := by simp at hi; simpa using hi
  have hg : ∃ g, tagV vs.toList[i] = some g := by
    have := congrArg (fun L : List (Option Tag) => L[i]?) h
    simp only [List.getElem?_map, List.getElem?_eq_getElem hil, Option.map_some] at this
    cases hl : l[i]? with
    | none => rw [hl] at this; cases this
    | some g => rw [hl] at this; exact ⟨g, by simpa using this⟩
  obtain ⟨g, hg⟩ := hg
  exact bits_tag hg n
end

section
variable {P : Program} {β : Nat → Option Nat} {H : Heap} {w : World}
theorem key_same {d : TypeDesc} {tk : TK} (hd : kOk d tk) {a b : Value} {p q : PV} (ha : V β H w a p) (hb : V β H w b q) (hp : isKeyT tk p = true) (hq : isKeyT tk q = true) :
    Instr.sameNow d a b = some (keyB p q) ∧ IsKey d a := by
  cases tk <;> cases p <;> simp only [isKeyT, Bool.false_eq_true, decide_eq_true_eq] at hp <;> cases q <;> simp only [isKeyT, Bool.false_eq_true, decide_eq_true_eq] at hq
  all_goals cases d <;> simp only [kOk] at hd
  · rename_i k k1 n1 k2 n2 k3
    subst hd hp hq
    rw [ha.int_inv, hb.int_inv]
    refine ⟨?_, rfl⟩
    simp only [Instr.sameNow, ↓reduceIte, keyB, true_and, Option.some.injEq]
    rw [Bool.eq_iff_iff]; simp
  · rw [ha.bool_inv, hb.bool_inv]
    refine ⟨?_, trivial⟩
    simp only [Instr.sameNow, keyB, Option.some.injEq]
    rw [Bool.eq_iff_iff]; simp
  · rw [ha.str_inv, hb.str_inv]
    refine ⟨?_, trivial⟩
    simp only [Instr.sameNow, keyB, Option.some.injEq]
    rw [Bool.eq_iff_iff, bytes_beq]; simp

theorem isKeyT_agg {k : TK} {cs : List PV} : isKeyT k (.agg cs) = false := by cases k <;> rfl

/-- A key that is a struct or an array. -/
theorem isKeyP_cases {d : TD} {p : PV} (h : isKeyP d p = true) : (isKeyT d.k p = true ∧ ∀ cs, p ≠ .agg cs) ∨ ∃ cs l, p = .agg cs ∧ d.agg = true ∧ d.tags = some l ∧ cs.map tagP = l.map some := by
  unfold isKeyP at h
  split at h
  · rename_i cs
    simp only [Bool.and_eq_true] at h
    obtain ⟨h1, h2⟩ := h
    split at h2
    · rename_i l hl; exact .inr ⟨cs, l, rfl, h1, hl, of_decide_eq_true h2⟩
    · cases h2
  · rename_i hn; exact .inl ⟨h, fun cs e => hn cs e⟩

theorem aggOf_tk {u : TypeDesc} {k : TK} (h : kOk u k) (ha : aggOf u = true) (p : PV) : isKeyT k p = false := by
  cases u <;> simp [aggOf] at ha <;> cases k <;> simp only [kOk] at h <;> (try (cases h; done)) <;> cases p <;> rfl

theorem sh_agg {t : Nat} {d : TD} (hT : TdOk P t d) (ha : d.agg = true) (z : Array Value) : Shp P t (.agg z) := by
  obtain ⟨u, hu, _, hua, _⟩ := hT.und
  unfold Shp
  rw [hu]
  rw [ha] at hua
  cases u <;> simp [aggOf] at hua <;> exact ⟨_, rfl⟩

/-- What 'checkKey' makes of a key. -/
theorem run_ck {kt : TypeId} {dk : TD} (hT : TdOk P kt dk) {k : Value} {p : PV} (hv : V β H w k p) (hp : isKeyP dk p = true) (em : Bool) : (Instr.checkKey em 10000 kt k).run P w = .ok () w := by
  obtain ⟨u, hu, hk, _⟩ := hT.und
  rcases isKeyP_cases hp with ⟨h1, _⟩ | ⟨cs, l, rfl, h1, h2, h3⟩
  · exact Go.MapKept.run_checkKey hu (key_same hk hv hv h1 h1).2 em 9999
  · obtain ⟨vs, rfl, s1, v1⟩ := hv.agg_inv
    obtain ⟨_, t1⟩ := vals_tags (vs := vs.toList) (ps := cs) (by simpa using s1) (fun i v p h h' => v1 i v p (by simpa using h) h') h3
    exact ck_tag 9988 12 kt l (hT.tags l h2).2 em w _ (sh_agg hT h1 vs) t1

theorem key_val {d : TD} {a b : Value} {p q : PV} (ha : V β H w a p) (hb : V β H w b q) (hp : isKeyP d p = true) (h : keyB p q = true) : a = b := by
  cases p <;> cases q <;> simp only [keyB, Bool.false_eq_true, decide_eq_true_eq] at h
  · rw [ha.bool_inv, hb.bool_inv, h]
  · rw [ha.int_inv, hb.int_inv, h.1, h.2]
  · rw [ha.str_inv, hb.str_inv, h]
  · subst h
    rcases isKeyP_cases hp with ⟨_, h1⟩ | ⟨cs, l, e, h1, h2, h3⟩
    · exact absurd rfl (h1 _)
    · cases e
      obtain ⟨vs, rfl, s1, v1⟩ := ha.agg_inv
      obtain ⟨ws, rfl, s2, v2⟩ := hb.agg_inv
      obtain ⟨t1, _⟩ := vals_tags (vs := vs.toList) (by simpa using s1) (fun i v p h h' => v1 i v p (by simpa using h) h') h3
      obtain ⟨t2, _⟩ := vals_tags (vs := ws.toList) (by simpa using s2) (fun i v p h h' => v2 i v p (by simpa using h) h') h3
      congr 1
      exact Array.toList_inj.mp (t1.trans t2.symm)

theorem run_stays {d : TD} {k : Value} {p : PV} (hv : V β H w k p) (hp : isKeyP d p = true) : (Instr.keyThatStays k k).run P w = .ok k w := by
  have : Instr.sameBits 10000 k k = true := by
    rcases isKeyP_cases hp with ⟨h1, _⟩ | ⟨cs, l, rfl, h1, h2, h3⟩
    · cases hk : d.k <;> rw [hk] at h1 <;> cases p <;> simp only [isKeyT, Bool.false_eq_true] at h1
      · rw [hv.int_inv]; simp [Instr.sameBits]
      · rw [hv.bool_inv]; simp [Instr.sameBits]
      · rw [hv.str_inv]; simp [Instr.sameBits, bytes_beq]
    · obtain ⟨vs, rfl, s1, v1⟩ := hv.agg_inv
      obtain ⟨_, t1⟩ := vals_tags (vs := vs.toList) (ps := cs) (by simpa using s1) (fun i v p h h' => v1 i v p (by simpa using h) h') h3
      exact bits_agg t1 9999
  simp [Instr.keyThatStays, this]

theorem find_now {d : TypeDesc} {tk : TK} (hd : kOk d tk) {k : Value} {p : PV} (hv : V β H w k p) (hp : isKeyT tk p = true) : ∀ (c : List MapEntry) (es : List (PV × PV)) (i : Nat), c.length = es.length →
    (∀ (j : Nat) (e : MapEntry) (q : PV × PV), c[j]? = some e → es[j]? = some q → V β H w e.key q.1 ∧ V β H w e.val q.2) → (∀ q ∈ es, isKeyT tk q.1 = true) →
    (findP p es i = none ∧ Instr.findNow d k c i = some none) ∨
    ∃ j e q, findP p es i = some (i + j, q.2) ∧ Instr.findNow d k c i = some (some (i + j, e.val)) ∧ c[j]? = some e ∧ es[j]? = some q ∧ keyB p q.1 = true
  | [], [], i, _, _, _ => .inl ⟨rfl, rfl⟩
  | [], _ :: _, _, h, _, _ => by simp at h
  | _ :: _, [], _, h, _, _ => by simp at h
  | e :: c, q :: es, i, h, hV, hK => by
    obtain ⟨h1, h2⟩ := hV 0 e q rfl rfl
    obtain ⟨hs, _⟩ := key_same hd hv h1 hp (hK q (by simp))
    cases hb : keyB p q.1 with
    | true =>
      right
      refine ⟨0, e, q, ?_, ?_, rfl, rfl, hb⟩
      · unfold findP; rw [if_pos hb]; rfl
      · unfold Instr.findNow; rw [hs, hb]; rfl
    | false =>
      have hb' : ¬ keyB p q.1 = true := by rw [hb]; decide
      rcases find_now hd hv hp c es (i + 1) (by simpa using h) (fun j e' q' a b => hV (j + 1) e' q' (by simpa using a) (by simpa using b)) (fun q' hq' => hK q' (List.mem_cons_of_mem _ hq')) with ⟨a, b⟩ | ⟨j, e', q', a, b, a2, b2, b3⟩
      · left
        refine ⟨?_, ?_⟩
        · unfold findP; rw [if_neg hb']; exact a
        · unfold Instr.findNow; rw [hs, hb]; exact b
      · right
        refine ⟨j + 1, e', q', ?_, ?_, by simpa using a2, by simpa using b2, b3⟩
        · unfold findP; rw [if_neg hb', a]; congr 2; omega
        · unfold Instr.findNow; rw [hs, hb]; simp only; rw [b]; congr 3; omega

theorem find_ask {kt : TypeId} {dk : TD} (hT : TdOk P kt dk) {k : Value} {cs : List PV} {l : List Tag} (ha : dk.agg = true) (hl : dk.tags = some l) (hv : V β H w k (.agg cs)) (ht : cs.map tagP = l.map some) :
    ∀ (c : List MapEntry) (es : List (PV × PV)) (i : Nat), c.length = es.length →
    (∀ (j : Nat) (e : MapEntry) (q : PV × PV), c[j]? = some e → es[j]? = some q → V β H w e.key q.1 ∧ V β H w e.val q.2) → (∀ q ∈ es, ∃ ds, q.1 = .agg ds ∧ ds.map tagP = l.map some) →
    (findP (.agg cs) es i = none ∧ (Instr.findAsking kt k c i).run P w = .ok none w) ∨
    ∃ j e q, findP (.agg cs) es i = some (i + j, q.2) ∧ (Instr.findAsking kt k c i).run P w = .ok (some (i + j, e.val)) w ∧ c[j]? = some e ∧ es[j]? = some q ∧ keyB (.agg cs) q.1 = true
  | [], [], i, _, _, _ => .inl ⟨rfl, by simp [Instr.findAsking]⟩
  | [], _ :: _, _, h, _, _ => by simp at h
  | _ :: _, [], _, h, _, _ => by simp at h
  | e :: c, q :: es, i, h, hV, hK => by
    obtain ⟨h1, h2⟩ := hV 0 e q rfl rfl
    obtain ⟨ds, hq, hdt⟩ := hK q (by simp)
    rw [hq] at h1
    obtain ⟨vs, ws, b, ek, eq, _, hr, hbv⟩ := run_eqAgg hT hv h1 (c := true) (v := .bool (keyB (.agg cs) q.1)) (by unfold eqAgg; rw [hl, hq]; simp [ha, ht, hdt, keyB]) rfl
    simp only [PV.bool.injEq] at hbv
    have hr' := hr w
    rw [← hbv] at hr'
    cases hb : keyB (.agg cs) q.1 with
    | true =>
      right
      rw [hb] at hr'
      refine ⟨0, e, q, ?_, ?_, rfl, rfl, hb⟩
      · unfold findP; rw [if_pos hb]; rfl
      · simp [Instr.findAsking, hr']
    | false =>
      rw [hb] at hr'
      have hb' : ¬ keyB (.agg cs) q.1 = true := by rw [hb]; decide
      rcases find_ask hT ha hl hv ht c es (i + 1) (by simpa using h) (fun j e' q' a b => hV (j + 1) e' q' (by simpa using a) (by simpa using b)) (fun q' hq' => hK q' (List.mem_cons_of_mem _ hq')) with ⟨a, b⟩ | ⟨j, e', q', a, b, a2, b2, b3⟩
      · left
        refine ⟨?_, ?_⟩
        · unfold findP; rw [if_neg hb']; exact a
        · simp [Instr.findAsking, hr', b]
      · right
        refine ⟨j + 1, e', q', ?_, ?_, by simpa using a2, by simpa using b2, b3⟩
        · unfold findP; rw [if_neg hb', a]; congr 2; omega
        · simp only [Instr.findAsking, Sem.run_bind, hr', Result.andThen_ok, Bool.false_eq_true, if_false, b]; congr 3; omega

/-- Where a key stands. -/
theorem find_rel {kt : TypeId} {dk : TD} (hT : TdOk P kt dk) {k : Value} {p : PV} (hv : V β H w k p) (hp : isKeyP dk p = true) (c : List MapEntry) (es : List (PV × PV)) (hc : c.length = es.length)
    (hV : ∀ (j : Nat) (e : MapEntry) (q : PV × PV), c[j]? = some e → es[j]? = some q → V β H w e.key q.1 ∧ V β H w e.val q.2) (hK : ∀ q ∈ es, isKeyP dk q.1 = true) :
    (findP p es 0 = none ∧ (Instr.findKey kt k c).run P w = .ok none w) ∨
    ∃ j e q, findP p es 0 = some (j, q.2) ∧ (Instr.findKey kt k c).run P w = .ok (some (j, e.val)) w ∧ c[j]? = some e ∧ es[j]? = some q ∧ keyB p q.1 = true := by
  obtain ⟨u, hu, hk, hua, _⟩ := hT.und
  rcases isKeyP_cases hp with ⟨h1, h0⟩ | ⟨cs, l, rfl, h1, h2, h3⟩
  · have hK' : ∀ q ∈ es, isKeyT dk.k q.1 = true := fun q hq => by
      rcases isKeyP_cases (hK q hq) with ⟨h, _⟩ | ⟨_, _, _, h, _⟩
      · exact h
      · rw [h] at hua
        have := aggOf_tk hk hua.symm p
        rw [h1] at this; cases this
    rcases find_now hk hv h1 c es 0 hc hV hK' with ⟨a, b⟩ | ⟨j, e, q, a, b, a2, b2, b3⟩
    · exact .inl ⟨a, Go.MapKept.run_findKey hu b⟩
    · rw [Nat.zero_add] at a b
      exact .inr ⟨j, e, q, a, Go.MapKept.run_findKey hu b, a2, b2, b3⟩
  · have hag : aggOf u = true := by rw [← hua]; exact h1
    have hK' : ∀ q ∈ es, ∃ ds, q.1 = .agg ds ∧ ds.map tagP = l.map some := fun q hq => by
      rcases isKeyP_cases (hK q hq) with ⟨h, _⟩ | ⟨ds, l', e1, _, e2, e3⟩
      · have := aggOf_tk hk hag q.1
        rw [h] at this; cases this
      · rw [h2] at e2; cases e2; exact ⟨ds, e1, e3⟩
    cases c with
    | nil =>
      cases es with
      | nil => exact .inl ⟨rfl, Go.MapKept.run_findKey hu rfl⟩
      | cons q es => simp at hc
    | cons e c =>
      have hnow : Instr.findNow u k (e :: c) 0 = none := by
        unfold Instr.findNow
        have : Instr.sameNow u k e.key = none := by cases u <;> simp [aggOf] at hag <;> simp [Instr.sameNow]
        rw [this]
      have hfk : (Instr.findKey kt k (e :: c)).run P w = (Instr.findAsking kt k (e :: c)).run P w := by
        simp [Instr.findKey, run_underlying hu, hnow]
      rw [hfk]
      rcases find_ask hT h1 h2 hv h3 (e :: c) es 0 hc hV hK' with ⟨a, b⟩ | ⟨j, e', q', a, b, a2, b2, b3⟩
      · exact .inl ⟨a, b⟩
      · rw [Nat.zero_add] at a b
        exact .inr ⟨j, e', q', a, b, a2, b2, b3⟩

/-- As 'Gives', for as long as the heap is as it is. -/
def GivesR (P : Program) (β : Nat → Option Nat) (H : Heap) (w : World) (s : Sem Value) (v : PV) : Prop := ∃ r, (∀ w2 : World, w2.heap = w.heap → s.run P w2 = .ok r w2) ∧ V β H w r v
theorem cell_same {w2 : World} (h : w2.heap = w.heap) (a : Addr) : w2.cell? a = w.cell? a := cell?_of_heap (by rw [h])
theorem V.of_heap {w2 : World} (h : w2.heap = w.heap) {v : Value} {p : PV} (hv : V β H w v p) : V β H w2 v p := by
  induction hv with
  | any v => exact .any v
  | bool b => exact .bool b
  | int k n => exact .int k n
  | str s => exact .str s
  | agg vs ps hs h ih => exact .agg vs ps hs ih
  | tup vs ps hs h ih => exact .tup vs ps hs ih
  | nilp => exact .nilp
  | ptr b i ver off hi h => exact .ptr b i ver off hi h
  | nils => exact .nils
  | empt a => exact .empt a
  | sl0 a c m => exact .sl0 a c m
  | sl b off cap m xs f hb hm hc h1 h2 h3 ih => exact .sl b off cap m xs f ⟨by rw [h]; exact hb.1, hb.2⟩ hm hc (fun k hk => (cell_same h _).trans (h1 k hk)) ih h3
  | buf a cap i ver off len m tip hc ha hi hh =>
    refine .buf a cap i ver off len m tip hc ha hi fun hl => ⟨(hh hl).1, fun b hb => ?_⟩
    have : bsize w2 b = bsize w b := by unfold bsize; rw [h]
    rw [this]; exact (hh hl).2 b hb
  | cptr b off p f hb h1 h2 h3 ih => exact .cptr b off p f ⟨by rw [h]; exact hb.1, hb.2⟩ (fun k hk => (cell_same h _).trans (h1 k hk)) ih h3
  | func fn vs ws ps qs hs hs' h h' ih ih' => exact .func fn vs ws ps qs hs hs' ih ih'
  | nilf => exact .nilf
  | iface t v p h ih => exact .iface t v p ih
  | nili => exact .nili
  | nilm => exact .nilm
  | mp b i hi hh => exact .mp b i hi hh
  | yld b i hi hh => exact .yld b i hi hh

theorem V.mp_inv {v : Value} {i : Nat} (h : V β H w v (.mp i)) : ∃ b, v = .map (some b) ∧ Ref H i 0 ∧ (Live H i 0 → β i = some b) := by
  cases h with | mp b _ hi h => exact ⟨b, rfl, hi, h⟩
theorem V.nilm_inv {v : Value} (h : V β H w v .nilm) : v = .map none := by cases h; rfl

/-- A map, as the world holds it. -/
theorem Inv.entries (hI : Inv β H w) {i : Nat} {o : OB} {es : List (PV × PV)} (ho : H[i]? = some (some o)) (he : entriesO o = some es) : Live H i 0 ∧ ∃ (b : Nat) (c : Array MapEntry) (n : Nat), β i = some b ∧ w.heap[b]? = some (.map c n) ∧ c.size = es.length ∧
    ∀ (j : Nat) (e : MapEntry) (p : PV × PV), c[j]? = some e → es[j]? = some p → V β H w e.key p.1 ∧ V β H w e.val p.2 := by
  have hok := hI.ok i o ho
  cases o with
  | map es' =>
    cases he
    obtain ⟨b, c, n, h1, h2, h3, h4, _⟩ := hok
    exact ⟨⟨_, ho, rfl⟩, b, c, n, h1, h2, h3, h4⟩
  | mapx n bs es' =>
    cases he
    obtain ⟨b, c, h1, h2, h3, h4, _⟩ := hok
    exact ⟨⟨_, ho, rfl⟩, b, c, n, h1, h2, h3, h4⟩
  | _ => cases he

theorem lookup_gives (hI : Inv β H w) {mty kt et : TypeId} {dk de : TD} (hm : P.underlying mty = some (.map kt et)) (hD : TdOk P kt dk) (hT : TdOk P et de)
    {i : Nat} {o : OB} {es : List (PV × PV)} (ho : H[i]? = some (some o)) (he : entriesO o = some es) {x k : Value} {p : PV} (hx : V β H w x (.mp i)) (hv : V β H w k p) (hp : isKeyP dk p = true) (hK : ∀ q ∈ es, isKeyP dk q.1 = true) :
    ∃ v, V β H w v (lookM p de.zero es).1 ∧ ∀ w2 : World, w2.heap = w.heap → (Instr.lookup mty x k false).run P w2 = .ok v w2 ∧ (Instr.lookup mty x k true).run P w2 = .ok (.tuple #[v, .bool (lookM p de.zero es).2]) w2 := by
  obtain ⟨b, rfl, hr, hl⟩ := hx.mp_inv
  obtain ⟨hlv, b', c, n, hb, hh, hsz, hV⟩ := hI.entries ho he
  have hbb : b = b' := by
    have := hl hlv
    rw [hb] at this; cases this; rfl
  subst hbb
  have fr : ∀ w2 : World, w2.heap = w.heap → _ := fun w2 h2 => find_rel (w := w2) hD (hv.of_heap h2) hp c.toList es (by simpa using hsz) (fun j e q h1 h3 => ⟨(hV j e q (by simpa using h1) h3).1.of_heap h2, (hV j e q (by simpa using h1) h3).2.of_heap h2⟩) hK
  obtain ⟨z, hz, hzV⟩ := run_zeroValue' (w := w) (β := β) (H := H) hT
  unfold lookM
  rcases fr w rfl with ⟨h1, _⟩ | ⟨j, e, q, h1, _, h3, h4, _⟩
  · refine ⟨z, by rw [h1]; exact hzV, fun w2 h2 => ?_⟩
    have hh2 : w2.heap[b]? = some (.map c n) := by rw [h2]; exact hh
    have hr2 : (Instr.findKey kt k c.toList).run P w2 = .ok none w2 := by
      rcases fr w2 h2 with ⟨_, h⟩ | ⟨_, _, _, h, _⟩
      · exact h
      · rw [h1] at h; cases h
    constructor
    · simp [Instr.lookup, run_underlying hm, Go.MapKept.run_getObj_map hh2, run_ck hD (hv.of_heap h2) hp, hr2, hz, Result.andThen]
    · simp [Instr.lookup, run_underlying hm, Go.MapKept.run_getObj_map hh2, run_ck hD (hv.of_heap h2) hp, hr2, hz, Result.andThen, h1]
  · refine ⟨e.val, by rw [h1]; exact (hV j e q (by simpa using h3) h4).2, fun w2 h2 => ?_⟩
    have hh2 : w2.heap[b]? = some (.map c n) := by rw [h2]; exact hh
    have hr2 : (Instr.findKey kt k c.toList).run P w2 = .ok (some (j, e.val)) w2 := by
      rcases fr w2 h2 with ⟨h, _⟩ | ⟨j', e', q', h, hr', h3', _⟩
      · rw [h1] at h; cases h
      · rw [h1] at h
        simp only [Option.some.injEq, Prod.mk.injEq] at h
        obtain ⟨rfl, _⟩ := h
        rw [h3] at h3'; cases h3'
        exact hr'
    constructor
    · simp [Instr.lookup, run_underlying hm, Go.MapKept.run_getObj_map hh2, run_ck hD (hv.of_heap h2) hp, hr2, Result.andThen]
    · simp [Instr.lookup, run_underlying hm, Go.MapKept.run_getObj_map hh2, run_ck hD (hv.of_heap h2) hp, hr2, Result.andThen, h1]

theorem lookup_nil {mty kt et : TypeId} {dk de : TD} (hm : P.underlying mty = some (.map kt et)) (hD : TdOk P kt dk) (hT : TdOk P et de)
    {k : Value} {p : PV} (hv : V β H w k p) (hp : isKeyP dk p = true) :
    ∃ v, V β H w v de.zero ∧ ∀ w2 : World, w2.heap = w.heap → (Instr.lookup mty (.map none) k false).run P w2 = .ok v w2 ∧ (Instr.lookup mty (.map none) k true).run P w2 = .ok (.tuple #[v, .bool false]) w2 := by
  obtain ⟨z, hz, hzV⟩ := run_zeroValue' (w := w) (β := β) (H := H) hT
  refine ⟨z, hzV, fun w2 h2 => ?_⟩
  have h3 : (Instr.findKey kt k (#[] : Array MapEntry).toList).run P w2 = .ok none w2 := by
    rcases find_rel hD (hv.of_heap h2) hp [] [] rfl (by simp) (by simp) with ⟨_, h⟩ | ⟨_, _, _, _, _, h, _⟩
    · exact h
    · simp at h
  constructor
  · simp [Instr.lookup, run_underlying hm, run_ck hD (hv.of_heap h2) hp, h3, hz, Result.andThen]
  · simp [Instr.lookup, run_underlying hm, run_ck hD (hv.of_heap h2) hp, h3, hz, Result.andThen]

variable {T : Nat → Option TD}
theorem mapTy_ok (hT : TOk P T) {t : Nat} {dk de : TD} (h : mapTy T t = some (dk, de)) : ∃ kt et, P.underlying t = some (.map kt et) ∧ TdOk P kt dk ∧ TdOk P et de := by
  unfold mapTy at h
  split at h
  · rename_i d hd
    split at h
    · rename_i kt et hk
      split at h
      · rename_i dk de' hdk hde
        simp only [Option.some.injEq, Prod.mk.injEq] at h
        obtain ⟨rfl, rfl⟩ := h
        obtain ⟨u, hu, hku, _⟩ := (hT t d hd).und
        rw [hk] at hku
        refine ⟨kt, et, ?_, hT kt _ hdk, hT et _ hde⟩
        cases u <;> simp only [kOk] at hku
        obtain ⟨rfl, rfl⟩ := hku
        exact hu
      · cases h
    · cases h
  · cases h

theorem lookE_ok (hT : TOk P T) (hI : Inv β H w) {t : Nat} {x k : Value} {q p : PV} (hx : V β H w x q) (hv : V β H w k p) {ok c : Bool} {v : PV} (h : lookE T H t q p ok = (c, v)) (hc : c = true) :
    GivesR P β H w (Instr.lookup t x k ok) v := by
  unfold lookE at h
  split at h
  · rename_i dk de i hmt
    obtain ⟨kt, et, hm, hD, hTe⟩ := mapTy_ok hT hmt
    split at h
    · rename_i o ho
      split at h
      · rename_i es he
        simp only [Prod.mk.injEq] at h
        obtain ⟨h1, rfl⟩ := h
        rw [hc] at h1
        simp only [Bool.and_eq_true] at h1
        obtain ⟨y, hy, hr⟩ := lookup_gives (P := P) hI hm hD hTe ho he hx hv h1.1 (List.all_eq_true.mp h1.2)
        cases ok with
        | false => exact ⟨y, fun w2 h2 => (hr w2 h2).1, hy⟩
        | true => exact ⟨_, fun w2 h2 => (hr w2 h2).2, .tup _ _ rfl fun j v p hv hp => by
            rcases j with _ | _ | j
            · cases hv; cases hp; exact hy
            · cases hv; cases hp; exact .bool _
            · simp at hv⟩
      · exact no_ne h hc
    · exact no_ne h hc
  · rename_i dk de hmt
    obtain ⟨kt, et, hm, hD, hTe⟩ := mapTy_ok hT hmt
    simp only [Prod.mk.injEq] at h
    obtain ⟨h1, rfl⟩ := h
    rw [hc] at h1
    obtain ⟨y, hy, hr⟩ := lookup_nil (P := P) hm hD hTe hv h1
    rw [hx.nilm_inv]
    cases ok with
    | false => exact ⟨y, fun w2 h2 => (hr w2 h2).1, hy⟩
    | true => exact ⟨_, fun w2 h2 => (hr w2 h2).2, .tup _ _ rfl fun j v p hv hp => by
        rcases j with _ | _ | j
        · cases hv; cases hp; exact hy
        · cases hv; cases hp; exact .bool _
        · simp at hv⟩
  · exact no_ne h hc

theorem mapLen_ok (hT : TOk P T) {ts : List Nat} (h : mapLen T ts = true) : ∃ t l kt et, ts = t :: l ∧ P.underlying t = some (.map kt et) := by
  unfold mapLen at h
  split at h
  · rename_i t l
    split at h
    · rename_i d hd
      split at h
      · rename_i kt et hk
        obtain ⟨u, hu, hku, _⟩ := (hT t d hd).und
        rw [hk] at hku
        cases u <;> simp only [kOk] at hku
        exact ⟨t, l, _, _, rfl, hu⟩
      · cases h
    · cases h
  · cases h

theorem lenM_ok (hT : TOk P T) (hI : Inv β H w) {ρ : Operand → Value} {g : Operand → PV} (hg : ∀ x, V β H w (ρ x) (g x)) {ts : Array TypeId} {ty : TypeId} {args : Array Operand} {c : Bool} {v : PV}
    (hm : mapLen T ts.toList = true) (h : lenM H (args.toList.map g) = (c, v)) (hc : c = true) : GivesR P β H w (Builtin.len_ ts ty (args.map ρ)) v := by
  obtain ⟨t, l, kt, et, hts, hu⟩ := mapLen_ok hT hm
  have h0 : ts[0]? = some t := by rw [← Array.getElem?_toList, hts]; rfl
  unfold lenM at h
  split at h
  · rename_i ps hp
    simp only [Prod.mk.injEq] at h; obtain ⟨_, rfl⟩ := h
    obtain ⟨o, ho, hgo⟩ : ∃ o, args[0]? = some o ∧ g o = .nilm := by
      rw [← Array.getElem?_toList]
      cases ha : args.toList with
      | nil => rw [ha] at hp; simp at hp
      | cons o l => rw [ha] at hp; simp only [List.map_cons, List.cons.injEq] at hp; exact ⟨o, rfl, hp.1⟩
    have h1 : (args.map ρ)[0]? = some (ρ o) := by simp [ho]
    have hx := hg o
    rw [hgo] at hx
    exact ⟨_, fun w2 _ => by unfold Builtin.len_; simp only [h0, h1, Sem.run_bind, run_underlying hu, Result.andThen_ok, hx.nilm_inv]; rfl, .int ..⟩
  · rename_i i ps hp
    obtain ⟨o, ho, hgo⟩ : ∃ o, args[0]? = some o ∧ g o = .mp i := by
      rw [← Array.getElem?_toList]
      cases ha : args.toList with
      | nil => rw [ha] at hp; simp at hp
      | cons o l => rw [ha] at hp; simp only [List.map_cons, List.cons.injEq] at hp; exact ⟨o, rfl, hp.1⟩
    have h1 : (args.map ρ)[0]? = some (ρ o) := by simp [ho]
    have hx := hg o
    rw [hgo] at hx
    split at h
    · rename_i ob hob
      split at h
      · rename_i es he
        simp only [Prod.mk.injEq] at h; obtain ⟨_, rfl⟩ := h
        obtain ⟨b, hxb, hr, hl⟩ := hx.mp_inv
        obtain ⟨hlv, b', c', n, hb, hh, hsz, hV⟩ := hI.entries hob he
        have hbb : b = b' := by
          have := hl hlv
          rw [hb] at this; cases this; rfl
        subst hbb
        refine ⟨_, fun w2 h2 => ?_, .int ..⟩
        have hh2 : w2.heap[b]? = some (.map c' n) := by rw [h2]; exact hh
        unfold Builtin.len_
        simp only [h0, h1, Sem.run_bind, run_underlying hu, Result.andThen_ok, hxb, Go.MapKept.run_getObj_map hh2, hsz]
        rfl
      · exact no_ne h hc
    · exact no_ne h hc
  · exact no_ne h hc

theorem obj_some {i ver : Nat} {cs : List PV} (h : obj H i ver = some cs) : H[i]? = some (some (.cells ver cs)) := by
  unfold obj at h
  split at h
  · split at h
    · rename_i v cs' e1 e2
      cases h
      rw [e1, e2]
    · cases h
  · cases h

theorem ptrEq_ok (hT : TOk P T) {op : BinOp} {t : Nat} (h : ptrEq T op t = true) : (op = .eql ∨ op = .neq) := by
  unfold ptrEq at h
  split at h
  · exact .inl rfl
  · exact .inr rfl
  · cases h

theorem run_samePtr (hI : Inv β H w) {t e : Nat} {de : TD} (hu : P.underlying t = some (.pointer e)) (hD : TdOk P e de) (hsz : 0 < de.size) {x y : Value} {p q : PV} (hx : V β H w x p) (hy : V β H w y q)
    {c : Bool} {v : PV} (h : ptrSame H p q = (c, v)) (hc : c = true) : ∃ b, v = .bool b ∧ (∃ a a', x = .pointer a ∧ y = .pointer a') ∧ ∀ w2 : World, w2.heap = w.heap → (Op.equal t x y).run P w2 = .ok b w2 := by
  obtain ⟨d, hd⟩ : ∃ d, Op.maxDepth = d + 1 := ⟨9999, rfl⟩
  unfold ptrSame at h
  split at h
  · simp only [Prod.mk.injEq] at h; obtain ⟨_, rfl⟩ := h
    obtain rfl := hx.nilp_inv
    obtain rfl := hy.nilp_inv
    exact ⟨_, rfl, ⟨_, _, rfl, rfl⟩, fun w2 _ => by unfold Op.equal; rw [hd]; simp only [Op.equalIn, Sem.run_bind, run_underlying hu, Result.andThen_ok]; rfl⟩
  · simp only [Prod.mk.injEq] at h; obtain ⟨_, rfl⟩ := h
    obtain rfl := hx.nilp_inv
    obtain ⟨b, rfl, _⟩ := hy.ptr_inv
    exact ⟨_, rfl, ⟨_, _, rfl, rfl⟩, fun w2 _ => by unfold Op.equal; rw [hd]; simp only [Op.equalIn, Sem.run_bind, run_underlying hu, Result.andThen_ok]; rfl⟩
  · simp only [Prod.mk.injEq] at h; obtain ⟨_, rfl⟩ := h
    obtain rfl := hy.nilp_inv
    obtain ⟨b, rfl, _⟩ := hx.ptr_inv
    exact ⟨_, rfl, ⟨_, _, rfl, rfl⟩, fun w2 _ => by unfold Op.equal; rw [hd]; simp only [Op.equalIn, Sem.run_bind, run_underlying hu, Result.andThen_ok]; rfl⟩
  · rename_i i u o j v' q'
    simp only [Prod.mk.injEq] at h; obtain ⟨h1, rfl⟩ := h
    rw [hc] at h1
    simp only [Bool.and_eq_true, Option.isSome_iff_exists, decide_eq_true_eq] at h1
    obtain ⟨rfl, rfl, ⟨cs, ho⟩, ds, hp⟩ := h1
    have ho := obj_some ho
    have hp := obj_some hp
    obtain ⟨b, rfl, _, l1⟩ := hx.ptr_inv
    obtain ⟨b', rfl, _, l2⟩ := hy.ptr_inv
    have e1 := l1 ⟨_, ho, rfl⟩
    have e2 := l2 ⟨_, hp, rfl⟩
    refine ⟨_, rfl, ⟨_, _, rfl, rfl⟩, fun w2 h2 => ?_⟩
    have hne : de.size ≠ 0 := by omega
    have key : (Op.equal t (.pointer (some ⟨b, o, none⟩)) (.pointer (some ⟨b', q', none⟩))).run P w2 = (sameAddr ⟨b, o, none⟩ ⟨b', q', none⟩).run P w2 := by
      unfold Op.equal
      rw [hd]
      simp only [Op.equalIn, Sem.run_bind, run_underlying hu, Result.andThen_ok, run_sizeOf' hD, ne_eq, hne, not_false_eq_true, if_true]
    rw [key]
    by_cases hij : i = j
    · subst hij
      rw [e1] at e2
      cases e2
      simp [sameAddr]
      by_cases hoq : o = q'
      · simp [hoq]
      · simp [hoq]
    · have hbb : b ≠ b' := fun hh => hij (hI.inj i j b ⟨_, ho⟩ ⟨_, hp⟩ e1 (hh ▸ e2))
      obtain ⟨c1, t1, f1, _, hh1, _, _, _, _, z1⟩ := (hI.ok i _ ho).2 b e1
      obtain ⟨c2, t2, f2, _, hh2, _, _, _, _, z2⟩ := (hI.ok j _ hp).2 b' e2
      have g1 : w2.heap[b]? = some (.cells c1 t1 f1) := by rw [h2]; exact hh1
      have g2 : w2.heap[b']? = some (.cells c2 t2 f2) := by rw [h2]; exact hh2
      obtain ⟨lo1, hi1⟩ := f1
      obtain ⟨lo2, hi2⟩ := f2
      have z1 := z1.2 rfl
      have z2 := z2.2 rfl
      simp only at z1 z2
      have fz1 : ∀ k, (decide (lo1 ≤ k) && decide (k < hi1)) = false := fun k => by
        by_cases h1 : lo1 ≤ k
        · have : ¬ k < hi1 := by omega
          simp [this]
        · simp [h1]
      have fz2 : ∀ k, (decide (lo2 ≤ k) && decide (k < hi2)) = false := fun k => by
        by_cases h1 : lo2 ≤ k
        · have : ¬ k < hi2 := by omega
          simp [this]
        · simp [h1]
      simp [sameAddr, hbb, World.frozen?, g1, g2, noView, viewAt, World.shape?, mayBeOne, stringish, fz1, fz2, hij]
  · exact no_ne h hc

theorem nilBuf_ok (hI : Inv β H w) {x y : Value} {p q : PV} (hx : V β H w x p) (hy : V β H w y q) (h : nilBuf H p q = true) :
    (∃ a n cap, x = .slice (some a) n cap ∧ y = .slice none 0 0) ∧ ∀ k e, k = TK.slice e → (eqBin k p q).2 = .bool false ∧ (notB (eqBin k p q)).2 = .bool true := by
  unfold nilBuf at h
  split at h
  · rename_i i ver off n m
    split at h
    · rename_i c0 cs ho
      have ho := obj_some ho
      obtain ⟨a, cap, rfl, _, _, _, hl⟩ := hx.buf_inv
      obtain rfl := hy.nils_inv
      obtain ⟨_, hsb⟩ := hl ⟨_, ho, rfl⟩
      have hok := hI.ok i _ ho
      cases hb : β i with
      | none => have := hok.1 hb; cases this
      | some b =>
        rcases hsb b hb with ⟨_, h⟩ | ⟨rfl, _⟩
        · cases h
        · exact ⟨⟨_, _, _, rfl, rfl⟩, by rintro k e rfl; exact ⟨rfl, rfl⟩⟩
    · cases h
  · cases h

theorem eqPtr_ok (hT : TOk P T) (hI : Inv β H w) {op : BinOp} {t : Nat} (xo yo : Operand) {x y : Value} {p q : PV} (hx : V β H w x p) (hy : V β H w y q) {c : Bool} {v : PV}
    (h : eqPtrV T H op t p q = (c, v)) (hc : c = true) : GivesR P β H w (do eqGuard op t xo yo x y; Go.binOp op t x y) v := by
  unfold eqPtrV at h
  split at h
  · rename_i d hd
    obtain ⟨u, hu, hku, _⟩ := (hT t d hd).und
    split at h
    · rename_i e hk
      rw [hk] at hku; obtain rfl := kOk_ptr hku
      split at h
      · rename_i de hde
        have main : ∀ c' v', ptrSame H p q = (c', v') → c' = true → 0 < de.size → ∃ b, v' = .bool b ∧ (∀ w2 : World, w2.heap = w.heap → (do eqGuard .eql t xo yo x y; Go.binOp .eql t x y : Sem Value).run P w2 = .ok (.bool b) w2) ∧
            (∀ w2 : World, w2.heap = w.heap → (do eqGuard .neq t xo yo x y; Go.binOp .neq t x y : Sem Value).run P w2 = .ok (.bool (!b)) w2) := fun c' v' h' hc' hs => by
          obtain ⟨b, rfl, ⟨a, a', rfl, rfl⟩, hr⟩ := run_samePtr (P := P) hI hu (hT e de hde) hs hx hy h' hc'
          have hb := binOp_eql (t := t) (x := .pointer a) (y := .pointer a') (by simp) (by simp) (by simp) (by simp)
          refine ⟨b, rfl, fun w2 h2 => ?_, fun w2 h2 => ?_⟩
          · simp only [Sem.run_bind, eqGuard_ok .eql t xo yo (a := .pointer a) (b := .pointer a') (by simp) (by simp), Result.andThen_ok, hb.1, hr w2 h2]; rfl
          · simp only [Sem.run_bind, eqGuard_ok .neq t xo yo (a := .pointer a) (b := .pointer a') (by simp) (by simp), Result.andThen_ok, hb.2, hr w2 h2]; rfl
        split at h
        · simp only [Prod.mk.injEq] at h
          obtain ⟨h1, rfl⟩ := h
          rw [hc] at h1
          simp only [Bool.and_eq_true, decide_eq_true_eq] at h1
          obtain ⟨b, hb, h2, _⟩ := main (ptrSame H p q).1 (ptrSame H p q).2 rfl h1.2 h1.1
          have hb' : (ptrSame H p q).2 = .bool b := hb
          rw [hb']
          exact ⟨_, h2, .bool _⟩
        · simp only [Prod.mk.injEq] at h
          obtain ⟨h1, rfl⟩ := h
          rw [hc] at h1
          simp only [Bool.and_eq_true, decide_eq_true_eq] at h1
          have hn : (ptrSame H p q).1 = true := by
            cases hps : ptrSame H p q with
            | mk a b =>
              rw [hps] at h1
              cases b <;> simp [notB, no] at h1
              simpa using h1.2
          obtain ⟨b, hb, _, h2⟩ := main (ptrSame H p q).1 (ptrSame H p q).2 rfl hn h1.1
          have : (notB (ptrSame H p q)).2 = .bool (!b) := by
            cases hps : ptrSame H p q with
            | mk a b' => rw [hps] at hb; simp only at hb; subst hb; rfl
          rw [this]
          exact ⟨_, h2, .bool _⟩
        · exact no_ne h hc
      · exact no_ne h hc
    · rename_i e hk
      have hk0 := hk
      rw [hk] at hku
      obtain ⟨dd, hdd⟩ : ∃ dd, Op.maxDepth = dd + 1 := ⟨9999, rfl⟩
      have hund := run_underlying hu
      have nb : nilBuf H p q = true → ∀ w2 : World, w2.heap = w.heap → (do eqGuard .eql t xo yo x y; Go.binOp .eql t x y : Sem Value).run P w2 = .ok (.bool false) w2 ∧ (do eqGuard .neq t xo yo x y; Go.binOp .neq t x y : Sem Value).run P w2 = .ok (.bool true) w2 := fun hnb w2 _ => by
        obtain ⟨⟨a, n, cap, rfl, rfl⟩, _⟩ := nilBuf_ok hI hx hy hnb
        have he : (Op.equal t (.slice (some a) n cap) (.slice none 0 0)).run P w2 = .ok false w2 := by
          cases u <;> simp only [kOk] at hku
          unfold Op.equal; rw [hdd]; simp only [Op.equalIn, Sem.run_bind, hund, Result.andThen_ok]; rfl
        have hb := binOp_eql (t := t) (x := .slice (some a) n cap) (y := .slice none 0 0) (by simp) (by simp) (by simp) (by simp)
        exact ⟨by simp only [Sem.run_bind, eqGuard_ok .eql t xo yo (a := .slice (some a) n cap) (b := .slice none 0 0) (by simp) (by simp), Result.andThen_ok, hb.1, he]; rfl,
          by simp only [Sem.run_bind, eqGuard_ok .neq t xo yo (a := .slice (some a) n cap) (b := .slice none 0 0) (by simp) (by simp), Result.andThen_ok, hb.2, he]; rfl⟩
      split at h
      · simp only [Prod.mk.injEq] at h
        obtain ⟨h1, rfl⟩ := h
        rw [hc, Bool.or_eq_true] at h1
        rcases h1 with h1 | h1
        · obtain ⟨b, hb, hv⟩ := run_equal (hT t d hd) hx hy (c := (eqBin d.k p q).1) (v := (eqBin d.k p q).2) rfl h1
          obtain ⟨g1, g2, g3⟩ := eqBin_plain rfl h1 hx hy
          obtain ⟨g4, g5, g6⟩ := eqBin_plain2 rfl h1 hx hy
          refine ⟨.bool b, fun w2 _ => ?_, by rw [hv]; exact .bool b⟩
          simp only [Sem.run_bind, eqGuard_ok .eql t xo yo g1 g2, Result.andThen_ok, (binOp_eql g3 g4 g5 g6).1, hb]
          rfl
        · refine ⟨.bool false, fun w2 h2 => (nb h1 w2 h2).1, ?_⟩
          rw [((nilBuf_ok hI hx hy h1).2 _ _ hk).1]; exact .bool _
      · simp only [Prod.mk.injEq] at h
        obtain ⟨h1, rfl⟩ := h
        rw [hc, Bool.or_eq_true] at h1
        rcases h1 with h1 | h1
        · obtain ⟨b', hb', hv'⟩ := notB_inv (c := (notB (eqBin d.k p q)).1) (v := (notB (eqBin d.k p q)).2) rfl h1
          obtain ⟨b, hb, e⟩ := run_equal (hT t d hd) hx hy hb' rfl
          cases e
          obtain ⟨g1, g2, g3⟩ := eqBin_plain hb' rfl hx hy
          obtain ⟨g4, g5, g6⟩ := eqBin_plain2 hb' rfl hx hy
          refine ⟨.bool (!b'), fun w2 _ => ?_, by rw [hv']; exact .bool _⟩
          simp only [Sem.run_bind, eqGuard_ok .neq t xo yo g1 g2, Result.andThen_ok, (binOp_eql g3 g4 g5 g6).2, hb]
          rfl
        · refine ⟨.bool true, fun w2 h2 => (nb h1 w2 h2).2, ?_⟩
          rw [((nilBuf_ok hI hx hy h1).2 _ _ hk).2]; exact .bool _
      · exact no_ne h hc
    · exact no_ne h hc
  · exact no_ne h hc

theorem findB_at {b : Nat} : ∀ {bs : List Nat} {es : List (PV × PV)} {e : PV × PV}, findB b bs es = some e → ∃ j : Nat, bs[j]? = some b ∧ es[j]? = some e
  | [], _, _, h => by simp [findB] at h
  | _ :: _, [], _, h => by simp [findB] at h
  | x :: bs, e0 :: es, e, h => by
    unfold findB at h
    split at h
    · rename_i hx; cases h; exact ⟨0, by simp [hx], rfl⟩
    · obtain ⟨j, h1, h2⟩ := findB_at h
      exact ⟨j + 1, by simpa using h1, by simpa using h2⟩
theorem findB_of {b : Nat} : ∀ {bs : List Nat} {es : List (PV × PV)} {e : PV × PV} {j : Nat}, bs.Pairwise (· < ·) → bs[j]? = some b → es[j]? = some e → findB b bs es = some e
  | [], _, _, j, _, h, _ => by simp at h
  | _ :: _, [], _, j, _, _, h => by simp at h
  | x :: bs, e0 :: es, e, j, hp, h1, h2 => by
    unfold findB
    rw [List.pairwise_cons] at hp
    cases j with
    | zero =>
      simp only [List.getElem?_cons_zero, Option.some.injEq] at h1 h2
      rw [if_pos h1, h2]
    | succ j =>
      simp only [List.getElem?_cons_succ] at h1 h2
      have := hp.1 b (List.mem_of_getElem? h1)
      rw [if_neg (by omega)]
      exact findB_of hp.2 h1 h2

theorem entry_ok (hI : Inv β H w) {x : Value} {p : PV} (hx : V β H w x p) {c : Bool} {v : PV} (h : entryV H p = (c, v)) (hc : c = true) : GivesR P β H w (Instr.entry x) v := by
  unfold entryV at h
  split at h
  · rename_i it
    obtain ⟨b, rfl, _, hl⟩ := hx.ptr_inv
    split at h
    · rename_i m since seen last hit
      split at h
      · rename_i n bs es hm
        split at h
        · rename_i s hs
          split at h
          · rename_i e hf
            simp only [Prod.mk.injEq] at h
            obtain ⟨h1, rfl⟩ := h
            rw [hc] at h1
            have h1 : last = n := of_decide_eq_true h1
            subst h1
            obtain ⟨b1, bm, e1, hh1, _, hlm⟩ := hI.ok it _ hit
            obtain ⟨bm', cm, e2, hh2, hsz, hV, hbs, hlt, hpw⟩ := hI.ok m _ hm
            have hbe : b = b1 := by
              have := hl ⟨_, hit, rfl⟩
              rw [e1] at this; cases this; rfl
            subst hbe
            have hbm : bm = bm' := by
              have := hlm ⟨_, hm, rfl⟩
              rw [e2] at this; cases this; rfl
            subst hbm
            obtain ⟨j, hj1, hj2⟩ := findB_at hf
            have hjc : ∃ en, cm[j]? = some en ∧ en.born = s := by
              rw [← hbs] at hj1
              simp only [List.getElem?_map, Option.map_eq_some_iff] at hj1
              obtain ⟨en, h1, h2⟩ := hj1
              exact ⟨en, by simpa using h1, h2⟩
            obtain ⟨en, hen, hborn⟩ := hjc
            obtain ⟨v1, v2⟩ := hV j en e hen hj2
            have hfind : cm.find? (·.born == s) = some en := by
              rw [← Array.find?_toList, ← hborn]
              refine find_born en cm.toList ?_ ?_
              · rw [hbs]; exact hpw.imp fun h => Nat.ne_of_lt h
              · exact List.mem_of_getElem? (by simpa using hen)
            have hback : seen.toArray.back? = some s := by simpa using hs
            refine ⟨.tuple #[en.key, en.val], fun w2 h2 => ?_, .tup _ _ rfl fun i v p hv hp => by
              rcases i with _ | _ | i
              · cases hv; cases hp; exact v1
              · cases hv; cases hp; exact v2
              · simp at hv⟩
            have g1 : w2.heap[b]? = some (.mapIter (some bm) since seen.toArray last) := by rw [h2]; exact hh1
            have g2 : w2.heap[bm]? = some (.map cm last) := by rw [h2]; exact hh2
            simp only [Instr.entry, getObj, Sem.run_bind, Sem.run, g1, g2, Result.andThen, hback, bne_self_eq_false, Bool.false_eq_true, if_false, hfind]
            rfl
          · exact no_ne h hc
        · exact no_ne h hc
      · exact no_ne h hc
    · exact no_ne h hc
  · exact no_ne h hc
end
end Go.Proofs.SL

/-
  SL: 'readOp' is sound. No claim by itself.
-/
namespace Go.Proofs.SL
open Go
set_option linter.unusedSimpArgs false
set_option linter.unusedVariables false
variable {P : Program} {T : Nat → Option TD} {β : Nat → Option Nat} {H : Heap} {w : World}

theorem yesR_gives {ρ : Operand → Value} {o : Oper} {v : PV} {s : Sem Value} (e : execOp ρ o = (do pure (.value (← s)))) (h : GivesR P β H w s v) : YesR P ρ o β H w v := yesR_of e h

theorem live_of {i ver : Nat} {cs : List PV} (h : H[i]? = some (some (.cells ver cs))) : Live H i ver := ⟨_, h, rfl⟩

/-- An object with cells, as the world holds it. -/
theorem Inv.cells (hI : Inv β H w) {i ver : Nat} {cs : List PV} (h : H[i]? = some (some (.cells ver cs))) :
    (β i = none → cs = []) ∧ ∀ b, β i = some b → ∃ (c : Array Value) (t : TypeId) (fz : Nat × Nat) (f : Nat → Value),
      w.heap[b]? = some (.cells c t fz) ∧ cs.length ≤ c.size ∧ (∀ k, k < cs.length → c[k]? = some (f k)) ∧
      (∀ (k : Nat) (p : PV), cs[k]? = some p → V β H w (f k) p) ∧ (∀ k, k < cs.length → (f k).oneCell' = true) ∧ FzOk c.size ver fz := hI.ok i _ h

theorem bsize_of {b : Nat} {c : Array Value} {t : TypeId} {fz : Nat × Nat} (h : w.heap[b]? = some (.cells c t fz)) : bsize w b = c.size := by
  unfold bsize; rw [h]

theorem cell_of {b k : Nat} {c : Array Value} {t : TypeId} {fz : Nat × Nat} (h : w.heap[b]? = some (.cells c t fz)) : w.cell? ⟨b, k, none⟩ = c[k]? := by
  unfold World.cell?; rw [h]; rfl

theorem run_loadVar_agg {w : World} {t : Nat} {d : TD} (hT : TdOk P t d) (ha : d.agg = true) {b off : Nat} {vs : List Value} (hl : vs.length = d.size)
    (h : ∀ j v, vs[j]? = some v → w.cell? ⟨b, off + j, none⟩ = some v) : (loadVar t ⟨b, off, none⟩).run P w = .ok (.agg vs.toArray) w := by
  unfold loadVar
  have := run_loadCells_list (P := P) w ⟨b, off, none⟩ vs (fun j v hv => by rw [addr_add]; exact h j v hv)
  simp only [Sem.run_bind, run_isAgg hT, Result.andThen_ok, ha, if_true, run_sizeOf' hT, ← hl, this]
  rfl

theorem run_loadVar_one {w : World} {t : Nat} {d : TD} (hT : TdOk P t d) (ha : d.agg = false) {b off : Nat} {v : Value} (h : w.cell? ⟨b, off, none⟩ = some v) :
    (loadVar t ⟨b, off, none⟩).run P w = .ok v w := by
  unfold loadVar
  simp only [Sem.run_bind, run_isAgg hT, Result.andThen_ok, ha, Bool.false_eq_true, if_false]
  rw [run_load, h]

/-- Cells that are read as one value. -/
theorem load_part {t : Nat} {d : TD} (hT : TdOk P t d) {b off fo : Nat} {cs : List PV} {f : Nat → Value} (h1 : ∀ k, k < cs.length → w.cell? ⟨b, off + k, none⟩ = some (f k))
    (h2 : ∀ (k : Nat) (q : PV), cs[k]? = some q → V β H w (f k) q) {c : Bool} {v : PV} (hp : partV d cs fo = (c, v)) (hc : c = true) :
    GivesR P β H w (loadVar t ⟨b, off + fo, none⟩) v := by
  unfold partV at hp
  split at hp
  · rename_i ha
    simp only [Prod.mk.injEq] at hp; obtain ⟨rfl, rfl⟩ := hp
    have hle : fo + d.size ≤ cs.length := of_decide_eq_true hc
    refine ⟨_, fun w2 h2' => run_loadVar_agg hT ha (vs := (List.range d.size).map fun k => f (fo + k)) (by simp) (fun j v hv => ?_), .agg _ _ (by simp [subCells]; omega) fun i x q hx hq => ?_⟩
    · simp only [List.getElem?_map] at hv
      rcases Nat.lt_or_ge j d.size with hj | hj
      · rw [List.getElem?_range hj] at hv
        simp only [Option.map_some, Option.some.injEq] at hv
        subst hv
        rw [Nat.add_assoc, cell_same h2']
        exact h1 _ (by omega)
      · rw [List.getElem?_eq_none (by simp; omega)] at hv; cases hv
    · simp only [List.getElem?_toArray, List.getElem?_map] at hx
      simp only [subCells, List.getElem?_take, List.getElem?_drop] at hq
      split at hq
      · rename_i hj
        rw [List.getElem?_range hj] at hx
        simp only [Option.map_some, Option.some.injEq] at hx
        subst hx
        exact h2 _ q hq
      · cases hq
  · rename_i ha
    simp only [Prod.mk.injEq] at hp; obtain ⟨rfl, rfl⟩ := hp
    have hlt : fo < cs.length := of_decide_eq_true hc
    exact ⟨_, fun w2 h2' => run_loadVar_one hT (by simpa using ha) ((cell_same h2' _).trans (h1 fo hlt)), h2 fo _ (by simp [List.getElem?_eq_getElem hlt])⟩

theorem load_ok (hT : TOk P T) (hI : Inv β H w) {t : Nat} {d : TD} (hd : T t = some d) {x : Value} {p : PV} {c : Bool} {v : PV} (hx : V β H w x p) (h : loadV d H p = (c, v)) (hc : c = true) :
    GivesR P β H w (Instr.loadAt t x) v := by
  unfold loadV at h
  split at h
  · rename_i i ver off
    split at h
    · rename_i cs ho
      have ho := obj_some ho
      obtain ⟨b, rfl, hl, hlv⟩ := hx.ptr_inv
      obtain ⟨_, hb⟩ := hI.cells ho
      obtain ⟨c', t', fz, f, hh, hsz, hf, hV, _⟩ := hb b (hlv (live_of ho))
      obtain ⟨r, hr, hrV⟩ := load_part (P := P) (β := β) (H := H) (w := w) (hT t d hd) (b := b) (off := 0) (fo := off) (f := f)
        (fun k hk => by rw [cell_of hh, Nat.zero_add]; exact hf k hk) hV h hc
      refine ⟨r, fun w2 h2' => ?_, hrV⟩
      rw [Nat.zero_add] at hr
      unfold Instr.loadAt Instr.sureAddr
      simp only [Sem.run_bind, Sem.run_pure, Result.andThen_ok, hr w2 h2']
    · exact no_ne h hc
  · rename_i q
    obtain ⟨b, off, f, rfl, him, h1, h2, h9⟩ := hx.cptr_inv
    split at h
    · rename_i ha
      split at h
      · rename_i cs
        simp only [Prod.mk.injEq] at h; obtain ⟨rfl, rfl⟩ := h
        have hlen : cs.length = d.size := of_decide_eq_true hc
        have := load_part (P := P) (β := β) (H := H) (w := w) (hT t d hd) (b := b) (off := off) (fo := 0) (f := f) (cs := cs) h1 h2
          (c := true) (v := .agg cs) (by unfold partV; rw [if_pos ha]; simp [subCells, hlen, List.take_of_length_le]) rfl
        obtain ⟨r, hr, hrV⟩ := this
        refine ⟨r, fun w2 h2' => ?_, hrV⟩
        unfold Instr.loadAt Instr.sureAddr
        simp only [Sem.run_bind, Sem.run_pure, Result.andThen_ok]
        exact hr w2 h2'
      · exact no_ne h hc
    · rename_i ha
      simp only [Prod.mk.injEq] at h; obtain ⟨rfl, rfl⟩ := h
      have ec : q.cells = [q] := by cases q <;> first | rfl | simp [PV.one] at hc
      rw [ec] at h1 h2
      refine ⟨f 0, fun w2 h2' => ?_, h2 0 q rfl⟩
      unfold Instr.loadAt Instr.sureAddr
      simp only [Sem.run_bind, Sem.run_pure, Result.andThen_ok]
      exact run_loadVar_one (hT t d hd) (by simpa using ha) ((cell_same h2' _).trans (h1 0 (by simp)))
  · exact no_ne h hc


theorem arrSlice_ok {ρ : Operand → Value} {g : Operand → PV} (hg : ∀ x, V β H w (ρ x) (g x)) (hI : Inv β H w) {n m : Nat} {x : Operand} {lo hi : Option Operand} {c : Bool} {v : PV}
    (h : arrSliceV H n m (g x) (lo.map g) (hi.map g) = (c, v)) (hc : c = true) :
    ∃ b off l h', ρ x = .pointer (some ⟨b, off, none⟩) ∧ (∀ bb w2, (Instr.sliceBounds bb n n (lo.map ρ) (hi.map ρ) none).run P w2 = .ok (l, h', n) w2) ∧
      V β H w (.slice (some (if n = l then ⟨b, off, none⟩ else (⟨b, off, none⟩ : Addr).add (l * m))) (h' - l) (n - l)) v := by
  have hx := hg x
  unfold arrSliceV at h
  split at h
  · rename_i i ver off e
    rw [e] at hx
    split at h
    · rename_i cs l' h' ho hl hh
      simp only [Prod.mk.injEq] at h; obtain ⟨rfl, rfl⟩ := h
      simp only [Bool.and_eq_true, decide_eq_true_eq] at hc
      have ho := obj_some ho
      obtain ⟨b, hb, hlt, hlv⟩ := hx.ptr_inv
      refine ⟨b, off, l'.toNat, h'.toNat, hb, fun bb w2 => run_bounds hg bb n n (Nat.le_refl _) hl hh hc.1 hc.2.1 hc.2.2.1, ?_⟩
      refine .buf _ _ i ver _ _ m false (by omega) (fun hne => ⟨b, by rw [if_neg (by omega), addr_add]⟩) hlt fun hl => ⟨fun hn => ?_, fun b' hb' => ?_⟩
      · rw [hlv hl] at hn; cases hn
      · have := hlv hl
        rw [this] at hb'
        cases hb'
        by_cases hz : h'.toNat - l'.toNat = 0
        · exact .inl ⟨hz, rfl⟩
        · right
          rw [if_neg (by omega), addr_add]
          refine ⟨rfl, ?_, by simp⟩
          obtain ⟨_, hbb⟩ := hI.cells ho
          obtain ⟨c', t', fz, f, hh', hsz, _⟩ := hbb b this
          rw [bsize_of hh']
          have : l'.toNat * m + (n - l'.toNat) * m = n * m := by rw [← Nat.add_mul]; congr 1; omega
          omega
    · exact no_ne h hc
  · exact no_ne h hc

theorem isU8_spec {p : PV} (h : isU8 p = true) : ∃ n : Int, p = .int .u8 n ∧ 0 ≤ n ∧ n < 256 := by
  unfold isU8 at h
  split at h
  · rename_i n
    have := of_decide_eq_true h
    exact ⟨n, rfl, this.1, this.2⟩
  · cases h

theorem allU8 {cs : List PV} (h : cs.all isU8 = true) : ∃ ns : List Int, cs = ns.map (PV.int .u8) ∧ bytesOf cs = strOfNums ns := by
  induction cs with
  | nil => exact ⟨[], rfl, rfl⟩
  | cons c cs ih =>
    simp only [List.all_cons, Bool.and_eq_true] at h
    obtain ⟨n, rfl, _⟩ := isU8_spec h.1
    obtain ⟨ns, rfl, e⟩ := ih h.2
    exact ⟨n :: ns, rfl, by simp [bytesOf, strOfNums]⟩

theorem toStr_at {s t e : Nat} (hs : P.underlying s = some (.slice e)) (he : P.underlying e = some (.int .u8)) (ht : P.underlying t = some .string)
    {b off len cap : Nat} {cs : List PV} (hlen : cs.length = len) (hall : cs.all isU8 = true) {f : Nat → Value}
    (h1 : ∀ k, k < len → w.cell? ⟨b, off + k, none⟩ = some (f k)) (h2 : ∀ (k : Nat) (p : PV), cs[k]? = some p → V β H w (f k) p) :
    (convert s t (.slice (some ⟨b, off, none⟩) len cap)).run P w = .ok (.string (bytesOf cs)) w := by
  obtain ⟨ns, rfl, e⟩ := allU8 hall
  rw [e]
  simp only [List.length_map] at hlen
  refine run_convert_bytes_arg w s _ hs he b off len cap ns hlen (fun i hi => ?_) t ht
  rw [h1 i hi]
  have := h2 i (.int .u8 (ns.getD i 0)) (by simp [List.getD, hlen ▸ hi])
  rw [this.int_inv]

theorem toStr_empty {s t e : Nat} (hs : P.underlying s = some (.slice e)) (he : P.underlying e = some (.int .u8)) (ht : P.underlying t = some .string) (a : Option Addr) (cap : Nat) :
    (convert s t (.slice a 0 cap)).run P w = .ok (.string (bytesOf [])) w := by
  rw [run_convert_bytes_string w s t e a 0 cap hs he ht]
  cases a with
  | none => simp [Conv.bytesToString]; rfl
  | some a => rw [run_bytesToString w a 0 cap [] rfl]; rfl

theorem toStr_ok (hI : Inv β H w) {s t e : Nat} (hs : P.underlying s = some (.slice e)) (he : P.underlying e = some (.int .u8)) {u : TypeDesc} (ht : P.underlying t = some u) {k : TK} (hk : kOk u k)
    {x : Value} {p : PV} {c : Bool} {v : PV} (hx : V β H w x p) (h : toStrV H k p = some (c, v)) (hc : c = true) : GivesR P β H w (convert s t x) v := by
  unfold toStrV at h
  split at h
  · obtain rfl := kOk_str hk
    split at h
    · rename_i m xs
      simp only [Option.some.injEq, Prod.mk.injEq] at h; obtain ⟨rfl, rfl⟩ := h
      simp only [Bool.and_eq_true, decide_eq_true_eq] at hc
      obtain ⟨rfl, hall⟩ := hc
      obtain ⟨a, cap, rfl, hcap, hsl⟩ := hx.sl_inv
      refine ⟨_, fun w2 h2' => ?_, .str _⟩
      by_cases hne : xs = []
      · subst hne; exact toStr_empty hs he ht a cap
      · obtain ⟨b, off, rfl, him, hm, f, h1, h2, _⟩ := hsl hne
        have hfl : flat xs = xs := by
          have : ∀ l : List PV, l.all isU8 = true → flat l = l := by
            intro l
            induction l with
            | nil => intro _; rfl
            | cons a l ih =>
              intro h
              simp only [List.all_cons, Bool.and_eq_true] at h
              obtain ⟨n, rfl, _⟩ := isU8_spec h.1
              rw [flat_cons, ih h.2]; rfl
          exact this xs hall
        rw [hfl] at h1 h2
        exact toStr_at (β := β) (H := H) (w := w2) (f := f) hs he ht rfl hall (fun k hk => (cell_same h2' _).trans (h1 k hk)) (fun k p hp => V.of_heap h2' (h2 k p hp))
    · simp only [Option.some.injEq, Prod.mk.injEq] at h; obtain ⟨rfl, rfl⟩ := h
      refine ⟨_, fun w2 h2' => ?_, .str _⟩
      rw [hx.nils_inv]
      exact toStr_empty hs he ht none 0
    · rename_i i ver off len m tip
      split at h
      · rename_i cs ho
        simp only [Option.some.injEq, Prod.mk.injEq] at h; obtain ⟨rfl, rfl⟩ := h
        simp only [Bool.and_eq_true, decide_eq_true_eq] at hc
        obtain ⟨rfl, hle, hall⟩ := hc
        have ho := obj_some ho
        obtain ⟨a, cap, rfl, hcap, ha, hl, hlv⟩ := hx.buf_inv
        refine ⟨_, fun w2 h2' => ?_, .str _⟩
        by_cases hz : len = 0
        · subst hz
          have : subCells cs off 0 = [] := by simp [subCells]
          rw [this]; exact toStr_empty hs he ht a cap
        · obtain ⟨b, rfl⟩ := ha hz
          obtain ⟨h0, h1⟩ := hlv (live_of ho)
          have hb : β i = some b := by
            cases hbj : β i with
            | none => have := (h0 hbj).1; omega
            | some b' =>
              rcases h1 b' hbj with ⟨h5, _⟩ | ⟨h5, _⟩
              · omega
              · simp only [Option.some.injEq, Addr.mk.injEq] at h5; rw [h5.1]
          obtain ⟨_, hbb⟩ := hI.cells ho
          obtain ⟨c', t', fz, f, hh, hsz, hf, hV, _⟩ := hbb b hb
          refine toStr_at (β := β) (H := H) (w := w2) hs he ht (by simp [subCells]; omega) hall (f := fun k => f (off + k)) (fun k hk => ?_) fun k p hp => ?_
          · rw [cell_same h2', cell_of hh]; exact hf _ (by omega)
          · simp only [subCells, List.getElem?_take, List.getElem?_drop] at hp
            split at hp
            · exact V.of_heap h2' (hV _ p hp)
            · cases hp
      · exact no_ne (Option.some.inj h) hc
    · cases h
  · cases h

theorem read_ok (hT : TOk P T) (hI : Inv β H w) {ρ : Operand → Value} {g : Operand → PV} (hg : ∀ x, V β H w (ρ x) (g x)) {o : Oper} {c : Bool} {v : PV}
    (h : readOp T g H o.op = some (c, v)) (hc : c = true) : YesR P ρ o β H w v := by
  obtain ⟨dst, op, ty, pos, after, guard⟩ := o
  cases op <;> simp only [readOp] at h <;> try (cases h; done)
  case binOp op t x y yt =>
    split at h
    · exact yesR_gives rfl (eqPtr_ok hT hI x y (hg x) (hg y) (Option.some.inj h) hc)
    · cases h
  case lookup t x k ok => exact yesR_gives rfl (lookE_ok hT hI (hg x) (hg k) (Option.some.inj h) hc)
  case entry it => exact yesR_gives rfl (entry_ok hI (hg it) (Option.some.inj h) hc)
  case call cl =>
    obtain ⟨callee, args, ts⟩ := cl
    simp only at h
    split at h
    · split at h
      · rename_i hm
        exact yesR_gives (s := Builtin.len_ ts ty (args.map ρ)) rfl (lenM_ok hT hI hg hm (Option.some.inj h) hc)
      · cases h
    · cases h
  case load t a =>
    split at h
    · rename_i d hd
      exact yesR_gives rfl (load_ok hT hI hd (hg a) (Option.some.inj h) hc)
    · exact no_ne (Option.some.inj h) hc
  case convert s t x =>
    split at h
    · rename_i ds d hs hd
      split at h
      · rename_i e hk
        split at h
        · rename_i de hde
          split at h
          · rename_i hkd
            obtain ⟨us, hus, hks, _, _⟩ := (hT s ds hs).und
            rw [hk] at hks; obtain rfl := kOk_slice hks
            obtain ⟨ue, hue, hke, _, _⟩ := (hT e de hde).und
            rw [hkd] at hke; obtain rfl := kOk_int hke
            obtain ⟨ut, hut, hkt, _, _⟩ := (hT t d hd).und
            exact yesR_gives rfl (toStr_ok hI hus hue hut hkt (hg x) h hc)
          · cases h
        · cases h
      · cases h
    · cases h
  case slice t x lo hi mx =>
    split at h
    · rename_i d hd
      obtain ⟨u, hu, hku, _⟩ := run_underlying' (hT t d hd)
      split at h
      · rename_i n e hk
        rw [hk] at hku; obtain rfl := kOk_arr hku
        split at h
        · rename_i de hde
          obtain ⟨b, off, l, h', hx, hbd, hV⟩ := arrSlice_ok (P := P) hg hI (Option.some.inj h) hc
          refine yesR_gives (s := Instr.sliceAt t (ρ x) (lo.map ρ) (hi.map ρ) ((none : Option Operand).map ρ)) rfl ⟨_, fun w2 _ => ?_, hV⟩
          unfold Instr.sliceAt
          simp only [Sem.run_bind, hu, Result.andThen_ok, hx, Instr.sureAddr, Sem.run_pure, Option.map_none, hbd false, run_sizeOf' (hT e de hde)]
        · exact no_ne (Option.some.inj h) hc
      · rename_i a hk
        rw [hk] at hku; obtain rfl := kOk_ptr hku
        split at h
        · rename_i da hda
          obtain ⟨ua, hua, hkua, _⟩ := run_underlying' (hT a da hda)
          split at h
          · rename_i n e hka
            rw [hka] at hkua; obtain rfl := kOk_arr hkua
            split at h
            · rename_i de hde
              obtain ⟨b, off, l, h', hx, hbd, hV⟩ := arrSlice_ok (P := P) hg hI (Option.some.inj h) hc
              refine yesR_gives (s := Instr.sliceAt t (ρ x) (lo.map ρ) (hi.map ρ) ((none : Option Operand).map ρ)) rfl ⟨_, fun w2 _ => ?_, hV⟩
              unfold Instr.sliceAt
              simp only [Sem.run_bind, hu, Result.andThen_ok]
              unfold Instr.slice
              simp only [Sem.run_bind, hu, hua, Result.andThen_ok, hx, asAddr, Sem.run_pure, Option.map_none, hbd false, run_sizeOf' (hT e de hde)]
            · exact no_ne (Option.some.inj h) hc
          · exact no_ne (Option.some.inj h) hc
        · exact no_ne (Option.some.inj h) hc
      · exact no_ne (Option.some.inj h) hc
    · exact no_ne (Option.some.inj h) hc

end Go.Proofs.SL

/-
  SL: steps of the world, and of the abstract heap beside it. No claim by itself.
-/
namespace Go.Proofs.SL
open Go
set_option linter.unusedSimpArgs false
set_option linter.unusedVariables false
variable {P : Program} {T : Nat → Option TD} {β : Nat → Option Nat} {H : Heap} {w : World}

/-- What a later world must share with an earlier one, the blocks aside. -/
structure Same (w w' : World) : Prop where
  os : w'.os = w.os
  tape : w'.tape = w.tape
  output : w'.output = w.output
  size : w.heap.size ≤ w'.heap.size

theorem ObOk.mono {β β' : Nat → Option Nat} {H H' : Heap} {w w' : World} (e : Ext β H w β' H' w') {i : Nat} {o : OB} (hb : β' i = β i)
    (hs : ∀ b, β i = some b → w'.heap[b]? = w.heap[b]?) (h : ObOk β H w i o) : ObOk β' H' w' i o := by
  cases o with
  | cells ver cs =>
    refine ⟨fun hn => h.1 (hb ▸ hn), fun b hbb => ?_⟩
    obtain ⟨c, t, fz, f, h1, h2, h3, h4, h5, h6⟩ := h.2 b (hb ▸ hbb)
    exact ⟨c, t, fz, f, (hs b (hb ▸ hbb)).trans h1, h2, h3, fun k p hp => (h4 k p hp).mono e, h5, h6⟩
  | striter s pos =>
    obtain ⟨b, h1, h2⟩ := h
    exact ⟨b, hb.trans h1, (hs b h1).trans h2⟩
  | glob b o => exact ⟨hb.trans h.1, (hs b h.1).trans h.2.1, h.2.2⟩
  | map es =>
    obtain ⟨b, c, k, h1, h2, h3, h4, h5⟩ := h
    exact ⟨b, c, k, hb.trans h1, (hs b h1).trans h2, h3, fun j e' p he hp => ⟨(h4 j e' p he hp).1.mono e, (h4 j e' p he hp).2.mono e⟩, h5⟩
  | mapx n bs es =>
    obtain ⟨b, c, h1, h2, h3, h4, h5⟩ := h
    exact ⟨b, c, hb.trans h1, (hs b h1).trans h2, h3, fun j e' p he hp => ⟨(h4 j e' p he hp).1.mono e, (h4 j e' p he hp).2.mono e⟩, h5⟩
  | mapit m since seen last =>
    obtain ⟨b, bm, h1, h2, h3, h4⟩ := h
    obtain ⟨r, hl⟩ := e.live m 0 h3
    exact ⟨b, bm, hb.trans h1, (hs b h1).trans h2, r, fun hlv => (hl hlv).2.1.trans (h4 (hl hlv).1)⟩
  | lrec st pend σ ps asg body =>
    obtain ⟨b, fn, D, tmps, h1, h2, h3, h4⟩ := h
    exact ⟨b, fn, D, tmps, hb.trans h1, (hs b h1).trans h2, h3, fun t p hp => (h4 t p hp).mono e⟩

theorem alive_append {o : Option OB} {i : Nat} (h : Alive (H ++ [o]) i) : Alive H i ∨ (i = H.length ∧ ∃ x, o = some x) := by
  obtain ⟨x, hx⟩ := h
  rcases Nat.lt_trichotomy i H.length with hi | hi | hi
  · rw [List.getElem?_append_left hi] at hx; exact .inl ⟨x, hx⟩
  · subst hi
    rw [List.getElem?_append_right (Nat.le_refl _), Nat.sub_self] at hx
    simp only [List.getElem?_cons_zero, Option.some.injEq] at hx
    exact .inr ⟨rfl, x, hx⟩
  · rw [List.getElem?_eq_none (by simp; omega)] at hx; cases hx

/-- The map of objects, one more at the end. -/
def more (β : Nat → Option Nat) (n : Nat) (r : Option Nat) : Nat → Option Nat := fun i => if i = n then r else β i

theorem more_lt {n : Nat} {r : Option Nat} {i : Nat} (h : i < n) : more β n r i = β i := by unfold more; rw [if_neg (by omega)]
theorem more_self {n : Nat} {r : Option Nat} : more β n r n = r := by unfold more; rw [if_pos rfl]

theorem push_ext (hI : Inv β H w) {w' : World} (hw : Same w w') (hp : ∀ b, b < w.heap.size → w'.heap[b]? = w.heap[b]?) {o : OB} {r : Option Nat} (hr : ∀ b, r = some b → w.heap.size ≤ b) :
    Ext β H w (more β H.length r) (H ++ [some o]) w' where
  len := by simp
  live := fun i ver hi => by
    have e : (H ++ [some o])[i]? = H[i]? := List.getElem?_append_left hi.1
    refine ⟨⟨by simp; have := hi.1; omega, fun o' ho' => hi.2 o' (by rwa [e] at ho')⟩, fun hl => ?_⟩
    obtain ⟨o', ho', hv⟩ := hl
    rw [e] at ho'
    refine ⟨⟨o', ho', hv⟩, more_lt hi.1, by unfold olen; rw [e], fun b hb => ?_⟩
    unfold bsize
    rw [hp b (hI.block ⟨o', ho'⟩ hb)]
  imm := fun b hb => by
    refine ⟨hp b hb.1, Nat.lt_of_lt_of_le hb.1 hw.size, fun i hi => ?_⟩
    rcases alive_append hi.alive with hi' | ⟨rfl, _⟩
    · rw [more_lt hi'.lt]; exact hb.2 i (hi.get (List.getElem?_append_left hi'.lt).symm)
    · rw [more_self]
      intro h
      have := hr b h
      have := hb.1
      omega
  os := hw.os
  tape := hw.tape
  output := hw.output
  size := hw.size

theorem push_inv (hI : Inv β H w) {w' : World} (hp : ∀ b, b < w.heap.size → w'.heap[b]? = w.heap[b]?) {o : OB} {r : Option Nat} (hr : ∀ b, r = some b → w.heap.size ≤ b)
    (he : Ext β H w (more β H.length r) (H ++ [some o]) w') (ho : ObOk (more β H.length r) (H ++ [some o]) w' H.length o) : Inv (more β H.length r) (H ++ [some o]) w' where
  ok := fun i x hx => by
    rcases alive_append ⟨x, hx⟩ with hi | ⟨rfl, _⟩
    · have e : (H ++ [some o])[i]? = H[i]? := List.getElem?_append_left hi.lt
      rw [e] at hx
      exact (hI.ok i x hx).mono he (more_lt hi.lt) fun b hb => hp b (hI.block hi hb)
    · rw [List.getElem?_append_right (Nat.le_refl _), Nat.sub_self] at hx
      simp only [List.getElem?_cons_zero, Option.some.injEq] at hx
      subst hx
      exact ho
  inj := fun i j b hi hj hbi hbj => by
    rcases alive_append hi with hi | ⟨rfl, _⟩ <;> rcases alive_append hj with hj | ⟨rfl, _⟩
    · rw [more_lt hi.lt] at hbi; rw [more_lt hj.lt] at hbj; exact hI.inj i j b hi hj hbi hbj
    · rw [more_lt hi.lt] at hbi; rw [more_self] at hbj
      have := hI.block hi hbi; have := hr b hbj; omega
    · rw [more_lt hj.lt] at hbj; rw [more_self] at hbi
      have := hI.block hj hbj; have := hr b hbi; omega
    · rfl

theorem quiet_ext (hI : Inv β H w) {w' : World} (hw : Same w w') (hp : ∀ b, b < w.heap.size → w'.heap[b]? = w.heap[b]?) : Ext β H w β H w' where
  len := Nat.le_refl _
  live := fun i ver hi => ⟨hi, fun hl => ⟨hl, rfl, rfl, fun b hb => by unfold bsize; rw [hp b (hI.block hl.alive hb)]⟩⟩
  imm := fun b hb => ⟨hp b hb.1, Nat.lt_of_lt_of_le hb.1 hw.size, hb.2⟩
  os := hw.os
  tape := hw.tape
  output := hw.output
  size := hw.size

theorem quiet_inv (hI : Inv β H w) {w' : World} (hw : Same w w') (hp : ∀ b, b < w.heap.size → w'.heap[b]? = w.heap[b]?) : Inv β H w' where
  ok := fun i x hx => (hI.ok i x hx).mono (quiet_ext hI hw hp) rfl fun b hb => hp b (hI.block ⟨x, hx⟩ hb)
  inj := hI.inj

theorem set_get {i j : Nat} {x : Option OB} (hi : i < H.length) : (H.set i x)[j]? = if j = i then some x else H[j]? := by
  by_cases h : j = i
  · subst h; rw [if_pos rfl, List.getElem?_set_self hi]
  · rw [if_neg h, List.getElem?_set_ne (Ne.symm h)]

theorem alive_set {i j : Nat} {x : OB} (ha : Alive H i) : Alive (H.set i (some x)) j ↔ Alive H j := by
  unfold Alive
  rw [set_get ha.lt]
  by_cases h : j = i
  · subst h; simp only [if_true]; exact ⟨fun _ => ha, fun _ => ⟨x, rfl⟩⟩
  · simp only [if_neg h]

theorem aliveM_set {i j : Nat} {o x : OB} (ho : H[i]? = some (some o)) (hown : o.own = true) (h : AliveM (H.set i (some x)) j) : AliveM H j := by
  obtain ⟨y, hy, h1⟩ := h
  rw [set_get (Alive.lt ⟨o, ho⟩)] at hy
  split at hy
  · rename_i e; subst e; exact ⟨o, ho, hown⟩
  · exact ⟨y, hy, h1⟩

/-- An object's block changes in place. -/
theorem set_ext (hI : Inv β H w) {w' : World} (hw : Same w w') {i b : Nat} {o o' : OB} (ho : H[i]? = some (some o)) (hb : β i = some b)
    (hp : ∀ k, k < w.heap.size → k ≠ b → w'.heap[k]? = w.heap[k]?) (hbs : bsize w' b = bsize w b) (hv : o.ver < o'.ver ∨ (o'.ver = o.ver ∧ o'.len = o.len)) (hown : o.own = true := by rfl) :
    Ext β H w β (H.set i (some o')) w' where
  len := by simp
  live := fun j ver hj => by
    have hil : i < H.length := Alive.lt ⟨o, ho⟩
    refine ⟨⟨by simp; exact hj.1, fun x hx => ?_⟩, fun hl => ?_⟩
    · rw [set_get hil] at hx
      split at hx
      · rename_i e
        subst e
        simp only [Option.some.injEq] at hx
        subst hx
        have := hj.2 o ho
        omega
      · exact hj.2 x hx
    · obtain ⟨x, hx, hxv⟩ := hl
      have hxx := hx
      rw [set_get hil] at hx
      split at hx
      · rename_i e
        subst e
        simp only [Option.some.injEq] at hx
        subst hx
        have h1 := hj.2 o ho
        rcases hv with hv | ⟨hv, hl⟩
        · omega
        · refine ⟨⟨o, ho, by omega⟩, rfl, ?_, fun b' hb' => ?_⟩
          · unfold olen; rw [hxx, ho]; exact hl
          · rw [hb] at hb'; cases hb'; exact hbs
      · rename_i e
        refine ⟨⟨x, hx, hxv⟩, rfl, ?_, fun b' hb' => ?_⟩
        · unfold olen; rw [hxx, hx]
        · have hne : b' ≠ b := fun h => e (hI.inj j i b ⟨x, hx⟩ ⟨o, ho⟩ (h ▸ hb') hb)
          unfold bsize
          rw [hp b' (hI.block ⟨x, hx⟩ hb') hne]
  imm := fun k hk => by
    refine ⟨hp k hk.1 fun h => hk.2 i ⟨o, ho, hown⟩ (h ▸ hb), Nat.lt_of_lt_of_le hk.1 hw.size, fun j hj => hk.2 j (aliveM_set ho hown hj)⟩
  os := hw.os
  tape := hw.tape
  output := hw.output
  size := hw.size

theorem set_inv (hI : Inv β H w) {w' : World} {i b : Nat} {o o' : OB} (ho : H[i]? = some (some o)) (hb : β i = some b)
    (hp : ∀ k, k < w.heap.size → k ≠ b → w'.heap[k]? = w.heap[k]?) (he : Ext β H w β (H.set i (some o')) w') (hok : ObOk β (H.set i (some o')) w' i o') :
    Inv β (H.set i (some o')) w' where
  ok := fun j x hx => by
    rw [set_get (Alive.lt ⟨o, ho⟩)] at hx
    split at hx
    · rename_i e
      subst e
      simp only [Option.some.injEq] at hx
      subst hx
      exact hok
    · rename_i e
      refine (hI.ok j x hx).mono he rfl fun k hk => hp k (hI.block ⟨x, hx⟩ hk) fun h => e (hI.inj j i b ⟨x, hx⟩ ⟨o, ho⟩ (h ▸ hk) hb)
  inj := fun j k b' hj hk => hI.inj j k b' ((alive_set ⟨o, ho⟩).mp hj) ((alive_set ⟨o, ho⟩).mp hk)

/-- An object moves to a block of its own, under a new version. -/
theorem move_ext (hI : Inv β H w) {w' : World} (hw : Same w w') {i b : Nat} {o o' : OB} (ho : H[i]? = some (some o)) (hb : w.heap.size ≤ b)
    (hp : ∀ k, k < w.heap.size → w'.heap[k]? = w.heap[k]?) (hv : o.ver < o'.ver) (hown : o.own = true := by rfl) : Ext β H w (more β i (some b)) (H.set i (some o')) w' where
  len := by simp
  live := fun j ver hj => by
    have hil : i < H.length := Alive.lt ⟨o, ho⟩
    refine ⟨⟨by simp; exact hj.1, fun x hx => ?_⟩, fun hl => ?_⟩
    · rw [set_get hil] at hx
      split at hx
      · rename_i e
        subst e
        simp only [Option.some.injEq] at hx
        subst hx
        have := hj.2 o ho
        omega
      · exact hj.2 x hx
    · obtain ⟨x, hx, hxv⟩ := hl
      have hxx := hx
      rw [set_get hil] at hx
      split at hx
      · rename_i e
        subst e
        simp only [Option.some.injEq] at hx
        subst hx
        have h1 := hj.2 o ho
        omega
      · rename_i e
        refine ⟨⟨x, hx, hxv⟩, by unfold more; rw [if_neg e], ?_, fun b' hb' => ?_⟩
        · unfold olen; rw [hxx, hx]
        · unfold bsize
          rw [hp b' (hI.block ⟨x, hx⟩ hb')]
  imm := fun k hk => by
    refine ⟨hp k hk.1, Nat.lt_of_lt_of_le hk.1 hw.size, fun j hj => ?_⟩
    unfold more
    split
    · intro h; cases h; have := hk.1; omega
    · exact hk.2 j (aliveM_set ho hown hj)
  os := hw.os
  tape := hw.tape
  output := hw.output
  size := hw.size

theorem move_inv (hI : Inv β H w) {w' : World} {i b : Nat} {o o' : OB} (ho : H[i]? = some (some o)) (hb : w.heap.size ≤ b)
    (hp : ∀ k, k < w.heap.size → w'.heap[k]? = w.heap[k]?) (he : Ext β H w (more β i (some b)) (H.set i (some o')) w') (hok : ObOk (more β i (some b)) (H.set i (some o')) w' i o') :
    Inv (more β i (some b)) (H.set i (some o')) w' where
  ok := fun j x hx => by
    rw [set_get (Alive.lt ⟨o, ho⟩)] at hx
    split at hx
    · rename_i e
      subst e
      simp only [Option.some.injEq] at hx
      subst hx
      exact hok
    · rename_i e
      exact (hI.ok j x hx).mono he (by unfold more; rw [if_neg e]) fun k hk => hp k (hI.block ⟨x, hx⟩ hk)
  inj := fun j k b' hj hk hbj hbk => by
    have hj' := (alive_set ⟨o, ho⟩).mp hj
    have hk' := (alive_set ⟨o, ho⟩).mp hk
    unfold more at hbj hbk
    split at hbj <;> split at hbk
    · subst_vars; rfl
    · cases hbj; have := hI.block hk' hbk; omega
    · cases hbk; have := hI.block hj' hbj; omega
    · exact hI.inj j k b' hj' hk' hbj hbk

end Go.Proofs.SL
