/-
  SL: abstract values, the abstract heap, and what it means that a world holds them. No claim by itself.
-/
import Derived.Calls
import Derived.Orders
import Derived.Below
import Derived.Laws.Sem
import Derived.Laws.Cells
import Derived.Laws.Entries
namespace Go.Proofs.SL
open Go

inductive PV where
  | any
  | bool (b : Bool)
  | int (k : IntKind) (n : Int)
  | str (s : ByteArray)
  | agg (cs : List PV)
  | tup (vs : List PV)
  | nilp
  | ptr (i ver off : Nat)
  | nils
  | empt
  | sl (m : Nat) (xs : List PV)
  | buf (i ver off len m : Nat) (tip : Bool)
  | cptr (p : PV)
  | func (fn : Fn) (first captured : List PV)
  | nilf
  | iface (t : TypeId) (v : PV)
  | nili
  | nilm
  | mp (i : Nat)

def PV.cells : PV → List PV
  | .agg cs => cs
  | v => [v]

inductive OB where
  | cells (ver : Nat) (cs : List PV)
  | striter (s : ByteArray) (pos : Nat)
  | glob (b : Nat) (o : Obj)
  | map (es : List (PV × PV))

abbrev Heap := List (Option OB)
abbrev Env := List PV

def OB.ver : OB → Nat
  | .cells v _ => v
  | _ => 0
def OB.len : OB → Nat
  | .cells _ cs => cs.length
  | _ => 0

def Live (H : Heap) (i ver : Nat) : Prop := ∃ o, H[i]? = some (some o) ∧ o.ver = ver
def Alive (H : Heap) (i : Nat) : Prop := ∃ o, H[i]? = some (some o)
def olen (H : Heap) (i : Nat) : Nat :=
  match H[i]? with
  | some (some o) => o.len
  | _ => 0
def bsize (w : World) (b : Nat) : Nat :=
  match w.heap[b]? with
  | some (.cells c _ _) => c.size
  | _ => 0

/-- A reference to an object that is there, and not from the time to come. -/
def Ref (H : Heap) (i ver : Nat) : Prop := i < H.length ∧ ∀ o, H[i]? = some (some o) → ver ≤ o.ver

theorem Live.alive {H : Heap} {i ver : Nat} (h : Live H i ver) : Alive H i := let ⟨o, ho, _⟩ := h; ⟨o, ho⟩
theorem Alive.live {H : Heap} {i : Nat} (h : Alive H i) : ∃ ver, Live H i ver := let ⟨o, ho⟩ := h; ⟨o.ver, o, ho, rfl⟩
theorem Alive.lt {H : Heap} {i : Nat} (h : Alive H i) : i < H.length := by
  obtain ⟨o, ho⟩ := h
  rcases Nat.lt_or_ge i H.length with h | h
  · exact h
  · rw [List.getElem?_eq_none h] at ho; cases ho

/-- A block that no object of the heap lies in. -/
def Imm (β : Nat → Option Nat) (H : Heap) (w : World) (b : Nat) : Prop := b < w.heap.size ∧ ∀ i, Alive H i → β i ≠ some b

def flat (xs : List PV) : List PV := xs.flatMap PV.cells

inductive V (β : Nat → Option Nat) (H : Heap) (w : World) : Value → PV → Prop
  | any (v : Value) : V β H w v .any
  | bool (b : Bool) : V β H w (.bool b) (.bool b)
  | int (k : IntKind) (n : Int) : V β H w (.int k n) (.int k n)
  | str (s : ByteArray) : V β H w (.string s) (.str s)
  | agg (vs : Array Value) (ps : List PV) (hs : vs.size = ps.length)
      (h : ∀ (i : Nat) (v : Value) (p : PV), vs[i]? = some v → ps[i]? = some p → V β H w v p) : V β H w (.agg vs) (.agg ps)
  | tup (vs : Array Value) (ps : List PV) (hs : vs.size = ps.length)
      (h : ∀ (i : Nat) (v : Value) (p : PV), vs[i]? = some v → ps[i]? = some p → V β H w v p) : V β H w (.tuple vs) (.tup ps)
  | nilp : V β H w (.pointer none) .nilp
  | ptr (b i ver off : Nat) (hi : Ref H i ver) (h : Live H i ver → β i = some b) : V β H w (.pointer (some ⟨b, off, none⟩)) (.ptr i ver off)
  | nils : V β H w (.slice none 0 0) .nils
  | empt (a : Option Addr) : V β H w (.slice a 0 0) .empt
  | sl0 (a : Option Addr) (c m : Nat) : V β H w (.slice a 0 c) (.sl m [])
  | sl (b off cap m : Nat) (xs : List PV) (f : Nat → Value) (hb : Imm β H w b) (hm : ∀ x ∈ xs, x.cells.length = m) (hc : xs.length ≤ cap)
      (h1 : ∀ k, k < (flat xs).length → w.cell? ⟨b, off + k, none⟩ = some (f k))
      (h2 : ∀ (k : Nat) (p : PV), (flat xs)[k]? = some p → V β H w (f k) p) (h3 : ∀ k, k < (flat xs).length → (f k).oneCell' = true) :
      V β H w (.slice (some ⟨b, off, none⟩) xs.length cap) (.sl m xs)
  | buf (a : Option Addr) (cap i ver off len m : Nat) (tip : Bool) (hc : len ≤ cap) (ha : len ≠ 0 → ∃ b, a = some ⟨b, off, none⟩) (hi : Ref H i ver)
      (h : Live H i ver → (β i = none → cap = 0 ∧ (tip = true → off = 0)) ∧ ∀ b, β i = some b →
        (len = 0 ∧ tip = false) ∨ (a = some ⟨b, off, none⟩ ∧ off + cap * m ≤ bsize w b ∧ (tip = true → off = 0 ∧ olen H i ≤ cap * m))) :
      V β H w (.slice a len cap) (.buf i ver off len m tip)
  | cptr (b off : Nat) (p : PV) (f : Nat → Value) (hb : Imm β H w b)
      (h1 : ∀ k, k < p.cells.length → w.cell? ⟨b, off + k, none⟩ = some (f k))
      (h2 : ∀ (k : Nat) (q : PV), p.cells[k]? = some q → V β H w (f k) q) (h3 : ∀ k, k < p.cells.length → (f k).oneCell' = true) :
      V β H w (.pointer (some ⟨b, off, none⟩)) (.cptr p)
  | func (fn : Fn) (vs ws : Array Value) (ps qs : List PV) (hs : vs.size = ps.length) (hs' : ws.size = qs.length)
      (h : ∀ (i : Nat) (v : Value) (p : PV), vs[i]? = some v → ps[i]? = some p → V β H w v p)
      (h' : ∀ (i : Nat) (v : Value) (p : PV), ws[i]? = some v → qs[i]? = some p → V β H w v p) : V β H w (.func fn vs ws) (.func fn ps qs)
  | nilf : V β H w .nilFunc .nilf
  | iface (t : TypeId) (v : Value) (p : PV) (h : V β H w v p) : V β H w (.iface t v) (.iface t p)
  | nili : V β H w .nilIface .nili
  | nilm : V β H w (.map none) .nilm
  | mp (b i : Nat) (hi : Ref H i 0) (h : Live H i 0 → β i = some b) : V β H w (.map (some b)) (.mp i)

/-- From one state to a later one: what holds of the values that were there. -/
structure Ext (β : Nat → Option Nat) (H : Heap) (w : World) (β' : Nat → Option Nat) (H' : Heap) (w' : World) : Prop where
  len : H.length ≤ H'.length
  live : ∀ i ver, Ref H i ver → Ref H' i ver ∧ (Live H' i ver → Live H i ver ∧ β' i = β i ∧ olen H' i = olen H i ∧ ∀ b, β i = some b → bsize w' b = bsize w b)
  imm : ∀ b, Imm β H w b → w'.heap[b]? = w.heap[b]? ∧ Imm β' H' w' b
  os : w'.os = w.os
  tape : w'.tape = w.tape
  output : w'.output = w.output
  size : w.heap.size ≤ w'.heap.size

theorem Ext.refl (β : Nat → Option Nat) (H : Heap) (w : World) : Ext β H w β H w :=
  ⟨Nat.le_refl _, fun _ _ r => ⟨r, fun h => ⟨h, rfl, rfl, fun _ _ => rfl⟩⟩, fun _ h => ⟨rfl, h⟩, rfl, rfl, rfl, Nat.le_refl _⟩

theorem Ext.trans {β β1 β2 : Nat → Option Nat} {H H1 H2 : Heap} {w w1 w2 : World} (a : Ext β H w β1 H1 w1) (b : Ext β1 H1 w1 β2 H2 w2) : Ext β H w β2 H2 w2 where
  len := Nat.le_trans a.len b.len
  live := fun i ver hi => by
    obtain ⟨ha, h0⟩ := a.live i ver hi
    obtain ⟨hb, h1⟩ := b.live i ver ha
    refine ⟨hb, fun h => ?_⟩
    obtain ⟨l1, e1, o1, s1⟩ := h1 h
    obtain ⟨l0, e0, o0, s0⟩ := h0 l1
    exact ⟨l0, e1.trans e0, o1.trans o0, fun b hb => (s1 b (e0.trans hb)).trans (s0 b hb)⟩
  imm := fun b' hb => by
    obtain ⟨e1, i1⟩ := a.imm b' hb
    obtain ⟨e2, i2⟩ := b.imm b' i1
    exact ⟨e2.trans e1, i2⟩
  os := b.os.trans a.os
  tape := b.tape.trans a.tape
  output := b.output.trans a.output
  size := Nat.le_trans a.size b.size

theorem cell?_of_heap {w w' : World} {a : Addr} (h : w'.heap[a.block]? = w.heap[a.block]?) : w'.cell? a = w.cell? a := by
  unfold World.cell?; rw [h]

theorem V.mono {β β' : Nat → Option Nat} {H H' : Heap} {w w' : World} (e : Ext β H w β' H' w') {v : Value} {p : PV} (h : V β H w v p) : V β' H' w' v p := by
  induction h with
  | any v => exact .any v
  | bool b => exact .bool b
  | int k n => exact .int k n
  | str s => exact .str s
  | agg vs ps hs h ih => exact .agg vs ps hs ih
  | tup vs ps hs h ih => exact .tup vs ps hs ih
  | nilp => exact .nilp
  | ptr b i ver off hi h => exact .ptr b i ver off (e.live i ver hi).1 fun hl => ((e.live i ver hi).2 hl).2.1.trans (h ((e.live i ver hi).2 hl).1)
  | nils => exact .nils
  | empt a => exact .empt a
  | sl0 a c m => exact .sl0 a c m
  | sl b off cap m xs f hb hm hc h1 h2 h3 ih =>
    obtain ⟨e1, i1⟩ := e.imm b hb
    exact .sl b off cap m xs f i1 hm hc (fun k hk => (cell?_of_heap e1).trans (h1 k hk)) ih h3
  | buf a cap i ver off len m tip hc ha hi h =>
    refine .buf a cap i ver off len m tip hc ha (e.live i ver hi).1 fun hl => ?_
    obtain ⟨l, eb, eo, es⟩ := (e.live i ver hi).2 hl
    obtain ⟨h0, h1⟩ := h l
    refine ⟨fun hn => h0 (eb ▸ hn), fun b hb => ?_⟩
    rw [eo, es b (eb ▸ hb)]
    exact h1 b (eb ▸ hb)
  | cptr b off p f hb h1 h2 h3 ih =>
    obtain ⟨e1, i1⟩ := e.imm b hb
    exact .cptr b off p f i1 (fun k hk => (cell?_of_heap e1).trans (h1 k hk)) ih h3
  | func fn vs ws ps qs hs hs' h h' ih ih' => exact .func fn vs ws ps qs hs hs' ih ih'
  | nilf => exact .nilf
  | iface t v p h ih => exact .iface t v p ih
  | nili => exact .nili
  | nilm => exact .nilm
  | mp b i hi h => exact .mp b i (e.live i 0 hi).1 fun hl => ((e.live i 0 hi).2 hl).2.1.trans (h ((e.live i 0 hi).2 hl).1)

/-- What the world holds for one object. -/
def ObOk (β : Nat → Option Nat) (H : Heap) (w : World) (i : Nat) : OB → Prop
  | .cells _ cs => (β i = none → cs = []) ∧ ∀ b, β i = some b → ∃ (c : Array Value) (t : TypeId) (fz : Nat × Nat) (f : Nat → Value),
      w.heap[b]? = some (.cells c t fz) ∧ cs.length ≤ c.size ∧ (∀ k, k < cs.length → c[k]? = some (f k)) ∧
      (∀ (k : Nat) (p : PV), cs[k]? = some p → V β H w (f k) p) ∧ (∀ k, k < cs.length → (f k).oneCell' = true) ∧ ∀ k, k < c.size → ¬ (fz.1 ≤ k ∧ k < fz.2)
  | .striter s pos => ∃ b, β i = some b ∧ w.heap[b]? = some (.stringIter s pos)
  | .glob b o => β i = some b ∧ w.heap[b]? = some o
  | .map es => ∃ (b : Nat) (c : Array MapEntry) (k : Nat), β i = some b ∧ w.heap[b]? = some (.map c k) ∧ c.size = es.length ∧
      (∀ (j : Nat) (e : MapEntry) (p : PV × PV), c[j]? = some e → es[j]? = some p → V β H w e.key p.1 ∧ V β H w e.val p.2) ∧
      (∀ (j : Nat) (e : MapEntry), c[j]? = some e → e.born < k) ∧ ∀ (i j : Nat) (e f : MapEntry), c[i]? = some e → c[j]? = some f → i < j → e.born < f.born

structure Inv (β : Nat → Option Nat) (H : Heap) (w : World) : Prop where
  ok : ∀ i o, H[i]? = some (some o) → ObOk β H w i o
  inj : ∀ i j b, Alive H i → Alive H j → β i = some b → β j = some b → i = j

theorem Inv.block {β : Nat → Option Nat} {H : Heap} {w : World} (h : Inv β H w) {i b : Nat} (hi : Alive H i) (hb : β i = some b) : b < w.heap.size := by
  obtain ⟨o, ho⟩ := hi
  have := h.ok i o ho
  have key : ∃ x, w.heap[b]? = some x := by
    cases o with
    | cells v cs => obtain ⟨c, t, fz, f, hc, _⟩ := this.2 b hb; exact ⟨_, hc⟩
    | striter s pos => obtain ⟨b', hb', hc⟩ := this; rw [hb] at hb'; cases hb'; exact ⟨_, hc⟩
    | glob b' o => obtain ⟨hb', hc⟩ := this; rw [hb] at hb'; cases hb'; exact ⟨_, hc⟩
    | map es => obtain ⟨b', c, k, hb', hc, _⟩ := this; rw [hb] at hb'; cases hb'; exact ⟨_, hc⟩
  obtain ⟨x, hx⟩ := key
  rcases Nat.lt_or_ge b w.heap.size with h | h
  · exact h
  · rw [Array.getElem?_eq_none h] at hx; cases hx

end Go.Proofs.SL
