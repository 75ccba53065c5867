/-
  SL: steps of the abstract state alone: values forgotten, objects dropped or frozen; loops; functions. No claim by itself.
-/
import Derived.Test.YtdgikagnkbphoaaDoorSlRun2
namespace Go.Proofs.SL
open Go
set_option linter.unusedSimpArgs false
set_option linter.unusedVariables false

/-- A value that knows of no object from n on. -/
inductive Bdd (n : Nat) : PV → Prop
  | any : Bdd n .any
  | bool (b : Bool) : Bdd n (.bool b)
  | int (k : IntKind) (i : Int) : Bdd n (.int k i)
  | str (s : ByteArray) : Bdd n (.str s)
  | agg (cs : List PV) (h : ∀ p ∈ cs, Bdd n p) : Bdd n (.agg cs)
  | tup (cs : List PV) (h : ∀ p ∈ cs, Bdd n p) : Bdd n (.tup cs)
  | nilp : Bdd n .nilp
  | ptr (i ver off : Nat) (h : i < n) : Bdd n (.ptr i ver off)
  | nils : Bdd n .nils
  | empt : Bdd n .empt
  | sl (m : Nat) (cs : List PV) (h : ∀ p ∈ cs, Bdd n p) : Bdd n (.sl m cs)
  | buf (i ver off len m : Nat) (tip : Bool) (h : i < n) : Bdd n (.buf i ver off len m tip)
  | cptr (p : PV) (h : Bdd n p) : Bdd n (.cptr p)
  | func (fn : Fn) (ps qs : List PV) (h : ∀ p ∈ ps, Bdd n p) (h' : ∀ p ∈ qs, Bdd n p) : Bdd n (.func fn ps qs)
  | nilf : Bdd n .nilf
  | iface (t : TypeId) (p : PV) (h : Bdd n p) : Bdd n (.iface t p)
  | nili : Bdd n .nili
  | nilm : Bdd n .nilm
  | mp (i : Nat) (h : i < n) : Bdd n (.mp i)

section
variable {n : Nat}
@[simp] theorem bdd_any : Bdd n .any := .any
@[simp] theorem bdd_bool {b : Bool} : Bdd n (.bool b) := .bool b
@[simp] theorem bdd_int {k : IntKind} {i : Int} : Bdd n (.int k i) := .int k i
@[simp] theorem bdd_str {s : ByteArray} : Bdd n (.str s) := .str s
@[simp] theorem bdd_nilp : Bdd n .nilp := .nilp
@[simp] theorem bdd_nils : Bdd n .nils := .nils
@[simp] theorem bdd_empt : Bdd n .empt := .empt
@[simp] theorem bdd_nilf : Bdd n .nilf := .nilf
@[simp] theorem bdd_nili : Bdd n .nili := .nili
@[simp] theorem bdd_nilm : Bdd n .nilm := .nilm
@[simp] theorem bdd_mp {i : Nat} : Bdd n (.mp i) ↔ i < n := ⟨fun h => by cases h; assumption, .mp i⟩
@[simp] theorem bdd_agg {cs : List PV} : Bdd n (.agg cs) ↔ ∀ p ∈ cs, Bdd n p := ⟨fun h => by cases h; assumption, .agg cs⟩
@[simp] theorem bdd_tup {cs : List PV} : Bdd n (.tup cs) ↔ ∀ p ∈ cs, Bdd n p := ⟨fun h => by cases h; assumption, .tup cs⟩
@[simp] theorem bdd_sl {m : Nat} {cs : List PV} : Bdd n (.sl m cs) ↔ ∀ p ∈ cs, Bdd n p := ⟨fun h => by cases h; assumption, .sl m cs⟩
@[simp] theorem bdd_ptr {i ver off : Nat} : Bdd n (.ptr i ver off) ↔ i < n := ⟨fun h => by cases h; assumption, .ptr i ver off⟩
@[simp] theorem bdd_buf {i ver off len m : Nat} {tip : Bool} : Bdd n (.buf i ver off len m tip) ↔ i < n := ⟨fun h => by cases h; assumption, .buf i ver off len m tip⟩
@[simp] theorem bdd_cptr {p : PV} : Bdd n (.cptr p) ↔ Bdd n p := ⟨fun h => by cases h; assumption, .cptr p⟩
@[simp] theorem bdd_iface {t : TypeId} {p : PV} : Bdd n (.iface t p) ↔ Bdd n p := ⟨fun h => by cases h; assumption, .iface t p⟩
@[simp] theorem bdd_func {fn : Fn} {ps qs : List PV} : Bdd n (.func fn ps qs) ↔ (∀ p ∈ ps, Bdd n p) ∧ ∀ p ∈ qs, Bdd n p := ⟨fun h => by cases h; exact ⟨by assumption, by assumption⟩, fun h => .func fn ps qs h.1 h.2⟩
end

theorem Bdd.of_cells {n : Nat} {p : PV} (h : ∀ q ∈ p.cells, Bdd n q) : Bdd n p := by
  cases p
  case agg cs => exact .agg cs h
  all_goals exact h _ (by simp [PV.cells])

theorem Bdd.cells {n : Nat} {p : PV} (h : Bdd n p) : ∀ q ∈ p.cells, Bdd n q := by
  cases p
  case agg cs => exact bdd_agg.mp h
  all_goals (intro q hq; simp only [PV.cells, List.mem_singleton] at hq; subst hq; exact h)

theorem Bdd.mono {n m : Nat} (hnm : n ≤ m) {p : PV} (h : Bdd n p) : Bdd m p := by
  induction h with
  | agg cs _ ih => exact .agg cs ih
  | tup cs _ ih => exact .tup cs ih
  | sl m cs _ ih => exact .sl m cs ih
  | func fn ps qs _ _ ih ih' => exact .func fn ps qs ih ih'
  | ptr i ver off h => exact .ptr i ver off (by omega)
  | buf i ver off len m tip h => exact .buf i ver off len m tip (by omega)
  | cptr p _ ih => exact .cptr p ih
  | iface t p _ ih => exact .iface t p ih
  | mp i h => exact .mp i (by omega)
  | _ => constructor

theorem V.bdd {β : Nat → Option Nat} {H : Heap} {w : World} {v : Value} {p : PV} (h : V β H w v p) : Bdd H.length p := by
  induction h with
  | agg vs ps hs h ih =>
    refine .agg ps fun p hp => ?_
    obtain ⟨i, hi, rfl⟩ := List.getElem_of_mem hp
    exact ih i (vs[i]'(by omega)) _ (Array.getElem?_eq_getElem _) (List.getElem?_eq_getElem _)
  | tup vs ps hs h ih =>
    refine .tup ps fun p hp => ?_
    obtain ⟨i, hi, rfl⟩ := List.getElem_of_mem hp
    exact ih i (vs[i]'(by omega)) _ (Array.getElem?_eq_getElem _) (List.getElem?_eq_getElem _)
  | ptr b i ver off hi h => exact .ptr i ver off hi.1
  | sl0 a c m => exact .sl m [] (by simp)
  | sl b off cap m xs f hb hm hc h1 h2 h3 ih =>
    refine .sl m xs fun x hx => Bdd.of_cells fun q hq => ?_
    have hf : q ∈ flat xs := List.mem_flatMap.mpr ⟨x, hx, hq⟩
    obtain ⟨k, hk, rfl⟩ := List.getElem_of_mem hf
    exact ih k _ (List.getElem?_eq_getElem hk)
  | buf a cap i ver off len m tip hc ha hi h => exact .buf i ver off len m tip hi.1
  | cptr b off p f hb h1 h2 h3 ih =>
    refine .cptr p (Bdd.of_cells fun q hq => ?_)
    obtain ⟨k, hk, rfl⟩ := List.getElem_of_mem hq
    exact ih k _ (List.getElem?_eq_getElem hk)
  | func fn vs ws ps qs hs hs' h h' ih ih' =>
    refine .func fn ps qs (fun p hp => ?_) fun p hp => ?_
    · obtain ⟨i, hi, rfl⟩ := List.getElem_of_mem hp
      exact ih i (vs[i]'(by omega)) _ (Array.getElem?_eq_getElem _) (List.getElem?_eq_getElem _)
    · obtain ⟨i, hi, rfl⟩ := List.getElem_of_mem hp
      exact ih' i (ws[i]'(by omega)) _ (Array.getElem?_eq_getElem _) (List.getElem?_eq_getElem _)
  | iface t v p h ih => exact .iface t p ih
  | mp b i hi h => exact .mp i hi.1
  | _ => constructor

def OBdd (n : Nat) : OB → Prop
  | .cells _ cs => ∀ p ∈ cs, Bdd n p
  | .striter _ _ => True
  | .glob _ _ => True
  | .map es => ∀ p ∈ es, Bdd n p.1 ∧ Bdd n p.2

/-- All objects of the heap know only of those before n. -/
def HB (n : Nat) (H : Heap) : Prop := ∀ (i : Nat) (o : OB), H[i]? = some (some o) → OBdd n o

theorem Inv.hb {β : Nat → Option Nat} {H : Heap} {w : World} (h : Inv β H w) : HB H.length H := by
  intro i o ho
  have := h.ok i o ho
  cases o with
  | striter s pos => trivial
  | glob b o => trivial
  | map es =>
    intro p hp
    obtain ⟨b, c, k, h1, h2, h3, h4, h5⟩ := this
    obtain ⟨j, hj, rfl⟩ := List.getElem_of_mem hp
    have := h4 j (c[j]'(by omega)) _ (Array.getElem?_eq_getElem _) (List.getElem?_eq_getElem hj)
    exact ⟨this.1.bdd, this.2.bdd⟩
  | cells ver cs =>
    intro p hp
    cases hb : β i with
    | none => have := this.1 hb; subst this; cases hp
    | some b =>
      obtain ⟨c, t, fz, f, h1, h2, h3, h4, h5, h6⟩ := this.2 b hb
      obtain ⟨k, hk, rfl⟩ := List.getElem_of_mem hp
      exact (h4 k _ (List.getElem?_eq_getElem hk)).bdd

theorem HB.nil {n : Nat} : HB n [] := fun i o h => by simp at h
theorem HB.mono {n m : Nat} {H : Heap} (hnm : n ≤ m) (h : HB n H) : HB m H := fun i o ho => by
  have := h i o ho
  cases o with
  | striter s pos => trivial
  | glob b o => trivial
  | map es => exact fun p hp => ⟨(this p hp).1.mono hnm, (this p hp).2.mono hnm⟩
  | cells ver cs => exact fun p hp => (this p hp).mono hnm
theorem HB.append {n : Nat} {H L : Heap} (h : HB n H) (hl : ∀ o, some o ∈ L → OBdd n o) : HB n (H ++ L) := fun i o ho => by
  rcases Nat.lt_or_ge i H.length with hi | hi
  · rw [List.getElem?_append_left hi] at ho; exact h i o ho
  · rw [List.getElem?_append_right hi] at ho
    exact hl o (List.mem_of_getElem? ho)
theorem HB.set {n i : Nat} {H : Heap} {o : OB} (h : HB n H) (ho : OBdd n o) : HB n (H.set i (some o)) := fun j x hx => by
  by_cases e : j = i
  · subst e
    rcases Nat.lt_or_ge j H.length with hi | hi
    · rw [List.getElem?_set_self hi] at hx; cases hx; exact ho
    · rw [List.getElem?_eq_none (by simpa using hi)] at hx; cases hx
  · rw [List.getElem?_set_ne (Ne.symm e)] at hx; exact h j x hx

/-- The heap's last objects are dropped: what knows of none of them holds on. -/
theorem V.trim {β : Nat → Option Nat} {K L : Heap} {w : World} {v : Value} {p : PV} (h : V β (K ++ L) w v p) (hb : Bdd K.length p) : V β K w v p := by
  have get : ∀ i, i < K.length → (K ++ L)[i]? = K[i]? := fun i hi => List.getElem?_append_left hi
  have imm : ∀ b, Imm β (K ++ L) w b → Imm β K w b := fun b hb => ⟨hb.1, fun i hi => hb.2 i (by obtain ⟨o, ho⟩ := hi; exact ⟨o, (get i (Alive.lt ⟨o, ho⟩)).trans ho⟩)⟩
  have ref : ∀ i ver, i < K.length → Ref (K ++ L) i ver → Ref K i ver := fun i ver hi hr => ⟨hi, fun o ho => hr.2 o ((get i hi).trans ho)⟩
  have live : ∀ i ver, i < K.length → Live K i ver → Live (K ++ L) i ver := fun i ver hi hl => by obtain ⟨o, ho, hv⟩ := hl; exact ⟨o, (get i hi).trans ho, hv⟩
  generalize K ++ L = H at h get imm ref live
  induction h with
  | any v => exact .any v
  | bool b => exact .bool b
  | int k n => exact .int k n
  | str s => exact .str s
  | agg vs ps hs h ih => exact .agg vs ps hs fun i v p hv hp => ih i v p hv hp ((bdd_agg.mp hb) p (List.mem_of_getElem? hp))
  | tup vs ps hs h ih => exact .tup vs ps hs fun i v p hv hp => ih i v p hv hp ((bdd_tup.mp hb) p (List.mem_of_getElem? hp))
  | nilp => exact .nilp
  | ptr b i ver off hi h => exact .ptr b i ver off (ref i ver (bdd_ptr.mp hb) hi) fun hl => h (live i ver (bdd_ptr.mp hb) hl)
  | nils => exact .nils
  | empt a => exact .empt a
  | sl0 a c m => exact .sl0 a c m
  | sl b off cap m xs f hbb hm hc h1 h2 h3 ih =>
    refine .sl b off cap m xs f (imm b hbb) hm hc h1 (fun k p hp => ih k p hp ?_) h3
    obtain ⟨x, hx, hq⟩ := List.mem_flatMap.mp (List.mem_of_getElem? hp)
    exact ((bdd_sl.mp hb) x hx).cells p hq
  | buf a cap i ver off len m tip hc ha hi h =>
    have hlt := bdd_buf.mp hb
    refine .buf a cap i ver off len m tip hc ha (ref i ver hlt hi) fun hl => ?_
    have ho : olen K i = olen H i := by unfold olen; rw [get i hlt]
    rw [ho]
    exact h (live i ver hlt hl)
  | cptr b off p f hbb h1 h2 h3 ih => exact .cptr b off p f (imm b hbb) h1 (fun k q hq => ih k q hq ((bdd_cptr.mp hb).cells q (List.mem_of_getElem? hq))) h3
  | func fn vs ws ps qs hs hs' h h' ih ih' =>
    exact .func fn vs ws ps qs hs hs' (fun i v p hv hp => ih i v p hv hp ((bdd_func.mp hb).1 p (List.mem_of_getElem? hp)) ) fun i v p hv hp => ih' i v p hv hp ((bdd_func.mp hb).2 p (List.mem_of_getElem? hp))
  | nilf => exact .nilf
  | iface t v p h ih => exact .iface t v p (ih (bdd_iface.mp hb))
  | nili => exact .nili
  | nilm => exact .nilm
  | mp b i hi h => exact .mp b i (ref i 0 (bdd_mp.mp hb) hi) fun hl => h (live i 0 (bdd_mp.mp hb) hl)

theorem trim_inv {β : Nat → Option Nat} {K L : Heap} {w : World} (hK : HB K.length K) (h : Inv β (K ++ L) w) : Inv β K w where
  ok := fun i o ho => by
    have hi : i < K.length := Alive.lt ⟨o, ho⟩
    have h1 := h.ok i o ((List.getElem?_append_left hi).trans ho)
    have h2 := hK i o ho
    cases o with
    | striter s pos => exact h1
    | glob b o => exact h1
    | map es =>
      obtain ⟨b, c, k, a1, a2, a3, a4, a5⟩ := h1
      exact ⟨b, c, k, a1, a2, a3, fun j e p he hp => ⟨(a4 j e p he hp).1.trim (h2 p (List.mem_of_getElem? hp)).1, (a4 j e p he hp).2.trim (h2 p (List.mem_of_getElem? hp)).2⟩, a5⟩
    | cells ver cs =>
      refine ⟨h1.1, fun b hb => ?_⟩
      obtain ⟨c, t, fz, f, a1, a2, a3, a4, a5, a6⟩ := h1.2 b hb
      exact ⟨c, t, fz, f, a1, a2, a3, fun k p hp => (a4 k p hp).trim (h2 p (List.mem_of_getElem? hp)), a5, a6⟩
  inj := fun i j b hi hj => by
    have up : ∀ i, Alive K i → Alive (K ++ L) i := fun i hi => by obtain ⟨o, ho⟩ := hi; exact ⟨o, (List.getElem?_append_left (Alive.lt ⟨o, ho⟩)).trans ho⟩
    exact h.inj i j b (up i hi) (up j hj)

theorem trim_ext {β0 : Nat → Option Nat} {H0 : Heap} {w0 : World} {β : Nat → Option Nat} {K L : Heap} {w : World} (hl : H0.length ≤ K.length) (h : Ext β0 H0 w0 β (K ++ L) w) : Ext β0 H0 w0 β K w where
  len := hl
  live := fun i ver hi => by
    obtain ⟨h1, h2⟩ := h.live i ver hi
    have hlt : i < K.length := Nat.lt_of_lt_of_le hi.1 hl
    have e : (K ++ L)[i]? = K[i]? := List.getElem?_append_left hlt
    refine ⟨⟨hlt, fun o ho => h1.2 o (e.trans ho)⟩, fun hlv => ?_⟩
    obtain ⟨o, ho, hv⟩ := hlv
    have := h2 ⟨o, e.trans ho, hv⟩
    have eo : olen K i = olen (K ++ L) i := by unfold olen; rw [e]
    rw [eo]
    exact this
  imm := fun b hb => by
    obtain ⟨h1, h2⟩ := h.imm b hb
    exact ⟨h1, h2.1, fun i hi => h2.2 i (by obtain ⟨o, ho⟩ := hi; exact ⟨o, (List.getElem?_append_left (Alive.lt ⟨o, ho⟩)).trans ho⟩)⟩
  os := h.os
  tape := h.tape
  output := h.output
  size := h.size

/-- An object is forgotten. -/
theorem kill_get {H : Heap} {i j : Nat} {o : OB} (h : (H.set i none)[j]? = some (some o)) : H[j]? = some (some o) ∧ j ≠ i := by
  by_cases e : j = i
  · subst e
    rcases Nat.lt_or_ge j H.length with hi | hi
    · rw [List.getElem?_set_self hi] at h; cases h
    · rw [List.getElem?_eq_none (by simpa using hi)] at h; cases h
  · rw [List.getElem?_set_ne (Ne.symm e)] at h; exact ⟨h, e⟩

theorem kill_ext (β : Nat → Option Nat) (H : Heap) (w : World) (i : Nat) : Ext β H w β (H.set i none) w where
  len := by simp
  live := fun j ver hj => by
    refine ⟨⟨by simpa using hj.1, fun o ho => hj.2 o (kill_get ho).1⟩, fun hl => ?_⟩
    obtain ⟨o, ho, hv⟩ := hl
    have h1 := (kill_get ho).1
    refine ⟨⟨o, h1, hv⟩, rfl, ?_, fun _ _ => rfl⟩
    unfold olen; rw [h1, ho]
  imm := fun b hb => ⟨rfl, hb.1, fun j hj => hb.2 j (by obtain ⟨o, ho⟩ := hj; exact ⟨o, (kill_get ho).1⟩)⟩
  os := rfl
  tape := rfl
  output := rfl
  size := Nat.le_refl _

theorem kill_inv {β : Nat → Option Nat} {H : Heap} {w : World} {i : Nat} (h : Inv β H w) : Inv β (H.set i none) w where
  ok := fun j o ho => (h.ok j o (kill_get ho).1).mono (kill_ext β H w i) rfl fun _ _ => rfl
  inj := fun j k b hj hk => by
    have up : ∀ j, Alive (H.set i none) j → Alive H j := fun j hj => by obtain ⟨o, ho⟩ := hj; exact ⟨o, (kill_get ho).1⟩
    exact h.inj j k b (up j hj) (up k hk)

/-- A step of the abstract state while the world stands still. -/
def Ghost (H0 : Heap) (σ : Env) (H : Heap) (σ' : Env) (H' : Heap) : Prop :=
  ∀ β0 w0 β w a, Inv β H w → Ext β0 H0 w0 β H w → FR β H w a σ → ∃ β', Inv β' H' w ∧ Ext β0 H0 w0 β' H' w ∧ FR β' H' w a σ'

section
variable {H0 : Heap} {σ σ' σ'' : Env} {H H' H'' : Heap}

theorem Ghost.refl : Ghost H0 σ H σ H := fun _ _ β _ _ h1 h2 h3 => ⟨β, h1, h2, h3⟩
theorem Ghost.trans (a : Ghost H0 σ H σ' H') (b : Ghost H0 σ' H' σ'' H'') : Ghost H0 σ H σ'' H'' := fun β0 w0 β w ac h1 h2 h3 => by
  obtain ⟨β', a1, a2, a3⟩ := a β0 w0 β w ac h1 h2 h3
  exact b β0 w0 β' w ac a1 a2 a3

/-- Slots are forgotten, the last objects dropped. -/
theorem Ghost.trim {K L : Heap} (hK : HB K.length K) (hl : H0.length ≤ K.length) (hs : σ'.length = σ.length) (h : ∀ (i : Nat) (p : PV), σ'[i]? = some p → p = .any ∨ (σ[i]? = some p ∧ Bdd K.length p)) : Ghost H0 σ (K ++ L) σ' K :=
  fun β0 w0 β w a h1 h2 h3 => ⟨β, trim_inv hK h1, trim_ext hl h2, by
    have := h3.size
    refine { h3 with size := by rw [hs]; exact this, v := fun t p hp => ?_ }
    rcases h t p hp with rfl | ⟨hp', hb⟩
    · exact .any _
    · exact (h3.v t p hp').trim hb⟩

theorem Ghost.weak (hs : σ'.length = σ.length) (h : ∀ (i : Nat) (p : PV), σ'[i]? = some p → p = .any ∨ σ[i]? = some p) : Ghost H0 σ H σ' H :=
  fun β0 w0 β w a h1 h2 h3 => ⟨β, h1, h2, by
    have := h3.size
    refine { h3 with size := by rw [hs]; exact this, v := fun t p hp => ?_ }
    rcases h t p hp with rfl | hp'
    · exact .any _
    · exact h3.v t p hp'⟩

/-- A slice that grew in an object of its own is a read-only one from here on. -/
theorem Ghost.freeze {t i ver off len m : Nat} {tip : Bool} {cs xs : List PV} (ht : σ[t]? = some (.buf i ver off len m tip)) (ho : H[i]? = some (some (.cells ver cs)))
    (hx : flat xs = subCells cs off (len * m)) (hl : xs.length = len) (hm : ∀ x ∈ xs, x.cells.length = m) : Ghost H0 σ H (σ.set t (.sl m xs)) (H.set i none) :=
  fun β0 w0 β w a h1 h2 h3 => ⟨β, kill_inv h1, h2.trans (kill_ext β H w i), by
    have h4 := h3.mono (kill_ext β H w i)
    refine { h4 with size := by rw [List.length_set]; exact h4.size, v := fun j p hp => ?_ }
    by_cases e : t = j
    · subst e
      have hlt : t < σ.length := by
        rcases Nat.lt_or_ge t σ.length with h | h
        · exact h
        · rw [List.getElem?_eq_none h] at ht; cases ht
      rw [List.getElem?_set_self hlt] at hp
      cases hp
      have hv := h3.v t _ ht
      generalize a.tmps.getD t undef = v at hv ⊢
      subst hl
      cases hv with
      | buf ad cap _ _ _ _ _ _ hc ha hi h =>
        by_cases hz : xs = []
        · subst hz; exact .sl0 _ _ _
        have hne : xs.length ≠ 0 := by simpa using hz
        obtain ⟨b, rfl⟩ := ha hne
        obtain ⟨hn, hs⟩ := h ⟨_, ho, rfl⟩
        have hob := h1.ok i _ ho
        cases hb : β i with
        | none => have := (hn hb).1; omega
        | some b' =>
          have hb' : b = b' := by
            rcases hs b' hb with ⟨h, _⟩ | ⟨h, _⟩
            · exact absurd h hne
            · cases h; rfl
          subst hb'
          obtain ⟨c, ty, fz, f, a1, a2, a3, a4, a5, a6⟩ := hob.2 b hb
          have hlen := congrArg List.length hx
          have hfl : (flat xs).length = xs.length * m := by
            clear hx ha h hs hlen hne hz hc ht h3 hlt
            induction xs with
            | nil => simp [flat]
            | cons x xs ih =>
              have := ih fun y hy => hm y (List.mem_cons_of_mem _ hy)
              have hx := hm x (by simp)
              simp only [flat, List.flatMap_cons, List.length_append] at this ⊢
              rw [this, hx, List.length_cons, Nat.succ_mul]; omega
          have hle : (flat xs).length ≤ cs.length - off := by rw [hx]; simp [subCells]; omega
          have hpos : ∀ k, k < (flat xs).length → off + k < cs.length := fun k hk => by omega
          refine .sl b off cap m xs (fun k => f (off + k)) ⟨?_, fun j hj => ?_⟩ hm hc (fun k hk => ?_) (fun k p hp => ?_) fun k hk => a5 _ (hpos k hk)
          · exact h1.block ⟨_, ho⟩ hb
          · intro hjb
            obtain ⟨o, hoj⟩ := hj
            obtain ⟨hj1, hj2⟩ := kill_get hoj
            exact hj2 (h1.inj j i b ⟨o, hj1⟩ ⟨_, ho⟩ hjb hb)
          · rw [cell_of a1]; exact a3 _ (hpos k hk)
          · have hk : k < (flat xs).length := by
              rcases Nat.lt_or_ge k (flat xs).length with h | h
              · exact h
              · rw [List.getElem?_eq_none h] at hp; cases hp
            refine (a4 (off + k) p ?_).mono (kill_ext β H w i)
            rw [hx] at hp
            simp only [subCells] at hp
            rw [List.getElem?_take_of_lt (by omega), List.getElem?_drop] at hp
            exact hp
    · rw [List.getElem?_set_ne e] at hp
      exact h4.v j p hp⟩

/-- A nil slice is an empty one that may grow. -/
theorem Ghost.grow {t m : Nat} (ht : σ[t]? = some .nils) : Ghost H0 σ H (σ.set t (.buf H.length 0 0 0 m true)) (H ++ [some (.cells 0 [])]) :=
  fun β0 w0 β w a h1 h2 h3 => by
    have hs : Same w w := ⟨rfl, rfl, rfl, Nat.le_refl _⟩
    have he := push_ext (o := .cells 0 []) (r := none) h1 hs (fun _ _ => rfl) (by simp)
    have hi := push_inv (o := .cells 0 []) (r := none) h1 (fun _ _ => rfl) (by simp) he ⟨fun _ => rfl, fun b hb => by rw [more_self] at hb; cases hb⟩
    refine ⟨_, hi, h2.trans he, ?_⟩
    have h4 := h3.mono he
    refine { h4 with size := by rw [List.length_set]; exact h4.size, v := fun j p hp => ?_ }
    by_cases e : t = j
    · subst e
      have hlt : t < σ.length := by
        rcases Nat.lt_or_ge t σ.length with h | h
        · exact h
        · rw [List.getElem?_eq_none h] at ht; cases ht
      rw [List.getElem?_set_self hlt] at hp
      cases hp
      have hv := h3.v t _ ht
      generalize a.tmps.getD t undef = v at hv ⊢
      rw [hv.nils_inv]
      refine .buf none 0 _ 0 0 0 m true (Nat.le_refl _) (fun h => absurd rfl h) ⟨by simp, fun o ho => ?_⟩ fun _ => ⟨fun _ => ⟨rfl, fun _ => rfl⟩, fun b hb => ?_⟩
      · exact Nat.zero_le _
      · rw [more_self] at hb; cases hb
    · rw [List.getElem?_set_ne e] at hp
      exact h4.v j p hp

theorem Ghost.run {P : Program} {its : List It} {Φ : AEx → Env → Heap → Prop} (g : Ghost H0 σ H σ' H') (h : Run P H0 its σ' H' Φ) : Run P H0 its σ H Φ :=
  fun β0 w0 β w a h1 h2 h3 => by
    obtain ⟨β', a1, a2, a3⟩ := g β0 w0 β w a h1 h2 h3
    exact h β0 w0 β' w a a1 a2 a3

variable {P : Program} {T : Nat → Option TD} {ord : Nat → List Nat} {Φ : AEx → Env → Heap → Prop}

def calmB : It → Bool
  | .code _ | .blk _ | .loop _ => true
  | _ => false

theorem calm_of {its : List It} (hc : its.all calmB = true) : ∀ it ∈ its, Calm it := fun it hit => by
  have := List.all_eq_true.mp hc it hit
  cases it <;> simp_all [Calm, calmB]

theorem Runs.ghost {its : List It} (hc : its.all calmB = true) (g : Ghost H0 σ H σ' H') (h : Runs P T ord H0 its σ' H' Φ) : Runs P T ord H0 its σ H Φ := by
  have hcalm := calm_of hc
  intro hok
  have h1 := g.run (runs_calm hcalm hok h)
  cases its with
  | nil => exact h1
  | cons it k =>
    have := hcalm it (by simp)
    cases it <;> simp only [Calm] at this <;> exact h1

/-- What one round of a loop is to show. -/
def Round (P : Program) (T : Nat → Option TD) (ord : Nat → List Nat) (H0 : Heap) (Φ : AEx → Env → Heap → Prop) (its : List It) (I : Nat → Env → Heap → Prop) (n : Nat) : AEx → Env → Heap → Prop
  | .normal, σ, H => ∃ m, m < n ∧ ∃ σ' H', Ghost H0 σ H σ' H' ∧ I m σ' H'
  | .exit id, σ, H => match toBlk id its with
    | some k => Run P H0 k σ H Φ
    | none => Φ (.exit id) σ H
  | .ret, σ, H => Φ .ret σ H

theorem toBlk_sub {id : Nat} : ∀ (k k' : List It), toBlk id k = some k' → ∀ x ∈ k', x ∈ k := by
  intro k
  induction k with
  | nil => intro k' h; cases h
  | cons it k ihk =>
    intro k' h x hx
    cases it <;> simp only [toBlk] at h
    case blk i =>
      split at h
      · cases h; exact List.mem_cons_of_mem _ hx
      · exact List.mem_cons_of_mem _ (ihk k' h x hx)
    all_goals exact List.mem_cons_of_mem _ (ihk k' h x hx)

theorem run_loop {c : Code} {its : List It} (I : Nat → Env → Heap → Prop)
    (step : ∀ n σ H, I n σ H → Run P H0 [.code c] σ H (Round P T ord H0 Φ its I n)) :
    ∀ n σ H, I n σ H → Run P H0 (.loop c :: its) σ H Φ := by
  intro n σ H hI0 β0 w0 β w a hI hE hF
  show (Code.loop c).wp P (kontL P (Fin Φ β0 H0 w0) its) a w
  let J : Nat → Act → World → Prop := fun n a w => ∃ σ H β, I n σ H ∧ Inv β H w ∧ Ext β0 H0 w0 β H w ∧ FR β H w a σ
  classical
  have hex : ∀ a w, (∃ n, J n a w) → ∃ n, J n a w ∧ ∀ m, J m a w → n ≤ m := fun a w h => by
    obtain ⟨n, hn⟩ := h
    induction n using Nat.strongRecOn with
    | _ n ih =>
      by_cases hm : ∃ m, m < n ∧ J m a w
      · obtain ⟨m, hlt, hm⟩ := hm; exact ih m hlt hm
      · exact ⟨n, hn, fun m hj => by
          rcases Nat.lt_or_ge m n with h | h
          · exact absurd ⟨m, h, hj⟩ hm
          · exact h⟩
  let μ : Act → World → Nat := fun a w => if h : ∃ n, J n a w then Classical.choose (hex a w h) else 0
  have hμ : ∀ a w, (∃ n, J n a w) → J (μ a w) a w ∧ ∀ m, J m a w → μ a w ≤ m := fun a w h => by
    show J (if h : ∃ n, J n a w then Classical.choose (hex a w h) else 0) a w ∧ ∀ m, J m a w → (if h : ∃ n, J n a w then Classical.choose (hex a w h) else 0) ≤ m
    rw [dif_pos h]
    exact Classical.choose_spec (hex a w h)
  refine wp_loop (fun a w => ∃ n, J n a w) μ ⟨n, σ, H, β, hI0, hI, hE, hF⟩ fun a w hj => ?_
  obtain ⟨σ1, H1, β1, j1, j2, j3, j4⟩ := (hμ a w hj).1
  refine wp_mono (step _ σ1 H1 j1 β0 w0 β1 w a j2 j3 j4) fun e a' w' he => ?_
  obtain ⟨x, σ2, H2, β2, hx, k1, k2, k3, k4⟩ := he
  cases e <;> cases x <;> simp only [exOk] at hx
  · obtain ⟨m, hm, σ3, H3, g, hi3⟩ := k4
    obtain ⟨β3, g1, g2, g3⟩ := g β0 w0 β2 w' a' k1 k2 k3
    refine ⟨⟨m, σ3, H3, β3, hi3, g1, g2, g3⟩, ?_⟩
    have := (hμ a' w' ⟨m, σ3, H3, β3, hi3, g1, g2, g3⟩).2 m ⟨σ3, H3, β3, hi3, g1, g2, g3⟩
    exact Nat.lt_of_le_of_lt this hm
  · subst hx
    rename_i id
    refine (kont_exit id its a' w').mpr ?_
    simp only [Round] at k4
    split at k4
    · rename_i k hk
      simp only [hk]
      exact k4 β0 w0 β2 w' a' k1 k2 k3
    · rename_i hk
      simp only [hk]
      exact ⟨.exit id, σ2, H2, β2, rfl, k1, k2, k3, k4⟩
  · exact kont_ret its a' w' ⟨.ret, σ2, H2, β2, trivial, k1, k2, k3, k4⟩

/-- As 'Round', with 'Runs'. -/
def Rnd (P : Program) (T : Nat → Option TD) (ord : Nat → List Nat) (H0 : Heap) (Φ : AEx → Env → Heap → Prop) (its : List It) (I : Nat → Env → Heap → Prop) (n : Nat) : AEx → Env → Heap → Prop
  | .normal, σ, H => ∃ m, m < n ∧ ∃ σ' H', Ghost H0 σ H σ' H' ∧ I m σ' H'
  | .exit id, σ, H => match toBlk id its with
    | some k => Runs P T ord H0 k σ H Φ
    | none => Φ (.exit id) σ H
  | .ret, σ, H => Φ .ret σ H

theorem Run.mono1 {c : Code} {Φ' : AEx → Env → Heap → Prop} (h : Run P H0 [.code c] σ H Φ) (hq : ∀ x σ H, Φ x σ H → Φ' x σ H) : Run P H0 [.code c] σ H Φ' := by
  intro β0 w0 β w a hI hE hF
  have h1 : c.wp P (kontL P (Fin Φ β0 H0 w0) []) a w := h β0 w0 β w a hI hE hF
  show c.wp P (kontL P (Fin Φ' β0 H0 w0) []) a w
  refine wp_mono h1 fun e a w he => ?_
  obtain ⟨x, σ, H, β, h1, h2, h3, h4, h5⟩ := he
  exact ⟨x, σ, H, β, h1, h2, h3, h4, hq _ _ _ h5⟩

/-- A loop, by what holds at each round's begin, and a number that falls. -/
theorem runs_loop {c : Code} {its : List It} (hc : its.all calmB = true) (I : Nat → Env → Heap → Prop)
    (step : ∀ n σ H, I n σ H → Runs P T ord H0 [.code c] σ H (Rnd P T ord H0 Φ its I n)) {n : Nat} (h0 : I n σ H) : Runs P T ord H0 (.loop c :: its) σ H Φ := by
  have hcalm := calm_of hc
  intro hok
  have hcc : codeOk T ord c = true := hok.1 (.loop c) (by simp)
  refine run_loop (T := T) (ord := ord) I (fun n σ H hI => (step n σ H hI ⟨fun it hit => ?_, by simp⟩).mono1 fun x σ2 H2 h2 => ?_) n σ H h0
  · simp only [List.mem_singleton] at hit; subst hit; exact hcc
  · cases x with
    | normal => exact h2
    | ret => exact h2
    | exit id =>
      simp only [Rnd, Round] at h2 ⊢
      split at h2
      · rename_i k hk
        have hs := toBlk_sub its k hk
        exact runs_calm (fun x hx => hcalm x (hs x hx)) ⟨fun x hx => hok.1 x (List.mem_cons_of_mem _ (hs x hx)), fun x hx => hcalm x (hs x (List.mem_of_mem_tail hx))⟩ h2
      · exact h2

/-- A function's results, as they lie in its temporaries. -/
def retV (σ : Env) : List Nat → PV
  | [t] => σ.getD t .any
  | ts => .tup (ts.map fun t => σ.getD t .any)

theorem slot {β : Nat → Option Nat} {w : World} {a : Act} (h : FR β H w a σ) (t : Nat) : V β H w (a.tmps.getD t undef) (σ.getD t .any) := h.opn (.tmp t)

theorem run_mapTmp {F : ResultVar → Sem Value} {g : Nat → Value} (hF : ∀ t, F (.tmp t) = pure (g t)) (rs : List Nat) (w : World) :
    ((rs.map ResultVar.tmp).toArray.mapM F).run P w = .ok (rs.map g).toArray w := by
  have this : ∀ (rs : List Nat) (w : World), ((rs.map ResultVar.tmp).mapM F).run P w = .ok (rs.map g) w := by
    intro rs
    induction rs with
    | nil => intro w; rfl
    | cons t rs ih =>
      intro w
      simp only [List.map_cons, List.mapM_cons, hF, Sem.run_bind, Sem.run_pure, Result.andThen_ok, ih]
  rw [List.mapM_toArray]
  rw [map_eq_pure_bind, Sem.run_bind, this]
  rfl

theorem results_ok {β : Nat → Option Nat} {w : World} {a : Act} {fn : Func} {rs : List Nat} (hr : fn.results = (rs.map ResultVar.tmp).toArray) (h : FR β H w a σ) :
    ∃ v, (results fn a.tmps).run P w = .ok v w ∧ V β H w v (retV σ rs) := by
  unfold results
  rw [hr]
  simp only [Sem.run_bind]
  rw [run_mapTmp (g := fun t => a.tmps.getD t undef) (fun t => rfl) rs w]
  simp only [Result.andThen_ok, Sem.run_pure]
  refine ⟨_, rfl, ?_⟩
  by_cases h1 : rs.length = 1
  · obtain ⟨t, rfl⟩ := List.length_eq_one_iff.mp h1
    simpa [retV] using slot h t
  · have e : retV σ rs = .tup (rs.map fun t => σ.getD t .any) := by
      unfold retV
      split
      · simp at h1
      · rfl
    rw [e, dif_neg (by simpa using h1)]
    refine .tup _ _ (by simp) fun i v p hv hp => ?_
    simp only [List.getElem?_toArray, List.getElem?_map] at hv hp
    cases ht : rs[i]? with
    | none => rw [ht] at hv; cases hv
    | some t =>
      rw [ht] at hv hp
      simp only [Option.map_some, Option.some.injEq] at hv hp
      subst hv; subst hp
      exact slot h t

/-- What a function's body is to show. -/
def Ends (H0 : Heap) (rs : List Nat) (Q : PV → Heap → Prop) (x : AEx) (σ : Env) (H : Heap) : Prop :=
  (match x with
  | .exit _ => False
  | _ => True) ∧ ∃ σ' H', Ghost H0 σ H σ' H' ∧ Q (retV σ' rs) H'

theorem scall_of {f : FuncId} {fn : Func} {c : Code} {rs : List Nat} {args : List PV} {Q : PV → Heap → Prop} (hf : P.funcs[f]? = some fn) (hb : fn.body = some c) (hn : (fn.name == "runtime.NumGoroutine") = false)
    (hr : fn.results = (rs.map ResultVar.tmp).toArray) (hc : codeOk T ord c = true) {nt : Nat} (hnt : fn.ntmps = nt)
    (h : HB H.length H → (∀ p ∈ args, Bdd H.length p) → Runs P T ord H [.code c] (slots nt args) H (Ends H rs Q)) : SCall P f args H Q := by
  subst hnt
  refine ⟨fun vs w => ?_, fun β w vs hI hs hv => calls_of_wp hf hb ?_⟩
  · have hn' : fn.name ≠ "runtime.NumGoroutine" := by simpa using hn
    simp [callFunc, hf, hb, hn']
  · have hbd : ∀ p ∈ args, Bdd H.length p := fun p hp => by
      obtain ⟨i, hi, rfl⟩ := List.getElem_of_mem hp
      exact (hv i (vs[i]'(by omega)) _ (Array.getElem?_eq_getElem _) (List.getElem?_eq_getElem _)).bdd
    have hrun : Run P H [.code c] (slots fn.ntmps args) H (Ends H rs Q) := h hI.hb hbd ⟨fun it hit => by
      simp only [List.mem_singleton] at hit; subst hit; exact hc, by simp⟩
    have hF : FR β H w { tmps := vs ++ Array.replicate (fn.ntmps - vs.size) undef, defers := [] } (slots fn.ntmps args) := by
      refine ⟨by simp [slots, hs], fun t p hp => ?_, rfl⟩
      unfold slots at hp
      rcases Nat.lt_or_ge t args.length with ht | ht
      · rw [List.getElem?_append_left ht] at hp
        have : t < vs.size := by omega
        simp only [Array.getD_eq_getD_getElem?, Array.getElem?_append_left this, Array.getElem?_eq_getElem this, Option.getD_some]
        exact hv t _ _ (Array.getElem?_eq_getElem this) hp
      · rw [List.getElem?_append_right ht] at hp
        have := List.mem_of_getElem? hp
        rw [List.mem_replicate] at this
        rw [this.2]
        exact .any _
    refine wp_mono (hrun β w β w _ hI (Ext.refl ..) hF) fun e a' w' he => ?_
    obtain ⟨x, σ', H', β', hx, h1, h2, h3, h4, σ2, H2, g, hq⟩ := he
    obtain ⟨β2, g1, g2, g3⟩ := g β w β' w' a' h1 h2 h3
    obtain ⟨v, hv1, hv2⟩ := results_ok (P := P) hr g3
    have fin : a'.defers = [] ∧ ∃ v, (results fn a'.tmps).run P w' = .ok v w' ∧ ∃ v' r β' H', Ending.returned v = .returned v' ∧ Inv β' H' w' ∧ Ext β H w β' H' w' ∧ V β' H' w' v' r ∧ Q r H' :=
      ⟨g3.defers, v, hv1, v, _, β2, H2, rfl, g1, g2, hv2, hq⟩
    cases e <;> cases x <;> simp only [exOk] at hx
    · exact fin
    · exact h4.elim
    · exact fin

end

end Go.Proofs.SL
