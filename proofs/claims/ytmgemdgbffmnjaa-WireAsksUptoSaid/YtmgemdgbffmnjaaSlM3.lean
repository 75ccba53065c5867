/-
  SL: the evaluator is sound. No claim by itself.
-/
import Derived.Test.YtmgemdgbffmnjaaSlM2
import Derived.Scope
namespace Go.Proofs.SL
open Go
set_option linter.unusedSimpArgs false
set_option linter.unusedVariables false

/-- The operation's guard, if it has one, is met. -/
def guardYes (all : List Oper) (o : Oper) (σ : Env) : Prop :=
  guardOf all o = none ∨ ∃ t want, guardOf all o = some (some t, want) ∧ σ.getD t .any = .bool want

/-- A guard that is not met: it says otherwise, or what it hangs on was passed by. -/
def guardNo (σ : Env) (t : Nat) (want : Bool) : Prop := σ.getD t .any = .bool (!want) ∨ σ.getD t .any = .tup []

/-- Operations carried out one by one, in the order given. -/
inductive Plan (P : Program) (T : Nat → Option TD) (all : List Oper) (Ψ : Env → Heap → Prop) : List Nat → Env → Heap → Prop
  | done {σ : Env} {H : Heap} (h : Ψ σ H) : Plan P T all Ψ [] σ H
  | pass {i : Nat} {l : List Nat} {σ : Env} {H : Heap} {o : Oper} {t : Nat} {want : Bool} (ho : all[i]? = some o) (hg : guardOf all o = some (some t, want)) (hb : guardNo σ t want)
      (h : Plan P T all Ψ l (upd σ o.dst (.tup [])) H) : Plan P T all Ψ (i :: l) σ H
  | val {i : Nat} {l : List Nat} {σ : Env} {H H' : Heap} {o : Oper} {m : Bool} {v : PV} (ho : all[i]? = some o) (hg : guardYes all o σ) (ha : aop T m (opn σ) H o.op = .val true v H')
      (h : Plan P T all Ψ l (upd σ o.dst v) H') : Plan P T all Ψ (i :: l) σ H
  | br {i : Nat} {l : List Nat} {σ : Env} {H H1 H2 : Heap} {o : Oper} {m c : Bool} {v1 v2 : PV} (ho : all[i]? = some o) (hg : guardYes all o σ) (ha : aop T m (opn σ) H o.op = .br c v1 H1 v2 H2)
      (h1 : c = true → Plan P T all Ψ l (upd σ o.dst v1) H1) (h2 : c = false → Plan P T all Ψ l (upd σ o.dst v2) H2) : Plan P T all Ψ (i :: l) σ H
  | draw {i : Nat} {l : List Nat} {σ : Env} {H : Heap} {o : Oper} {m : Bool} {Q : PV → Heap → Prop} (ho : all[i]? = some o) (hg : guardYes all o σ) (ha : aop T m (opn σ) H o.op = .draw true Q)
      (h : ∀ v H', Q v H' → Plan P T all Ψ l (upd σ o.dst v) H') : Plan P T all Ψ (i :: l) σ H
  | call {i : Nat} {l : List Nat} {σ : Env} {H : Heap} {o : Oper} {m : Bool} {f : Nat} {args : List PV} {K : PV → Heap → Prop} (ho : all[i]? = some o) (hg : guardYes all o σ) (ha : aop T m (opn σ) H o.op = .call f args)
      (hs : SCall P f args H K) (h : ∀ r H', K r H' → Plan P T all Ψ l (upd σ o.dst r) H') : Plan P T all Ψ (i :: l) σ H
  | fork {m n : Nat} {l1 l2 : List Nat} {σ : Env} {H : Heap} (hm : all[m]? = none) (hn : n = l1.length) (h1 : Plan P T all Ψ l1 σ H) (h2 : Plan P T all Ψ l2 σ H) : Plan P T all Ψ (m :: n :: (l1 ++ l2)) σ H

/-- Which operations hang on one, through others too. -/
def depL (ops : Array Oper) (i : Nat) : List Bool := ops.toList.foldl (fun d o => d ++ [o.after.any fun e => Region.binds .any e && (e.on == i || d.getD e.on false)]) []
/-- An operation that may be taken first now. -/
def okNow (T : Nat → Option TD) (ops : Array Oper) (listed : Array Bool) (i : Nat) (oi : Oper) : Bool :=
  (Region.ready .any ops listed).contains i && (if blindOp T oi.op then Region.free .any ops listed i
        else if readsOp T oi.op then Region.free .any ops listed i && ((List.range ops.size).all (fun j => j == i || listed.getD j true || match ops[j]? with
          | some oj => (blindOp T oj.op || readsOp T oj.op) || (depL ops i).getD j false
          | none => true) && (List.range ops.size).all fun j => !(listed.getD j false && (depL ops i).getD j false))
        else (Region.ready .any ops listed) == [i])

/-- An order in which each operation may be taken first. -/
def chk (T : Nat → Option TD) (ops : Array Oper) : Array Bool → List Nat → Bool
  | listed, [] => (Region.ready .any ops listed).isEmpty
  | listed, i :: l => (match ops[i]? with
      | none => false
      | some oi => okNow T ops listed i oi) && chk T ops (listed.setIfInBounds i true) l

/-- So many operations an order has; behind a mark (a number that no operation has) stand how many each of two orders has, and both. -/
def ordLen (ops : Array Oper) : List Nat → Nat
  | [] => 0
  | i :: l => match ops[i]? with
    | none => l.headD 0
    | some _ => ordLen ops l + 1

/-- Two orders, where just two operations may be next. -/
def forkOk (T : Nat → Option TD) (ops : Array Oper) (listed : Array Bool) (l1 l2 : List Nat) : Bool :=
  match l1, l2 with
  | a :: t1, b :: t2 => (t1.length == t2.length) && ((Region.ready .any ops listed == [a, b]) && (chk T ops (listed.setIfInBounds a true) t1 && chk T ops (listed.setIfInBounds b true) t2))
  | _, _ => false

/-- An order with a mark. -/
def chkF (T : Nat → Option TD) (ops : Array Oper) : Array Bool → List Nat → Bool
  | _, [] => false
  | listed, i :: l => match ops[i]? with
    | none => forkOk T ops listed (l.tail.take (l.headD 0)) (l.tail.drop (l.headD 0))
    | some oi => okNow T ops listed i oi && chkF T ops (listed.setIfInBounds i true) l

/-- An order's beginnings: behind marks there are several. -/
def altsN (ops : Array Oper) : Nat → List Nat → List (List Nat)
  | 0, _ => []
  | _ + 1, [] => []
  | n + 1, i :: l => match ops[i]? with
    | none => altsN ops n (l.tail.take (l.headD 0)) ++ altsN ops n (l.tail.drop (l.headD 0))
    | some _ => [i :: l]
/-- An order with marks, wherever they stand: so many operations are to come. -/
def chkN (T : Nat → Option TD) (ops : Array Oper) : Nat → Array Bool → List Nat → Bool
  | 0, listed, l => l.isEmpty && (Region.ready .any ops listed).isEmpty
  | _ + 1, _, [] => false
  | n + 1, listed, i :: l => match ops[i]? with
    | some oi => okNow T ops listed i oi && chkN T ops n (listed.setIfInBounds i true) l
    | none => !(altsN ops (l.length + 1) (i :: l)).isEmpty && ((Region.ready .any ops listed == (altsN ops (l.length + 1) (i :: l)).map (·.headD 0)) && (altsN ops (l.length + 1) (i :: l)).all fun a => chkN T ops n (listed.setIfInBounds (a.headD 0) true) a.tail)

def drawOk (T : Nat → Option TD) (ops : Array Oper) (l : List Nat) : Bool :=
  Region.noSelect ops && ((l.length == ops.size && chk T ops (Array.replicate ops.size false) l) || (ordLen ops l == ops.size && chkF T ops (Array.replicate ops.size false) l) || chkN T ops ops.size (Array.replicate ops.size false) l)

section
variable {P : Program} {T : Nat → Option TD}

theorem guard_yes {n0 : Nat} {all : List Oper} {o : Oper} {σ : Env} {β : Nat → Option Nat} {H : Heap} {w : World} {a : Act} (hF : FR n0 β H w a σ) (h : guardYes all o σ) : Region.wanted o (yielded all.toArray a.tmps) = true := by
  unfold Region.wanted
  unfold guardYes guardOf at h
  cases hg : o.guard with
  | none => rfl
  | some jw =>
    obtain ⟨j, want⟩ := jw
    rw [hg] at h
    simp only at h
    rcases h with h | ⟨t, want', h, hb⟩
    · cases h
    · simp only [Option.some.injEq, Prod.mk.injEq] at h
      obtain ⟨h1, rfl⟩ := h
      simp only [yielded, List.getElem?_toArray, h1, Option.bind_some]
      have hlt : t < σ.length := by
        rcases Nat.lt_or_ge t σ.length with h | h
        · exact h
        · rw [List.getD_eq_getElem?_getD, List.getElem?_eq_none h] at hb; cases hb
      have hv := hF.v t σ[t] (List.getElem?_eq_getElem hlt)
      have hb' : σ[t] = .bool want := by simpa [List.getD_eq_getElem?_getD, hlt] using hb
      rw [hb'] at hv
      have hlt2 : t < a.tmps.size := hF.size ▸ hlt
      have hv2 := hv.bool_inv
      simp only [Array.getD_eq_getD_getElem?, Array.getElem?_eq_getElem hlt2, Option.getD_some] at hv2
      simp [Array.getElem?_eq_getElem hlt2, hv2]

theorem guard_no {n0 : Nat} {all : List Oper} {o : Oper} {σ : Env} {β : Nat → Option Nat} {H : Heap} {w : World} {a : Act} (hF : FR n0 β H w a σ) {t : Nat} {want : Bool} (h : guardOf all o = some (some t, want)) (hb : guardNo σ t want) :
    Region.wanted o (yielded all.toArray a.tmps) = false := by
  unfold Region.wanted
  unfold guardOf at h
  cases hg : o.guard with
  | none => rw [hg] at h; cases h
  | some jw =>
    obtain ⟨j, want'⟩ := jw
    rw [hg] at h
    simp only [Option.some.injEq, Prod.mk.injEq] at h
    obtain ⟨h1, rfl⟩ := h
    simp only [yielded, List.getElem?_toArray, h1, Option.bind_some]
    have hlt : t < σ.length := by
      rcases Nat.lt_or_ge t σ.length with h | h
      · exact h
      · unfold guardNo at hb; rw [List.getD_eq_getElem?_getD, List.getElem?_eq_none h] at hb; rcases hb with hb | hb <;> cases hb
    have hv := hF.v t σ[t] (List.getElem?_eq_getElem hlt)
    have hlt2 : t < a.tmps.size := hF.size ▸ hlt
    have hb' : σ[t] = .bool (!want') ∨ σ[t] = .tup [] := by simpa [guardNo, List.getD_eq_getElem?_getD, hlt] using hb
    rcases hb' with hb' | hb'
    · rw [hb'] at hv
      have hv2 := hv.bool_inv
      simp only [Array.getD_eq_getD_getElem?, Array.getElem?_eq_getElem hlt2, Option.getD_some] at hv2
      simp [Array.getElem?_eq_getElem hlt2, hv2]
    · rw [hb'] at hv
      obtain ⟨vs, hv2, _, _⟩ := hv.tup_inv
      simp only [Array.getD_eq_getD_getElem?, Array.getElem?_eq_getElem hlt2, Option.getD_some] at hv2
      simp [Array.getElem?_eq_getElem hlt2, hv2]

theorem V.skip {β : Nat → Option Nat} {H : Heap} {w : World} : V β H w undef (.tup []) := .tup #[] [] rfl (by simp)

/-- The number of an operation that leaves the heap, by its kind. -/
def qOf (T : Nat → Option TD) (all : List Oper) (j : Nat) : Bool :=
  match all[j]? with
  | some oj => blindOp T oj.op || readsOp T oj.op
  | none => false

theorem depF {i : Nat} : ∀ (l : List Oper) (d : List Bool), (l.foldl (fun d o => d ++ [o.after.any fun e => Region.binds .any e && (e.on == i || d.getD e.on false)]) d).length = d.length + l.length ∧
    (∀ j, j < d.length → (l.foldl (fun d o => d ++ [o.after.any fun e => Region.binds .any e && (e.on == i || d.getD e.on false)]) d)[j]? = d[j]?) ∧
    ∀ j o, l[j]? = some o → (l.foldl (fun d o => d ++ [o.after.any fun e => Region.binds .any e && (e.on == i || d.getD e.on false)]) d)[d.length + j]? = some true →
      ∃ e ∈ o.after, Region.binds .any e = true ∧ (e.on = i ∨ (l.foldl (fun d o => d ++ [o.after.any fun e => Region.binds .any e && (e.on == i || d.getD e.on false)]) d).getD e.on false = true)
  | [], d => ⟨by simp, fun _ _ => rfl, fun j o h => by simp at h⟩
  | o0 :: l, d => by
    obtain ⟨h1, h2, h3⟩ := depF (i := i) l (d ++ [o0.after.any fun e => Region.binds .any e && (e.on == i || d.getD e.on false)])
    simp only [List.foldl_cons]
    refine ⟨by rw [h1]; simp; omega, fun j hj => by rw [h2 j (by simp; omega), List.getElem?_append_left hj], fun j o hj ht => ?_⟩
    cases j with
    | zero =>
      simp only [List.getElem?_cons_zero, Option.some.injEq] at hj
      subst hj
      rw [Nat.add_zero, h2 d.length (by simp)] at ht
      rw [List.getElem?_append_right (Nat.le_refl _), Nat.sub_self] at ht
      simp only [List.getElem?_cons_zero, Option.some.injEq] at ht
      obtain ⟨e, he, hb⟩ := Array.any_eq_true'.1 ht
      simp only [Bool.and_eq_true, Bool.or_eq_true, beq_iff_eq] at hb
      refine ⟨e, he, hb.1, hb.2.imp id fun hg => ?_⟩
      have hlt : e.on < d.length := by
        rcases Nat.lt_or_ge e.on d.length with h | h
        · exact h
        · rw [List.getD_eq_getElem?_getD, List.getElem?_eq_none h] at hg; cases hg
      rw [List.getD_eq_getElem?_getD, h2 e.on (by simp; omega), List.getElem?_append_left hlt, ← List.getD_eq_getElem?_getD]; exact hg
    | succ j =>
      simp only [List.getElem?_cons_succ] at hj
      refine h3 j o hj ?_
      rw [List.length_append, List.length_singleton, show d.length + 1 + j = d.length + (j + 1) by omega]
      exact ht
theorem depL_len {ops : Array Oper} {i : Nat} : (depL ops i).length = ops.size := by
  have := (depF (i := i) ops.toList []).1
  simpa [depL] using this
theorem dep_edge {all : List Oper} {i j : Nat} {oj : Oper} (hj : all[j]? = some oj) (hd : (depL all.toArray i).getD j false = true) : ∃ e ∈ oj.after, Region.binds .any e = true ∧ (e.on = i ∨ (depL all.toArray i).getD e.on false = true) := by
  have h := (depF (i := i) all []).2.2 j oj hj
  simp only [List.length_nil, Nat.zero_add] at h
  refine h ?_
  unfold depL at hd
  rw [List.getD_eq_getElem?_getD] at hd
  cases hx : (List.foldl (fun d o => d ++ [o.after.any fun e => Region.binds .any e && (e.on == i || d.getD e.on false)]) [] all)[j]? with
  | none => simp only [hx] at hd; cases hd
  | some b => simp only [hx] at hd; rw [show b = true from hd]

/-- One operation taken: what it is to be shown. -/
theorem take_one {all : List Oper} {Q : Exit → Act → World → Prop} (hsel : Region.noSelect all.toArray = true) (hQ : ∀ c a w, ¬ Q (.panic c) a w) {i n : Nat} {o : Oper} (ho : all[i]? = some o)
    {listed : Array Bool} {w : World} {a : Act} (hc : okNow T all.toArray listed i o = true)
    (hB : blindOp T o.op = true → ∃ x, (Region.wanted o (yielded all.toArray a.tmps) = true ∧ (∀ w2, (execOp a.eval o).run P w2 = .ok (.value x) w2) ∨ Region.wanted o (yielded all.toArray a.tmps) = false ∧ x = undef) ∧
      wpAnyM P .any all.toArray Q (qOf T all) n (listed.setIfInBounds i true) (a.put o.dst x) w)
    (hR : blindOp T o.op = false → readsOp T o.op = true → ∃ x, (Region.wanted o (yielded all.toArray a.tmps) = true ∧ (∀ w2 : World, w2.heap = w.heap → (execOp a.eval o).run P w2 = .ok (.value x) w2) ∨ Region.wanted o (yielded all.toArray a.tmps) = false ∧ x = undef) ∧
      wpAnyM P .any all.toArray Q (qOf T all) n (listed.setIfInBounds i true) (a.put o.dst x) w)
    (hE : blindOp T o.op = false → readsOp T o.op = false → (Region.wanted o (yielded all.toArray a.tmps) = true ∧ o.wp P a w (wpAnyM P .any all.toArray Q (qOf T all) n (listed.setIfInBounds i true)) Q ∨
      Region.wanted o (yielded all.toArray a.tmps) = false ∧ wpAnyM P .any all.toArray Q (qOf T all) n (listed.setIfInBounds i true) (a.put o.dst undef) w)) :
    wpAnyM P .any all.toArray Q (qOf T all) (n + 1) listed a w := by
  have hi : all.toArray[i]? = some o := by simpa using ho
  unfold okNow at hc
  simp only [Bool.and_eq_true] at hc
  obtain ⟨hr, hcls⟩ := hc
  have hr : i ∈ Region.ready .any all.toArray listed := by simpa using hr
  have hQ' : ∀ (v : Value) c a w, Q (.panic c) (a.put o.dst v) w → Q (.panic c) a w := fun v c a w h => absurd h (hQ _ _ _)
  by_cases hb : blindOp T o.op = true
  · simp only [hb, if_true] at hcls
    obtain ⟨x, hx, hrec⟩ := hB hb
    refine wpAnyM_first (fun _ => True) hi (Region.noSelect_spec hsel) (hQ' x) (fun _ _ _ _ => trivial) n listed a w (fun j oj hj hne hun hno => ⟨Region.free_spec hi hcls j oj hj hne hun hno, .inr fun _ => trivial⟩) hr ?_ trivial hrec
    rcases hx with ⟨h1, h2⟩ | ⟨h1, rfl⟩
    · exact .inl ⟨h1, fun w2 _ => h2 w2⟩
    · exact .inr ⟨h1, rfl⟩
  · have hb' : blindOp T o.op = false := by simpa using hb
    by_cases hrd : readsOp T o.op = true
    · simp only [hb', hrd, Bool.false_eq_true, if_false, if_true, Bool.and_eq_true] at hcls
      obtain ⟨hfree, hall, hdl⟩ := hcls
      obtain ⟨x, hx, hrec⟩ := hR hb' hrd
      refine wpAnyM_firstD (fun w2 => w2.heap = w.heap) (fun j => (depL all.toArray i).getD j false = true) (fun j oj hj hd => dep_edge (by simpa using hj) hd) hi (Region.noSelect_spec hsel) (hQ' x) (fun _ _ h1 h2 => h2.trans h1) n listed a w (fun j oj hj hne hun hno hnd => ⟨Region.free_spec hi hfree j oj hj hne hun hno, .inl ?_⟩) (fun j hd => ?_) hr ?_ rfl hrec
      · have h1 := List.all_eq_true.mp hall j (List.mem_range.mpr (Array.getElem?_eq_some_iff.1 hj).1)
        simp only [hj, Bool.or_eq_true, beq_iff_eq, hne, false_or, hun, Bool.false_eq_true] at h1
        have hj' : all[j]? = some oj := by simpa using hj
        simp only [qOf, hj', Bool.or_eq_true]
        rcases h1 with h1 | h1
        · exact h1
        · exact absurd h1 hnd
      · cases hl : listed.getD j false with
        | false => rfl
        | true =>
          have hjl : j < all.toArray.size := by
            rcases Nat.lt_or_ge j all.toArray.size with h | h
            · exact h
            · have hle : (depL all.toArray i).length ≤ j := by rw [depL_len]; exact h
              rw [List.getD_eq_getElem?_getD, List.getElem?_eq_none hle] at hd; cases hd
          have := List.all_eq_true.mp hdl j (List.mem_range.mpr hjl)
          rw [hl, hd] at this
          cases this
      · rcases hx with ⟨h1, h2⟩ | ⟨h1, rfl⟩
        · exact .inl ⟨h1, h2⟩
        · exact .inr ⟨h1, rfl⟩
    · have hrd' : readsOp T o.op = false := by simpa using hrd
      simp only [hb', hrd', Bool.false_eq_true, if_false] at hcls
      have hready : Region.ready .any all.toArray listed = [i] := by simpa using hcls
      refine wpAnyM_forced hready ?_
      have hq : qOf T all i = false := by simp [qOf, ho, hb', hrd']
      unfold wpOp
      simp only [hi]
      rcases hE hb' hrd' with ⟨hw, h⟩ | ⟨hw, h⟩
      · rw [if_pos hw]
        exact .inl (Oper.wp_mono (fun a' w' h' => ⟨(fun h => by rw [hq] at h; cases h), h'⟩) h)
      · rw [if_neg (by rw [hw]; simp)]
        exact ⟨fun h => (by rw [hq] at h; cases h), h⟩

/-- One operation carried out. -/
theorem take_op {all : List Oper} {Q : Exit → Act → World → Prop} {i n : Nat} {o : Oper} (ho : all[i]? = some o) {listed : Array Bool} {w : World} {a : Act}
    (hB : blindOp T o.op = true → ∃ x, (Region.wanted o (yielded all.toArray a.tmps) = true ∧ (∀ w2, (execOp a.eval o).run P w2 = .ok (.value x) w2) ∨ Region.wanted o (yielded all.toArray a.tmps) = false ∧ x = undef) ∧
      wpAnyM P .any all.toArray Q (qOf T all) n listed (a.put o.dst x) w)
    (hR : blindOp T o.op = false → readsOp T o.op = true → ∃ x, (Region.wanted o (yielded all.toArray a.tmps) = true ∧ (∀ w2 : World, w2.heap = w.heap → (execOp a.eval o).run P w2 = .ok (.value x) w2) ∨ Region.wanted o (yielded all.toArray a.tmps) = false ∧ x = undef) ∧
      wpAnyM P .any all.toArray Q (qOf T all) n listed (a.put o.dst x) w)
    (hE : blindOp T o.op = false → readsOp T o.op = false → (Region.wanted o (yielded all.toArray a.tmps) = true ∧ o.wp P a w (wpAnyM P .any all.toArray Q (qOf T all) n listed) Q ∨
      Region.wanted o (yielded all.toArray a.tmps) = false ∧ wpAnyM P .any all.toArray Q (qOf T all) n listed (a.put o.dst undef) w)) :
    wpOp P all.toArray Q i (fun a' w' => (qOf T all i = true → w'.heap = w.heap) ∧ wpAnyM P .any all.toArray Q (qOf T all) n listed a' w') a w := by
  have hi : all.toArray[i]? = some o := by simpa using ho
  by_cases hb : blindOp T o.op = true
  · obtain ⟨x, hx, hrec⟩ := hB hb
    have hy : YieldsIf P all.toArray (fun _ => True) o x a := by
      rcases hx with ⟨h1, h2⟩ | ⟨h1, rfl⟩
      · exact .inl ⟨h1, fun w2 _ => h2 w2⟩
      · exact .inr ⟨h1, rfl⟩
    exact hy.wpOp hi trivial ⟨fun _ => rfl, hrec⟩
  · have hb' : blindOp T o.op = false := by simpa using hb
    by_cases hrd : readsOp T o.op = true
    · obtain ⟨x, hx, hrec⟩ := hR hb' hrd
      have hy : YieldsIf P all.toArray (fun w2 => w2.heap = w.heap) o x a := by
        rcases hx with ⟨h1, h2⟩ | ⟨h1, rfl⟩
        · exact .inl ⟨h1, h2⟩
        · exact .inr ⟨h1, rfl⟩
      exact hy.wpOp hi rfl ⟨fun _ => rfl, hrec⟩
    · have hrd' : readsOp T o.op = false := by simpa using hrd
      have hq : qOf T all i = false := by simp [qOf, ho, hb', hrd']
      unfold wpOp
      simp only [hi]
      rcases hE hb' hrd' with ⟨hw, h⟩ | ⟨hw, h⟩
      · rw [if_pos hw]
        exact .inl (Oper.wp_mono (fun a' w' h' => ⟨(fun h => by rw [hq] at h; cases h), h'⟩) h)
      · rw [if_neg (by rw [hw]; simp)]
        exact ⟨fun h => (by rw [hq] at h; cases h), h⟩

theorem chk_head {ops : Array Oper} {listed : Array Bool} {i : Nat} {l : List Nat} {o : Oper} (ho : ops[i]? = some o) (h : chk T ops listed (i :: l) = true) : okNow T ops listed i o = true := by
  unfold chk at h
  simp only [ho, Bool.and_eq_true] at h
  exact h.1

theorem chk_tail {ops : Array Oper} {listed : Array Bool} {i : Nat} {l : List Nat} (h : chk T ops listed (i :: l) = true) : chk T ops (listed.setIfInBounds i true) l = true := by
  unfold chk at h
  simp only [Bool.and_eq_true] at h
  exact h.2

theorem plan_any (hT : TOk P T) {all : List Oper} {Ψ : Env → Heap → Prop} {Q : Exit → Act → World → Prop} (hsel : Region.noSelect all.toArray = true) (hQ : ∀ c a w, ¬ Q (.panic c) a w)
    {β0 : Nat → Option Nat} {H0 : Heap} {w0 : World} (hend : ∀ σ H β w a, Ψ σ H → Inv β H w → Ext β0 H0 w0 β H w → FR w0.heap.size β H w a σ → Q .normal a w) :
    ∀ {l : List Nat} {σ : Env} {H : Heap}, Plan P T all Ψ l σ H → ∀ (listed : Array Bool) (β : Nat → Option Nat) (w : World) (a : Act), chk T all.toArray listed l = true → Inv β H w → Ext β0 H0 w0 β H w → FR w0.heap.size β H w a σ →
      wpAnyM P .any all.toArray Q (qOf T all) l.length listed a w := by
  intro l σ H hp
  induction hp with
  | done h =>
    intro listed β w a hc hI hE hF
    unfold chk at hc
    have hr : Region.ready .any all.toArray listed = [] := by simpa using hc
    exact ⟨hr, hend _ _ _ _ _ h hI hE hF⟩
  | @pass i l σ H o t want ho hg hb h ih =>
    intro listed β w a hc hI hE hF
    have hw := guard_no hF hg hb
    have hrec := ih (listed.setIfInBounds i true) β w (a.put o.dst undef) (chk_tail hc) hI hE (hF.put o.dst V.skip)
    exact take_one hsel hQ ho (chk_head (by simpa using ho) hc) (fun _ => ⟨undef, .inr ⟨hw, rfl⟩, hrec⟩) (fun _ _ => ⟨undef, .inr ⟨hw, rfl⟩, hrec⟩) (fun _ _ => .inr ⟨hw, hrec⟩)
  | @val i l σ H H' o m v ho hg ha h ih =>
    intro listed β w a hc hI hE hF
    have hw := guard_yes hF hg
    refine take_one hsel hQ ho (chk_head (by simpa using ho) hc) (fun hb => ?_) (fun hb hr => ?_) fun hb hr => .inl ⟨hw, ?_⟩
    · obtain ⟨⟨c, v'⟩, hp⟩ := blind_pure hb (opn σ)
      unfold aop at ha
      rw [hp] at ha
      simp only [R.val.injEq] at ha
      obtain ⟨rfl, rfl, rfl⟩ := ha
      obtain ⟨x, hx, hv⟩ := pure_ok hT hF.opn hp rfl
      exact ⟨x, .inl ⟨hw, hx⟩, ih _ β w _ (chk_tail hc) hI hE (hF.put o.dst hv)⟩
    · obtain ⟨hp, ⟨c, v'⟩, hrd⟩ := reads_read hr (opn σ) H
      unfold aop at ha
      rw [hp, hrd] at ha
      simp only [R.val.injEq] at ha
      obtain ⟨rfl, rfl, rfl⟩ := ha
      obtain ⟨x, hx, hv⟩ := read_ok hT hI hF.opn hrd rfl
      exact ⟨x, .inl ⟨hw, hx⟩, ih _ β w _ (chk_tail hc) hI hE (hF.put o.dst hv)⟩
    · exact op_step (aop_ok hT hI hF ha rfl) fun x w' β' h1 h2 h3 => ih _ β' w' _ (chk_tail hc) h1 (hE.trans h2) ((hF.mono h2).put o.dst h3)
  | @br i l σ H H1 H2 o m c v1 v2 ho hg ha h1 h2 ih1 ih2 =>
    intro listed β w a hc hI hE hF
    have hw := guard_yes hF hg
    refine take_one hsel hQ ho (chk_head (by simpa using ho) hc) (fun hb => ?_) (fun hb hr => ?_) fun hb hr => .inl ⟨hw, ?_⟩
    · obtain ⟨r, hp⟩ := blind_pure hb (opn σ)
      unfold aop at ha
      rw [hp] at ha
      cases ha
    · obtain ⟨hp, r, hrd⟩ := reads_read hr (opn σ) H
      unfold aop at ha
      rw [hp, hrd] at ha
      cases ha
    · obtain ⟨hy1, hy2⟩ := aop_br (P := P) hT hI hF ha
      cases c with
      | true => exact op_step (hy1 rfl) fun x w' β' h1' h2' h3' => ih1 rfl _ β' w' _ (chk_tail hc) h1' (hE.trans h2') ((hF.mono h2').put o.dst h3')
      | false => exact op_step (hy2 rfl) fun x w' β' h1' h2' h3' => ih2 rfl _ β' w' _ (chk_tail hc) h1' (hE.trans h2') ((hF.mono h2').put o.dst h3')
  | @draw i l σ H o m Q ho hg ha h ih =>
    intro listed β w a hc hI hE hF
    have hw := guard_yes hF hg
    refine take_one hsel hQ ho (chk_head (by simpa using ho) hc) (fun hb => ?_) (fun hb hr => ?_) fun hb hr => .inl ⟨hw, ?_⟩
    · obtain ⟨r, hp⟩ := blind_pure hb (opn σ)
      unfold aop at ha
      rw [hp] at ha
      cases ha
    · obtain ⟨hp, r, hrd⟩ := reads_read hr (opn σ) H
      unfold aop at ha
      rw [hp, hrd] at ha
      cases ha
    · obtain ⟨v, H', hq, hy⟩ := aop_draw (P := P) hI hF ha rfl
      exact op_step hy fun x w' β' h1' h2' h3' => ih v H' hq _ β' w' _ (chk_tail hc) h1' (hE.trans h2') ((hF.mono h2').put o.dst h3')
  | @call i l σ H o m f args K ho hg ha hs h ih =>
    intro listed β w a hc hI hE hF
    have hw := guard_yes hF hg
    refine take_one hsel hQ ho (chk_head (by simpa using ho) hc) (fun hb => ?_) (fun hb hr => ?_) fun hb hr => .inl ⟨hw, ?_⟩
    · obtain ⟨r, hp⟩ := blind_pure hb (opn σ)
      unfold aop at ha
      rw [hp] at ha
      cases ha
    · obtain ⟨hp, r, hrd⟩ := reads_read hr (opn σ) H
      unfold aop at ha
      rw [hp, hrd] at ha
      cases ha
    · exact aop_call hI hF ha hs fun v r w' β' H' h1 h2 h3 hK => ih r H' hK _ β' w' _ (chk_tail hc) h1 (hE.trans h2) ((hF.mono h2).put o.dst h3)
  | fork hm hn h1 h2 ih1 ih2 =>
    intro listed β w a hc hI hE hF
    unfold chk at hc
    simp only [List.getElem?_toArray, hm, Bool.and_false, Bool.false_and, Bool.false_eq_true] at hc

theorem plan_op (hT : TOk P T) {all : List Oper} {Ψ : Env → Heap → Prop} {Q : Exit → Act → World → Prop} (hsel : Region.noSelect all.toArray = true) (hQ : ∀ c a w, ¬ Q (.panic c) a w)
    {β0 : Nat → Option Nat} {H0 : Heap} {w0 : World} (hend : ∀ σ H β w a, Ψ σ H → Inv β H w → Ext β0 H0 w0 β H w → FR w0.heap.size β H w a σ → Q .normal a w)
    {i : Nat} {l : List Nat} {σ : Env} {H : Heap} {o0 : Oper} (h0 : all[i]? = some o0) (hp : Plan P T all Ψ (i :: l) σ H) {listed : Array Bool} {β : Nat → Option Nat} {w : World} {a : Act} (hc : chk T all.toArray listed l = true) (hI : Inv β H w) (hE : Ext β0 H0 w0 β H w) (hF : FR w0.heap.size β H w a σ) :
    wpOp P all.toArray Q i (fun a' w' => (qOf T all i = true → w'.heap = w.heap) ∧ wpAnyM P .any all.toArray Q (qOf T all) l.length listed a' w') a w := by
  cases hp with
  | @pass _ _ _ _ o t want ho hg hb h =>
    have hw := guard_no hF hg hb
    have hrec := plan_any hT hsel hQ hend h listed β w (a.put o.dst undef) hc hI hE (hF.put o.dst V.skip)
    exact take_op ho (fun _ => ⟨undef, .inr ⟨hw, rfl⟩, hrec⟩) (fun _ _ => ⟨undef, .inr ⟨hw, rfl⟩, hrec⟩) (fun _ _ => .inr ⟨hw, hrec⟩)
  | @val _ _ _ _ H' o m v ho hg ha h =>
    have hw := guard_yes hF hg
    refine take_op ho (fun hb => ?_) (fun hb hr => ?_) fun hb hr => .inl ⟨hw, ?_⟩
    · obtain ⟨⟨c, v'⟩, hp⟩ := blind_pure hb (opn σ)
      unfold aop at ha
      rw [hp] at ha
      simp only [R.val.injEq] at ha
      obtain ⟨rfl, rfl, rfl⟩ := ha
      obtain ⟨x, hx, hv⟩ := pure_ok hT hF.opn hp rfl
      exact ⟨x, .inl ⟨hw, hx⟩, plan_any hT hsel hQ hend h _ β w _ hc hI hE (hF.put o.dst hv)⟩
    · obtain ⟨hp, ⟨c, v'⟩, hrd⟩ := reads_read hr (opn σ) H
      unfold aop at ha
      rw [hp, hrd] at ha
      simp only [R.val.injEq] at ha
      obtain ⟨rfl, rfl, rfl⟩ := ha
      obtain ⟨x, hx, hv⟩ := read_ok hT hI hF.opn hrd rfl
      exact ⟨x, .inl ⟨hw, hx⟩, plan_any hT hsel hQ hend h _ β w _ hc hI hE (hF.put o.dst hv)⟩
    · exact op_step (aop_ok hT hI hF ha rfl) fun x w' β' h1 h2 h3 => plan_any hT hsel hQ hend h _ β' w' _ hc h1 (hE.trans h2) ((hF.mono h2).put o.dst h3)
  | @br _ _ _ _ H1 H2 o m c v1 v2 ho hg ha h1 h2 =>
    have hw := guard_yes hF hg
    refine take_op ho (fun hb => ?_) (fun hb hr => ?_) fun hb hr => .inl ⟨hw, ?_⟩
    · obtain ⟨r, hp⟩ := blind_pure hb (opn σ)
      unfold aop at ha
      rw [hp] at ha
      cases ha
    · obtain ⟨hp, r, hrd⟩ := reads_read hr (opn σ) H
      unfold aop at ha
      rw [hp, hrd] at ha
      cases ha
    · obtain ⟨hy1, hy2⟩ := aop_br (P := P) hT hI hF ha
      cases c with
      | true => exact op_step (hy1 rfl) fun x w' β' h1' h2' h3' => plan_any hT hsel hQ hend (h1 rfl) _ β' w' _ hc h1' (hE.trans h2') ((hF.mono h2').put o.dst h3')
      | false => exact op_step (hy2 rfl) fun x w' β' h1' h2' h3' => plan_any hT hsel hQ hend (h2 rfl) _ β' w' _ hc h1' (hE.trans h2') ((hF.mono h2').put o.dst h3')
  | @draw _ _ _ _ o m Q ho hg ha h =>
    have hw := guard_yes hF hg
    refine take_op ho (fun hb => ?_) (fun hb hr => ?_) fun hb hr => .inl ⟨hw, ?_⟩
    · obtain ⟨r, hp⟩ := blind_pure hb (opn σ)
      unfold aop at ha
      rw [hp] at ha
      cases ha
    · obtain ⟨hp, r, hrd⟩ := reads_read hr (opn σ) H
      unfold aop at ha
      rw [hp, hrd] at ha
      cases ha
    · obtain ⟨v, H', hq, hy⟩ := aop_draw (P := P) hI hF ha rfl
      exact op_step hy fun x w' β' h1' h2' h3' => plan_any hT hsel hQ hend (h v H' hq) _ β' w' _ hc h1' (hE.trans h2') ((hF.mono h2').put o.dst h3')
  | @call _ _ _ _ o m f args K ho hg ha hs h =>
    have hw := guard_yes hF hg
    refine take_op ho (fun hb => ?_) (fun hb hr => ?_) fun hb hr => .inl ⟨hw, ?_⟩
    · obtain ⟨r, hp⟩ := blind_pure hb (opn σ)
      unfold aop at ha
      rw [hp] at ha
      cases ha
    · obtain ⟨hp, r, hrd⟩ := reads_read hr (opn σ) H
      unfold aop at ha
      rw [hp, hrd] at ha
      cases ha
    · exact aop_call hI hF ha hs fun v r w' β' H' h1 h2 h3 hK => plan_any hT hsel hQ hend (h r H' hK) _ β' w' _ hc h1 (hE.trans h2) ((hF.mono h2).put o.dst h3)
  | fork hm hn h1 h2 => rw [hm] at h0; cases h0

theorem plan_opN (hT : TOk P T) {all : List Oper} {Ψ : Env → Heap → Prop} {Q : Exit → Act → World → Prop} (hsel : Region.noSelect all.toArray = true) (hQ : ∀ c a w, ¬ Q (.panic c) a w)
    {β0 : Nat → Option Nat} {H0 : Heap} {w0 : World} (hend : ∀ σ H β w a, Ψ σ H → Inv β H w → Ext β0 H0 w0 β H w → FR w0.heap.size β H w a σ → Q .normal a w)
    {i n : Nat} {l : List Nat} {σ : Env} {H : Heap} {o0 : Oper} (h0 : all[i]? = some o0) (hp : Plan P T all Ψ (i :: l) σ H) {listed : Array Bool} {β : Nat → Option Nat} {w : World} {a : Act} (rec : ∀ (σ : Env) (H : Heap) (β : Nat → Option Nat) (w : World) (a : Act), Plan P T all Ψ l σ H → Inv β H w → Ext β0 H0 w0 β H w → FR w0.heap.size β H w a σ → wpAnyM P .any all.toArray Q (qOf T all) n listed a w) (hI : Inv β H w) (hE : Ext β0 H0 w0 β H w) (hF : FR w0.heap.size β H w a σ) :
    wpOp P all.toArray Q i (fun a' w' => (qOf T all i = true → w'.heap = w.heap) ∧ wpAnyM P .any all.toArray Q (qOf T all) n listed a' w') a w := by
  cases hp with
  | @pass _ _ _ _ o t want ho hg hb h =>
    have hw := guard_no hF hg hb
    have hrec := rec _ _ β w _ h hI hE (hF.put o.dst V.skip)
    exact take_op ho (fun _ => ⟨undef, .inr ⟨hw, rfl⟩, hrec⟩) (fun _ _ => ⟨undef, .inr ⟨hw, rfl⟩, hrec⟩) (fun _ _ => .inr ⟨hw, hrec⟩)
  | @val _ _ _ _ H' o m v ho hg ha h =>
    have hw := guard_yes hF hg
    refine take_op ho (fun hb => ?_) (fun hb hr => ?_) fun hb hr => .inl ⟨hw, ?_⟩
    · obtain ⟨⟨c, v'⟩, hp⟩ := blind_pure hb (opn σ)
      unfold aop at ha
      rw [hp] at ha
      simp only [R.val.injEq] at ha
      obtain ⟨rfl, rfl, rfl⟩ := ha
      obtain ⟨x, hx, hv⟩ := pure_ok hT hF.opn hp rfl
      exact ⟨x, .inl ⟨hw, hx⟩, rec _ _ β w _ h hI hE (hF.put o.dst hv)⟩
    · obtain ⟨hp, ⟨c, v'⟩, hrd⟩ := reads_read hr (opn σ) H
      unfold aop at ha
      rw [hp, hrd] at ha
      simp only [R.val.injEq] at ha
      obtain ⟨rfl, rfl, rfl⟩ := ha
      obtain ⟨x, hx, hv⟩ := read_ok hT hI hF.opn hrd rfl
      exact ⟨x, .inl ⟨hw, hx⟩, rec _ _ β w _ h hI hE (hF.put o.dst hv)⟩
    · exact op_step (aop_ok hT hI hF ha rfl) fun x w' β' h1 h2 h3 => rec _ _ β' w' _ h h1 (hE.trans h2) ((hF.mono h2).put o.dst h3)
  | @br _ _ _ _ H1 H2 o m c v1 v2 ho hg ha h1 h2 =>
    have hw := guard_yes hF hg
    refine take_op ho (fun hb => ?_) (fun hb hr => ?_) fun hb hr => .inl ⟨hw, ?_⟩
    · obtain ⟨r, hp⟩ := blind_pure hb (opn σ)
      unfold aop at ha
      rw [hp] at ha
      cases ha
    · obtain ⟨hp, r, hrd⟩ := reads_read hr (opn σ) H
      unfold aop at ha
      rw [hp, hrd] at ha
      cases ha
    · obtain ⟨hy1, hy2⟩ := aop_br (P := P) hT hI hF ha
      cases c with
      | true => exact op_step (hy1 rfl) fun x w' β' h1' h2' h3' => rec _ _ β' w' _ (h1 rfl) h1' (hE.trans h2') ((hF.mono h2').put o.dst h3')
      | false => exact op_step (hy2 rfl) fun x w' β' h1' h2' h3' => rec _ _ β' w' _ (h2 rfl) h1' (hE.trans h2') ((hF.mono h2').put o.dst h3')
  | @draw _ _ _ _ o m Q ho hg ha h =>
    have hw := guard_yes hF hg
    refine take_op ho (fun hb => ?_) (fun hb hr => ?_) fun hb hr => .inl ⟨hw, ?_⟩
    · obtain ⟨r, hp⟩ := blind_pure hb (opn σ)
      unfold aop at ha
      rw [hp] at ha
      cases ha
    · obtain ⟨hp, r, hrd⟩ := reads_read hr (opn σ) H
      unfold aop at ha
      rw [hp, hrd] at ha
      cases ha
    · obtain ⟨v, H', hq, hy⟩ := aop_draw (P := P) hI hF ha rfl
      exact op_step hy fun x w' β' h1' h2' h3' => rec _ _ β' w' _ (h v H' hq) h1' (hE.trans h2') ((hF.mono h2').put o.dst h3')
  | @call _ _ _ _ o m f args K ho hg ha hs h =>
    have hw := guard_yes hF hg
    refine take_op ho (fun hb => ?_) (fun hb hr => ?_) fun hb hr => .inl ⟨hw, ?_⟩
    · obtain ⟨r, hp⟩ := blind_pure hb (opn σ)
      unfold aop at ha
      rw [hp] at ha
      cases ha
    · obtain ⟨hp, r, hrd⟩ := reads_read hr (opn σ) H
      unfold aop at ha
      rw [hp, hrd] at ha
      cases ha
    · exact aop_call hI hF ha hs fun v r w' β' H' h1 h2 h3 hK => rec _ _ β' w' _ (h r H' hK) h1 (hE.trans h2) ((hF.mono h2).put o.dst h3)
  | fork hm hn h1 h2 => rw [hm] at h0; cases h0

theorem plan_firstN (hT : TOk P T) {all : List Oper} {Ψ : Env → Heap → Prop} {Q : Exit → Act → World → Prop} (hsel : Region.noSelect all.toArray = true) (hQ : ∀ c a w, ¬ Q (.panic c) a w)
    {β0 : Nat → Option Nat} {H0 : Heap} {w0 : World} (hend : ∀ σ H β w a, Ψ σ H → Inv β H w → Ext β0 H0 w0 β H w → FR w0.heap.size β H w a σ → Q .normal a w)
    {i n : Nat} {l : List Nat} {σ : Env} {H : Heap} {o0 : Oper} (h0 : all[i]? = some o0) (hp : Plan P T all Ψ (i :: l) σ H) {listed : Array Bool} {β : Nat → Option Nat} {w : World} {a : Act} (hok : okNow T all.toArray listed i o0 = true) (rec : ∀ (σ : Env) (H : Heap) (β : Nat → Option Nat) (w : World) (a : Act), Plan P T all Ψ l σ H → Inv β H w → Ext β0 H0 w0 β H w → FR w0.heap.size β H w a σ → wpAnyM P .any all.toArray Q (qOf T all) n (listed.setIfInBounds i true) a w) (hI : Inv β H w) (hE : Ext β0 H0 w0 β H w) (hF : FR w0.heap.size β H w a σ) :
    wpAnyM P .any all.toArray Q (qOf T all) (n + 1) listed a w := by
  cases hp with
  | @pass _ _ _ _ o t want ho hg hb h =>
    have hw := guard_no hF hg hb
    have hrec := rec _ _ β w _ h hI hE (hF.put o.dst V.skip)
    exact take_one hsel hQ ho (by rw [h0] at ho; cases ho; exact hok) (fun _ => ⟨undef, .inr ⟨hw, rfl⟩, hrec⟩) (fun _ _ => ⟨undef, .inr ⟨hw, rfl⟩, hrec⟩) (fun _ _ => .inr ⟨hw, hrec⟩)
  | @val _ _ _ _ H' o m v ho hg ha h =>
    have hw := guard_yes hF hg
    refine take_one hsel hQ ho (by rw [h0] at ho; cases ho; exact hok) (fun hb => ?_) (fun hb hr => ?_) fun hb hr => .inl ⟨hw, ?_⟩
    · obtain ⟨⟨c, v'⟩, hp⟩ := blind_pure hb (opn σ)
      unfold aop at ha
      rw [hp] at ha
      simp only [R.val.injEq] at ha
      obtain ⟨rfl, rfl, rfl⟩ := ha
      obtain ⟨x, hx, hv⟩ := pure_ok hT hF.opn hp rfl
      exact ⟨x, .inl ⟨hw, hx⟩, rec _ _ β w _ h hI hE (hF.put o.dst hv)⟩
    · obtain ⟨hp, ⟨c, v'⟩, hrd⟩ := reads_read hr (opn σ) H
      unfold aop at ha
      rw [hp, hrd] at ha
      simp only [R.val.injEq] at ha
      obtain ⟨rfl, rfl, rfl⟩ := ha
      obtain ⟨x, hx, hv⟩ := read_ok hT hI hF.opn hrd rfl
      exact ⟨x, .inl ⟨hw, hx⟩, rec _ _ β w _ h hI hE (hF.put o.dst hv)⟩
    · exact op_step (aop_ok hT hI hF ha rfl) fun x w' β' h1 h2 h3 => rec _ _ β' w' _ h h1 (hE.trans h2) ((hF.mono h2).put o.dst h3)
  | @br _ _ _ _ H1 H2 o m c v1 v2 ho hg ha h1 h2 =>
    have hw := guard_yes hF hg
    refine take_one hsel hQ ho (by rw [h0] at ho; cases ho; exact hok) (fun hb => ?_) (fun hb hr => ?_) fun hb hr => .inl ⟨hw, ?_⟩
    · obtain ⟨r, hp⟩ := blind_pure hb (opn σ)
      unfold aop at ha
      rw [hp] at ha
      cases ha
    · obtain ⟨hp, r, hrd⟩ := reads_read hr (opn σ) H
      unfold aop at ha
      rw [hp, hrd] at ha
      cases ha
    · obtain ⟨hy1, hy2⟩ := aop_br (P := P) hT hI hF ha
      cases c with
      | true => exact op_step (hy1 rfl) fun x w' β' h1' h2' h3' => rec _ _ β' w' _ (h1 rfl) h1' (hE.trans h2') ((hF.mono h2').put o.dst h3')
      | false => exact op_step (hy2 rfl) fun x w' β' h1' h2' h3' => rec _ _ β' w' _ (h2 rfl) h1' (hE.trans h2') ((hF.mono h2').put o.dst h3')
  | @draw _ _ _ _ o m Q ho hg ha h =>
    have hw := guard_yes hF hg
    refine take_one hsel hQ ho (by rw [h0] at ho; cases ho; exact hok) (fun hb => ?_) (fun hb hr => ?_) fun hb hr => .inl ⟨hw, ?_⟩
    · obtain ⟨r, hp⟩ := blind_pure hb (opn σ)
      unfold aop at ha
      rw [hp] at ha
      cases ha
    · obtain ⟨hp, r, hrd⟩ := reads_read hr (opn σ) H
      unfold aop at ha
      rw [hp, hrd] at ha
      cases ha
    · obtain ⟨v, H', hq, hy⟩ := aop_draw (P := P) hI hF ha rfl
      exact op_step hy fun x w' β' h1' h2' h3' => rec _ _ β' w' _ (h v H' hq) h1' (hE.trans h2') ((hF.mono h2').put o.dst h3')
  | @call _ _ _ _ o m f args K ho hg ha hs h =>
    have hw := guard_yes hF hg
    refine take_one hsel hQ ho (by rw [h0] at ho; cases ho; exact hok) (fun hb => ?_) (fun hb hr => ?_) fun hb hr => .inl ⟨hw, ?_⟩
    · obtain ⟨r, hp⟩ := blind_pure hb (opn σ)
      unfold aop at ha
      rw [hp] at ha
      cases ha
    · obtain ⟨hp, r, hrd⟩ := reads_read hr (opn σ) H
      unfold aop at ha
      rw [hp, hrd] at ha
      cases ha
    · exact aop_call hI hF ha hs fun v r w' β' H' h1 h2 h3 hK => rec _ _ β' w' _ (h r H' hK) h1 (hE.trans h2) ((hF.mono h2).put o.dst h3)
  | fork hm hn h1 h2 => rw [hm] at h0; cases h0

theorem plan_alts {all : List Oper} {Ψ : Env → Heap → Prop} : ∀ (k : Nat) {l : List Nat} {σ : Env} {H : Heap}, Plan P T all Ψ l σ H → ∀ a ∈ altsN all.toArray k l, ∃ x t o, a = x :: t ∧ all[x]? = some o ∧ Plan P T all Ψ a σ H
  | 0, _, _, _, _, a, ha => by cases ha
  | k + 1, [], _, _, _, a, ha => by cases ha
  | k + 1, i :: l, σ, H, hp, a, ha => by
    unfold altsN at ha
    cases ho : all[i]? with
    | some o =>
      simp only [List.getElem?_toArray, ho, List.mem_singleton] at ha
      subst ha
      exact ⟨i, l, o, rfl, ho, hp⟩
    | none =>
      simp only [List.getElem?_toArray, ho, List.mem_append] at ha
      cases hp with
      | pass h => rw [ho] at h; cases h
      | val h => rw [ho] at h; cases h
      | br h => rw [ho] at h; cases h
      | draw h => rw [ho] at h; cases h
      | call h => rw [ho] at h; cases h
      | fork hm hn h1 h2 =>
        simp only [List.headD_cons, List.tail_cons, hn, List.take_left, List.drop_left] at ha
        rcases ha with ha | ha
        · exact plan_alts k h1 a ha
        · exact plan_alts k h2 a ha

theorem plan_anyN (hT : TOk P T) {all : List Oper} {Ψ : Env → Heap → Prop} {Q : Exit → Act → World → Prop} (hsel : Region.noSelect all.toArray = true) (hQ : ∀ c a w, ¬ Q (.panic c) a w)
    {β0 : Nat → Option Nat} {H0 : Heap} {w0 : World} (hend : ∀ σ H β w a, Ψ σ H → Inv β H w → Ext β0 H0 w0 β H w → FR w0.heap.size β H w a σ → Q .normal a w) :
    ∀ (n : Nat) {l : List Nat} {σ : Env} {H : Heap}, Plan P T all Ψ l σ H → ∀ (listed : Array Bool) (β : Nat → Option Nat) (w : World) (a : Act), chkN T all.toArray n listed l = true → Inv β H w → Ext β0 H0 w0 β H w → FR w0.heap.size β H w a σ →
      wpAnyM P .any all.toArray Q (qOf T all) n listed a w
  | 0, l, σ, H, hp, listed, β, w, a, hc, hI, hE, hF => by
    simp only [chkN, Bool.and_eq_true, List.isEmpty_iff] at hc
    obtain ⟨rfl, hr⟩ := hc
    cases hp with
    | done h => exact ⟨hr, hend _ _ _ _ _ h hI hE hF⟩
  | n + 1, [], σ, H, hp, listed, β, w, a, hc, hI, hE, hF => by simp [chkN] at hc
  | n + 1, i :: l, σ, H, hp, listed, β, w, a, hc, hI, hE, hF => by
    unfold chkN at hc
    cases ho : all[i]? with
    | some o =>
      simp only [List.getElem?_toArray, ho, Bool.and_eq_true] at hc
      exact plan_firstN hT hsel hQ hend ho hp hc.1 (fun σ H β w a h1 h2 h3 h4 => plan_anyN hT hsel hQ hend n h1 _ β w a hc.2 h2 h3 h4) hI hE hF
    | none =>
      simp only [List.getElem?_toArray, ho, Bool.and_eq_true, Bool.not_eq_true', beq_iff_eq, List.all_eq_true] at hc
      obtain ⟨hne, hready, hall⟩ := hc
      refine ⟨fun h => ?_, fun j hj => ?_⟩
      · rw [h] at hready
        rw [List.map_eq_nil_iff.mp hready.symm] at hne
        cases hne
      · rw [hready] at hj
        obtain ⟨b, hb, rfl⟩ := List.mem_map.mp hj
        obtain ⟨x, t, o, rfl, hx, hpx⟩ := plan_alts _ hp b hb
        have hcx := hall _ hb
        exact plan_opN hT hsel hQ hend hx hpx (fun σ H β w a h1 h2 h3 h4 => plan_anyN hT hsel hQ hend n h1 _ β w a hcx h2 h3 h4) hI hE hF

theorem chkF_cons {ops : List Oper} {listed : Array Bool} {i : Nat} {l : List Nat} {o : Oper} (ho : ops[i]? = some o) (h : chkF T ops.toArray listed (i :: l) = true) : okNow T ops.toArray listed i o = true ∧ chkF T ops.toArray (listed.setIfInBounds i true) l = true := by
  have ho' : ops.toArray[i]? = some o := by simpa using ho
  unfold chkF at h
  simp only [ho', Bool.and_eq_true] at h
  exact h
theorem ordLen_cons {ops : List Oper} {i : Nat} {l : List Nat} {o : Oper} (ho : ops[i]? = some o) : ordLen ops.toArray (i :: l) = ordLen ops.toArray l + 1 := by
  have ho' : ops.toArray[i]? = some o := by simpa using ho
  rw [ordLen]
  simp only [ho']

theorem plan_anyF (hT : TOk P T) {all : List Oper} {Ψ : Env → Heap → Prop} {Q : Exit → Act → World → Prop} (hsel : Region.noSelect all.toArray = true) (hQ : ∀ c a w, ¬ Q (.panic c) a w)
    {β0 : Nat → Option Nat} {H0 : Heap} {w0 : World} (hend : ∀ σ H β w a, Ψ σ H → Inv β H w → Ext β0 H0 w0 β H w → FR w0.heap.size β H w a σ → Q .normal a w) :
    ∀ {l : List Nat} {σ : Env} {H : Heap}, Plan P T all Ψ l σ H → ∀ (listed : Array Bool) (β : Nat → Option Nat) (w : World) (a : Act), chkF T all.toArray listed l = true → Inv β H w → Ext β0 H0 w0 β H w → FR w0.heap.size β H w a σ →
      wpAnyM P .any all.toArray Q (qOf T all) (ordLen all.toArray l) listed a w := by
  intro l σ H hp
  induction hp with
  | done h =>
    intro listed β w a hc hI hE hF
    simp [chkF] at hc
  | @pass i l σ H o t want ho hg hb h ih =>
    intro listed β w a hc hI hE hF
    obtain ⟨hc1, hc2⟩ := chkF_cons ho hc
    rw [ordLen_cons ho]
    have hw := guard_no hF hg hb
    have hrec := ih (listed.setIfInBounds i true) β w (a.put o.dst undef) hc2 hI hE (hF.put o.dst V.skip)
    exact take_one hsel hQ ho hc1 (fun _ => ⟨undef, .inr ⟨hw, rfl⟩, hrec⟩) (fun _ _ => ⟨undef, .inr ⟨hw, rfl⟩, hrec⟩) (fun _ _ => .inr ⟨hw, hrec⟩)
  | @val i l σ H H' o m v ho hg ha h ih =>
    intro listed β w a hc hI hE hF
    obtain ⟨hc1, hc2⟩ := chkF_cons ho hc
    rw [ordLen_cons ho]
    have hw := guard_yes hF hg
    refine take_one hsel hQ ho hc1 (fun hb => ?_) (fun hb hr => ?_) fun hb hr => .inl ⟨hw, ?_⟩
    · obtain ⟨⟨c, v'⟩, hp⟩ := blind_pure hb (opn σ)
      unfold aop at ha
      rw [hp] at ha
      simp only [R.val.injEq] at ha
      obtain ⟨rfl, rfl, rfl⟩ := ha
      obtain ⟨x, hx, hv⟩ := pure_ok hT hF.opn hp rfl
      exact ⟨x, .inl ⟨hw, hx⟩, ih _ β w _ hc2 hI hE (hF.put o.dst hv)⟩
    · obtain ⟨hp, ⟨c, v'⟩, hrd⟩ := reads_read hr (opn σ) H
      unfold aop at ha
      rw [hp, hrd] at ha
      simp only [R.val.injEq] at ha
      obtain ⟨rfl, rfl, rfl⟩ := ha
      obtain ⟨x, hx, hv⟩ := read_ok hT hI hF.opn hrd rfl
      exact ⟨x, .inl ⟨hw, hx⟩, ih _ β w _ hc2 hI hE (hF.put o.dst hv)⟩
    · exact op_step (aop_ok hT hI hF ha rfl) fun x w' β' h1 h2 h3 => ih _ β' w' _ hc2 h1 (hE.trans h2) ((hF.mono h2).put o.dst h3)
  | @br i l σ H H1 H2 o m c v1 v2 ho hg ha h1 h2 ih1 ih2 =>
    intro listed β w a hc hI hE hF
    obtain ⟨hc1, hc2⟩ := chkF_cons ho hc
    rw [ordLen_cons ho]
    have hw := guard_yes hF hg
    refine take_one hsel hQ ho hc1 (fun hb => ?_) (fun hb hr => ?_) fun hb hr => .inl ⟨hw, ?_⟩
    · obtain ⟨r, hp⟩ := blind_pure hb (opn σ)
      unfold aop at ha
      rw [hp] at ha
      cases ha
    · obtain ⟨hp, r, hrd⟩ := reads_read hr (opn σ) H
      unfold aop at ha
      rw [hp, hrd] at ha
      cases ha
    · obtain ⟨hy1, hy2⟩ := aop_br (P := P) hT hI hF ha
      cases c with
      | true => exact op_step (hy1 rfl) fun x w' β' h1' h2' h3' => ih1 rfl _ β' w' _ hc2 h1' (hE.trans h2') ((hF.mono h2').put o.dst h3')
      | false => exact op_step (hy2 rfl) fun x w' β' h1' h2' h3' => ih2 rfl _ β' w' _ hc2 h1' (hE.trans h2') ((hF.mono h2').put o.dst h3')
  | @draw i l σ H o m Q ho hg ha h ih =>
    intro listed β w a hc hI hE hF
    obtain ⟨hc1, hc2⟩ := chkF_cons ho hc
    rw [ordLen_cons ho]
    have hw := guard_yes hF hg
    refine take_one hsel hQ ho hc1 (fun hb => ?_) (fun hb hr => ?_) fun hb hr => .inl ⟨hw, ?_⟩
    · obtain ⟨r, hp⟩ := blind_pure hb (opn σ)
      unfold aop at ha
      rw [hp] at ha
      cases ha
    · obtain ⟨hp, r, hrd⟩ := reads_read hr (opn σ) H
      unfold aop at ha
      rw [hp, hrd] at ha
      cases ha
    · obtain ⟨v, H', hq, hy⟩ := aop_draw (P := P) hI hF ha rfl
      exact op_step hy fun x w' β' h1' h2' h3' => ih v H' hq _ β' w' _ hc2 h1' (hE.trans h2') ((hF.mono h2').put o.dst h3')
  | @call i l σ H o m f args K ho hg ha hs h ih =>
    intro listed β w a hc hI hE hF
    obtain ⟨hc1, hc2⟩ := chkF_cons ho hc
    rw [ordLen_cons ho]
    have hw := guard_yes hF hg
    refine take_one hsel hQ ho hc1 (fun hb => ?_) (fun hb hr => ?_) fun hb hr => .inl ⟨hw, ?_⟩
    · obtain ⟨r, hp⟩ := blind_pure hb (opn σ)
      unfold aop at ha
      rw [hp] at ha
      cases ha
    · obtain ⟨hp, r, hrd⟩ := reads_read hr (opn σ) H
      unfold aop at ha
      rw [hp, hrd] at ha
      cases ha
    · exact aop_call hI hF ha hs fun v r w' β' H' h1 h2 h3 hK => ih r H' hK _ β' w' _ hc2 h1 (hE.trans h2) ((hF.mono h2).put o.dst h3)
  | @fork m n l1 l2 σ H hm hn h1 h2 ih1 ih2 =>
    intro listed β w a hc hI hE hF
    have hm' : all.toArray[m]? = none := by simpa using hm
    unfold chkF at hc
    simp only [hm', List.tail_cons, List.headD_cons, hn, List.take_left, List.drop_left] at hc
    have ho : ordLen all.toArray (m :: n :: (l1 ++ l2)) = n := by unfold ordLen; simp only [hm', List.headD_cons]
    rw [ho, hn]
    unfold forkOk at hc
    split at hc
    · rename_i x t1 y t2
      simp only [Bool.and_eq_true, beq_iff_eq] at hc
      obtain ⟨hlen, hready, hc1, hc2⟩ := hc
      rw [List.length_cons]
      refine ⟨fun h => (by rw [hready] at h; cases h), fun j hj => ?_⟩
      have hsome : ∃ o, all[j]? = some o := by
        obtain ⟨_, o, ho, _⟩ := mem_ready.1 hj
        exact ⟨o, by simpa using ho⟩
      obtain ⟨o, hjo⟩ := hsome
      rw [hready] at hj
      simp only [List.mem_cons, List.not_mem_nil, or_false] at hj
      rcases hj with rfl | rfl
      · exact plan_op hT hsel hQ hend hjo h1 hc1 hI hE hF
      · have := plan_op hT hsel hQ hend hjo h2 hc2 hI hE hF
        rwa [← hlen] at this
    · cases hc

/-! ### Regions whose operations leave the heap as it is: whatever the order, what they give is the same. -/

def opsOf : Op → List Operand
  | .move x | .assign x | .unOp _ _ x | .nilCheck x | .convert _ _ x | .extract x _ | .field _ x _ | .fieldAddr _ x _ | .makeInterface _ x | .sliceToArrayPointer _ x | .load _ x | .entry x | .box _ x => [x]
  | .lookup _ x k _ => [x, k]
  | .pick c a b => [c, a, b]
  | .binOp _ _ x y _ | .index _ x y | .indexAddr _ x y => [x, y]
  | .build _ parts => parts.toList.map (·.2)
  | .buildSlice _ _ parts => parts.toList.map (·.2)
  | .makeSlice _ l c => [l, c]
  | .makeFunc _ a c => a.toList ++ c.toList
  | .slice _ x lo hi mx => x :: (lo.toList ++ (hi.toList ++ mx.toList))
  | .call c => (match c.callee with
    | .value f => [f]
    | _ => []) ++ c.args.toList
  | _ => []

def tmpsOf (op : Op) : List Nat := (opsOf op).filterMap fun
  | .tmp t => some t
  | _ => none

def isCallV : Op → Bool
  | .call c => match c.callee with
    | .value _ => true
    | _ => false
  | _ => false

/-- An operation that makes a slice of its own. -/
def isMake : Op → Bool
  | .buildSlice _ _ _ => true
  | .makeSlice _ _ _ => true
  | .convert _ _ _ => true
  | .call c => match c.callee with
    | .builtin .append => true
    | _ => false
  | _ => false

def firstSet (all : List Oper) : Nat := all.findIdx fun o => isSet o.op

def edgeB (o : Oper) (j : Nat) : Bool := o.after.any fun e => Region.binds .any e && e.on == j

/-- An operation that may come whenever what it hangs on is there. -/
def quietB (T : Nat → Option TD) (all : List Oper) (p i : Nat) (o : Oper) : Bool :=
  (blindOp T o.op || readsOp T o.op || isCallV o.op || isMake o.op) && ((o.after.all fun e => !Region.binds .any e || decide (e.on < i)) &&
  ((match o.guard with
    | none => true
    | some (j, _) => decide (j < i) && edgeB o j) &&
  (List.range p).all fun j => match (all[j]?).bind (·.dst) with
    | none => true
    | some t => (j == i || o.dst != some t) && (!(tmpsOf o.op).contains t || (edgeB o j && decide (j < i)))))

def marks (p n : Nat) : Array Bool := ((List.range n).map fun j => decide (j < p)).toArray

/-- One operation stands behind another one, through others. -/
def reachB (all : List Oper) : Nat → Nat → Nat → Bool
  | 0, _, _ => false
  | n + 1, i, j => match all[i]? with
    | none => false
    | some o => o.after.any fun e => Region.binds .any e && (e.on == j || reachB all n e.on j)

def qOk (T : Nat → Option TD) (p : Nat) (ops : Array Oper) : Bool :=
  Region.noSelect ops && ((List.range ops.size).all (fun i => match ops[i]? with
    | none => false
    | some o => if i < p then quietB T ops.toList (p) i o else (List.range (p)).all fun j => edgeB o j || reachB ops.toList ops.size i j) &&
  (decide (p ≤ ops.size) && chk T ops (marks (p) ops.size) (idxs (p) (ops.toList.drop (p)))))

theorem pureOp_congr {g g' : Operand → PV} {op : Op} (h : ∀ x ∈ opsOf op, g x = g' x) : pureOp T g op = pureOp T g' op := by
  cases op <;> simp only [opsOf, List.mem_cons, List.not_mem_nil, or_false, forall_eq_or_imp, forall_eq, List.mem_map, List.mem_append] at h <;> simp only [pureOp]
  case move x => rw [h]
  case assign x => rw [h]
  case pick c a b => rw [h.1, h.2.1, h.2.2]
  case binOp op t x y yt => rw [h.1, h.2]
  case unOp op t x => rw [h]
  case nilCheck x => rw [h]
  case convert s d x => rw [h]
  case extract x i => rw [h]
  case field t x f => rw [h]
  case fieldAddr t x f => rw [h]
  case makeInterface t x => rw [h]
  case sliceToArrayPointer t x => rw [h]
  case index t x i => rw [h.1, h.2]
  case indexAddr t x i => rw [h.1, h.2]
  case build t parts =>
    have : (parts.toList.map fun p => (p.1, g p.2)) = parts.toList.map fun p => (p.1, g' p.2) := List.map_congr_left fun p hp => by rw [h p.2 ⟨p, hp, rfl⟩]
    rw [this]
  case makeFunc fn a c =>
    have h1 : a.toList.map g = a.toList.map g' := List.map_congr_left fun p hp => h p (.inl hp)
    have h2 : c.toList.map g = c.toList.map g' := List.map_congr_left fun p hp => h p (.inr hp)
    rw [h1, h2]
  case slice t x lo hi mx =>
    have hx := h.1
    have h1 : lo.map g = lo.map g' := by
      cases lo with
      | none => rfl
      | some a => simp only [Option.map_some]; rw [h.2 a (.inl (by simp))]
    have h2 : hi.map g = hi.map g' := by
      cases hi with
      | none => rfl
      | some a => simp only [Option.map_some]; rw [h.2 a (.inr (.inl (by simp)))]
    have h3 : mx.map g = mx.map g' := by
      cases mx with
      | none => rfl
      | some a => simp only [Option.map_some]; rw [h.2 a (.inr (.inr (by simp)))]
    rw [hx, h1, h2, h3]
  case call c =>
    have h1 : c.args.toList.map g = c.args.toList.map g' := List.map_congr_left fun p hp => h p (.inr hp)
    rw [h1]

theorem readOp_congr {g g' : Operand → PV} {H : Heap} {op : Op} (h : ∀ x ∈ opsOf op, g x = g' x) : readOp T g H op = readOp T g' H op := by
  cases op <;> simp only [opsOf, List.mem_cons, List.not_mem_nil, or_false, forall_eq_or_imp, forall_eq, List.mem_map, List.mem_append] at h <;> simp only [readOp]
  case load t x => rw [h]
  case binOp op t x y yt => rw [h.1, h.2]
  case lookup t x k ok => rw [h.1, h.2]
  case entry it => rw [h]
  case call c =>
    have h1 : c.args.toList.map g = c.args.toList.map g' := List.map_congr_left fun p hp => h p (.inr hp)
    rw [h1]
  case convert s d x => rw [h]
  case slice t x lo hi mx =>
    have hx := h.1
    have h1 : lo.map g = lo.map g' := by
      cases lo with
      | none => rfl
      | some a => simp only [Option.map_some]; rw [h.2 a (.inl (by simp))]
    have h2 : hi.map g = hi.map g' := by
      cases hi with
      | none => rfl
      | some a => simp only [Option.map_some]; rw [h.2 a (.inr (.inl (by simp)))]
    rw [hx, h1, h2]

theorem effCall_congr {g g' : Operand → PV} {H : Heap} {op : Op} {f : Nat} {args : List PV} (h : ∀ x ∈ opsOf op, g x = g' x) (hc : effOp T false g H op = .call f args) (hv : isCallV op = true) : effOp T false g' H op = .call f args := by
  cases op <;> simp only [isCallV] at hv <;> try (cases hv; done)
  case call c =>
    obtain ⟨callee, cargs, ts⟩ := c
    simp only at hv
    split at hv
    · rename_i fo
      simp only [opsOf, List.mem_append, List.mem_cons, List.not_mem_nil, or_false] at h
      simp only [effOp] at hc ⊢
      have h1 : cargs.toList.map g = cargs.toList.map g' := List.map_congr_left fun p hp => h p (.inr hp)
      rw [← h1, ← h fo (.inl rfl)]
      exact hc
    · cases hv

theorem effMake_congr {g g' : Operand → PV} {H : Heap} {op : Op} {mu : Bool} (h : ∀ x ∈ opsOf op, g x = g' x) (hm : isMake op = true) : effOp T mu g H op = effOp T mu g' H op := by
  cases op <;> simp only [isMake] at hm <;> try (cases hm; done)
  case buildSlice t n parts =>
    simp only [opsOf, List.mem_map] at h
    simp only [effOp]
    congr 1
    exact List.map_congr_left fun p hp => by rw [h p.2 ⟨p, hp, rfl⟩]
  case makeSlice t l c =>
    simp only [opsOf, List.mem_cons, List.not_mem_nil, or_false] at h
    simp only [effOp]
    rw [h l (.inl rfl), h c (.inr rfl)]
  case convert s d x =>
    simp only [opsOf, List.mem_cons, List.not_mem_nil, or_false] at h
    simp only [effOp]
    rw [h x rfl]
  case call c =>
    obtain ⟨callee, cargs, ts⟩ := c
    simp only at hm
    split at hm
    · simp only [opsOf, List.mem_append, List.not_mem_nil, false_or] at h
      simp only [effOp]
      have h1 : cargs.toList.map g = cargs.toList.map g' := List.map_congr_left fun p hp => h p hp
      rw [h1]
    · cases hm

theorem make_no_call {g : Operand → PV} {H : Heap} {op : Op} {mu : Bool} {f : Nat} {args : List PV} (hm : isMake op = true) : ¬ effOp T mu g H op = .call f args := by
  intro ha
  cases op <;> simp only [isMake] at hm <;> try (cases hm; done)
  case buildSlice t n parts => simp only [effOp] at ha; unfold buildSliceE newSlice at ha; (repeat' split at ha) <;> cases ha
  case makeSlice t l c => simp only [effOp] at ha; unfold makeSliceE newSlice at ha; (repeat' split at ha) <;> cases ha
  case convert s d x => simp only [effOp] at ha; unfold bytesE newSlice at ha; (repeat' split at ha) <;> cases ha
  case call c =>
    obtain ⟨callee, cargs, ts⟩ := c
    simp only at hm
    split at hm
    · simp only [effOp] at ha; unfold appendE newSlice at ha; (repeat' split at ha) <;> cases ha
    · cases hm
theorem call_no_val {g : Operand → PV} {H H' : Heap} {op : Op} {mu b : Bool} {v : PV} (hm : isCallV op = true) : ¬ effOp T mu g H op = .val b v H' := by
  intro ha
  cases op <;> simp only [isCallV] at hm <;> try (cases hm; done)
  case call c =>
    obtain ⟨callee, cargs, ts⟩ := c
    simp only at hm
    split at hm
    · simp only [effOp] at ha; unfold callE at ha; (repeat' split at ha) <;> cases ha
    · cases hm

/-- What an operation gives, where it leaves the heap. -/
inductive QStep (P : Program) (T : Nat → Option TD) (all : List Oper) (H : Heap) (o : Oper) (σ : Env) : PV → Prop
  | pass {t : Nat} {want : Bool} (hg : guardOf all o = some (some t, want)) (hb : guardNo σ t want) : QStep P T all H o σ (.tup [])
  | pure {v : PV} (hg : guardYes all o σ) (ha : pureOp T (opn σ) o.op = some (true, v)) : QStep P T all H o σ v
  | read {v : PV} (hg : guardYes all o σ) (hp : pureOp T (opn σ) o.op = none) (ha : readOp T (opn σ) H o.op = some (true, v)) : QStep P T all H o σ v
  | call {f : Nat} {args : List PV} {r : PV} (hg : guardYes all o σ) (hp : pureOp T (opn σ) o.op = none) (hr : readOp T (opn σ) H o.op = none) (ha : effOp T false (opn σ) H o.op = .call f args)
      (hs : SCall P f args H fun r' H' => r' = r ∧ H' = H) : QStep P T all H o σ r
  | make {v : PV} (hg : guardYes all o σ) (hp : pureOp T (opn σ) o.op = none) (hr : readOp T (opn σ) H o.op = none) (ha : effOp T false (opn σ) H o.op = .val true v H) : QStep P T all H o σ v

inductive PlanQ (P : Program) (T : Nat → Option TD) (all : List Oper) (H : Heap) (Ψ : Env → Heap → Prop) (p : Nat) : Nat → Env → Prop
  | fin {i : Nat} {σ : Env} (hi : i = p) (h : Plan P T all Ψ (idxs i (all.drop i)) σ H) : PlanQ P T all H Ψ p i σ
  | step {i : Nat} {σ : Env} {o : Oper} {v : PV} (ho : all[i]? = some o) (hn : i < p) (hs : QStep P T all H o σ v) (h : PlanQ P T all H Ψ p (i + 1) (upd σ o.dst v)) : PlanQ P T all H Ψ p i σ

/-- The temporaries where some of the operations have come: the others are as they were. -/
def Rel (all : List Oper) (p : Nat) (σ0 : Env) (vs : Nat → PV) (S : Nat → Prop) (σ : Env) : Prop :=
  σ.length = σ0.length ∧ ∀ t, (∀ j, j < p → S j → ((all[j]?).bind (·.dst)) = some t → t < σ0.length → σ[t]? = some (vs j)) ∧ ((∀ j, j < p → S j → ((all[j]?).bind (·.dst)) ≠ some t) → σ[t]? = σ0[t]?)

theorem Rel.agree {all : List Oper} {p : Nat} {σ0 : Env} {vs : Nat → PV} {S S' : Nat → Prop} {σ σ' : Env} (h : Rel all p σ0 vs S σ) (h' : Rel all p σ0 vs S' σ') {t : Nat}
    (hd : ∀ j, j < p → ((all[j]?).bind (·.dst)) = some t → S j ∧ S' j) : σ.getD t .any = σ'.getD t .any := by
  have : σ[t]? = σ'[t]? := by
    rcases Nat.lt_or_ge t σ0.length with ht | ht
    · by_cases he : ∃ j, j < p ∧ ((all[j]?).bind (·.dst)) = some t
      · obtain ⟨j, hj, hjt⟩ := he
        obtain ⟨s1, s2⟩ := hd j hj hjt
        rw [(h.2 t).1 j hj s1 hjt ht, (h'.2 t).1 j hj s2 hjt ht]
      · rw [(h.2 t).2 fun j hj _ hjt => he ⟨j, hj, hjt⟩, (h'.2 t).2 fun j hj _ hjt => he ⟨j, hj, hjt⟩]
    · rw [List.getElem?_eq_none (by rw [h.1]; exact ht), List.getElem?_eq_none (by rw [h'.1]; exact ht)]
  rw [List.getD_eq_getElem?_getD, List.getD_eq_getElem?_getD, this]

theorem Rel.upd {all : List Oper} {p : Nat} {σ0 : Env} {vs : Nat → PV} {S : Nat → Prop} {σ : Env} (h : Rel all p σ0 vs S σ) {i : Nat} {o : Oper} (ho : all[i]? = some o) (hi : i < p)
    (hdist : ∀ j, j < p → j ≠ i → ∀ t, ((all[j]?).bind (·.dst)) = some t → o.dst ≠ some t) {S' : Nat → Prop} (hS : ∀ j, j < p → (S' j ↔ (S j ∨ j = i))) : Rel all p σ0 vs S' (SL.upd σ o.dst (vs i)) := by
  refine ⟨by unfold SL.upd; split <;> simp [h.1], fun t => ⟨fun j hj hs hjt ht => ?_, fun hno => ?_⟩⟩
  · by_cases hji : j = i
    · subst hji
      rw [ho] at hjt
      simp only [Option.bind_some] at hjt
      rw [hjt]
      unfold SL.upd
      rw [List.getElem?_set_self (by rw [h.1]; exact ht)]
    · have hne := hdist j hj hji t hjt
      have hs' := ((hS j hj).mp hs).resolve_right hji
      unfold SL.upd
      cases hd : o.dst with
      | none => exact (h.2 t).1 j hj hs' hjt ht
      | some d =>
        simp only
        rw [List.getElem?_set_ne (fun e => hne (by rw [hd, e]))]
        exact (h.2 t).1 j hj hs' hjt ht
  · have hi' := hno i hi ((hS i hi).mpr (.inr rfl))
    rw [ho] at hi'
    simp only [Option.bind_some] at hi'
    have hrest := (h.2 t).2 fun j hj hs => hno j hj ((hS j hj).mpr (.inl hs))
    unfold SL.upd
    cases hd : o.dst with
    | none => exact hrest
    | some d =>
      simp only
      rw [List.getElem?_set_ne (fun e => hi' (by rw [hd, e]))]
      exact hrest

/-- The steps, one by one. -/
theorem planq_steps {all : List Oper} {H : Heap} {Ψ : Env → Heap → Prop} {σ0 : Env} {p : Nat} : ∀ {i : Nat} {σ : Env}, PlanQ P T all H Ψ p i σ → ∀ (vs0 : Nat → PV), (∀ j o, j < i → all[j]? = some o → True) →
    ∃ (vs : Nat → PV) (env : Nat → Env), (∀ j, j < i → vs j = vs0 j) ∧ env i = σ ∧ (∀ j, i ≤ j → j < p → ∃ o, all[j]? = some o ∧ QStep P T all H o (env j) (vs j) ∧ env (j + 1) = upd (env j) o.dst (vs j)) ∧
      i ≤ p ∧ Plan P T all Ψ (idxs (p) (all.drop (p))) (env (p)) H := by
  intro i σ h
  induction h with
  | @fin i σ hi h =>
    intro vs0 _
    subst hi
    exact ⟨vs0, fun _ => σ, fun _ _ => rfl, rfl, fun j h1 h2 => absurd h1 (by omega), Nat.le_refl _, h⟩
  | @step i σ o v ho hn hs h ih =>
    intro vs0 _
    obtain ⟨vs, env, h1, h2, h3, h4, h5⟩ := ih (fun j => if j = i then v else vs0 j) (fun _ _ _ _ => trivial)
    have hvi : vs i = v := by rw [h1 i (by omega), if_pos rfl]
    refine ⟨vs, fun j => if j = i then σ else env j, fun j hj => by rw [h1 j (by omega), if_neg (by omega)], by simp, fun j hj1 hj2 => ?_, by omega, ?_⟩
    · by_cases hji : j = i
      · subst hji
        refine ⟨o, ho, by simpa [hvi] using hs, ?_⟩
        simp only [if_true, Nat.succ_ne_self, if_false, hvi]
        exact h2
      · obtain ⟨o', a1, a2, a3⟩ := h3 j (by omega) hj2
        refine ⟨o', a1, ?_, ?_⟩
        · simpa [hji] using a2
        · simpa [hji, show j + 1 ≠ i by omega] using a3
    · simpa [show p ≠ i by omega] using h5

theorem edge_listed {o : Oper} {j : Nat} (h : edgeB o j = true) {listed : Array Bool} (hall : ∀ e ∈ o.after, Region.binds .any e = true → listed.getD e.on false = true) : listed.getD j false = true := by
  unfold edgeB at h
  obtain ⟨e, he, h1⟩ := Array.any_eq_true'.1 h
  simp only [Bool.and_eq_true, beq_iff_eq] at h1
  rw [← h1.2]
  exact hall e he h1.1

theorem reach_listed {all : List Oper} {listed : Array Bool} (hcl : ∀ j o, all[j]? = some o → listed.getD j true = true → ∀ e ∈ o.after, Region.binds .any e = true → listed.getD e.on false = true) :
    ∀ (n i : Nat) (o : Oper), all[i]? = some o → (∀ e ∈ o.after, Region.binds .any e = true → listed.getD e.on false = true) → ∀ {j : Nat}, reachB all n i j = true → listed.getD j false = true
  | 0, _, _, _, _, _, h => by cases h
  | n + 1, i, o, ho, hall, j, h => by
    rw [reachB, ho] at h
    simp only at h
    obtain ⟨e, he, h1⟩ := Array.any_eq_true'.1 h
    simp only [Bool.and_eq_true, Bool.or_eq_true, beq_iff_eq] at h1
    have hl := hall e he h1.1
    rcases h1.2 with h2 | h2
    · rw [← h2]; exact hl
    · cases hk : all[e.on]? with
      | none =>
        cases n with
        | zero => cases h2
        | succ n => rw [reachB, hk] at h2; cases h2
      | some o' =>
        have hl' : listed.getD e.on true = true := by
          simp only [Array.getD] at hl ⊢
          split at hl
          · rename_i hlt; rw [dif_pos hlt]; exact hl
          · cases hl
        exact reach_listed hcl n e.on o' hk (hcl e.on o' hk hl') h2

theorem opn_agree {op : Op} {σ σ' : Env} (h : ∀ t ∈ tmpsOf op, σ.getD t .any = σ'.getD t .any) : ∀ x ∈ opsOf op, opn σ x = opn σ' x := by
  intro x hx
  cases x <;> try rfl
  case tmp t => exact h t (List.mem_filterMap.mpr ⟨.tmp t, hx, rfl⟩)

theorem quiet_any (hT : TOk P T) {all : List Oper} {p : Nat} {Ψ : Env → Heap → Prop} {Q : Exit → Act → World → Prop} (hok : qOk T p all.toArray = true) (hQ : ∀ c a w, ¬ Q (.panic c) a w)
    {β0 : Nat → Option Nat} {H0 : Heap} {w0 : World} (hend : ∀ σ H β w a, Ψ σ H → Inv β H w → Ext β0 H0 w0 β H w → FR w0.heap.size β H w a σ → Q .normal a w) {σ0 : Env} {H : Heap} (hp : PlanQ P T all H Ψ p 0 σ0)
    {β : Nat → Option Nat} {w : World} {a : Act} (hI : Inv β H w) (hE : Ext β0 H0 w0 β H w) (hF : FR w0.heap.size β H w a σ0) : wpAnyM P .any all.toArray Q (qOf T all) all.length (Array.replicate all.length false) a w := by
  simp only [qOk, Bool.and_eq_true, List.all_eq_true, List.mem_range, decide_eq_true_eq, List.size_toArray] at hok
  obtain ⟨hsel, hops, hple, hchk⟩ := hok
  obtain ⟨vs, env, _, e0, hst, _, hplan⟩ := planq_steps (σ0 := σ0) hp (fun _ => .any) (fun _ _ _ _ => trivial)
  -- each operation of the first part
  have hq : ∀ i o, i < p → all[i]? = some o → quietB T all p i o = true := fun i o hi ho => by
    have := hops i (by have := List.getElem?_eq_some_iff.1 ho; obtain ⟨h, _⟩ := this; exact h)
    simp only [List.getElem?_toArray, ho, hi, if_true] at this
    exact this
  have hge : ∀ i o, p ≤ i → all[i]? = some o → ∀ j, j < p → edgeB o j = true ∨ reachB all all.length i j = true := fun i o hi ho j hj => by
    have := hops i (by have := List.getElem?_eq_some_iff.1 ho; obtain ⟨h, _⟩ := this; exact h)
    simp only [List.getElem?_toArray, ho, Nat.not_lt.mpr hi, if_false, List.all_eq_true, List.mem_range, Bool.or_eq_true] at this
    exact this j hj
  have hpart : ∀ i o, i < p → all[i]? = some o → (blindOp T o.op = true ∨ readsOp T o.op = true ∨ isCallV o.op = true ∨ isMake o.op = true) ∧ (∀ e ∈ o.after, Region.binds .any e = true → e.on < i) ∧
      (∀ j want, o.guard = some (j, want) → j < i ∧ edgeB o j = true) ∧ ∀ j, j < p → ∀ t, ((all[j]?).bind (·.dst)) = some t → (j ≠ i → o.dst ≠ some t) ∧ (t ∈ tmpsOf o.op → edgeB o j = true ∧ j < i) := fun i o hi ho => by
    have h := hq i o hi ho
    simp only [quietB, Bool.and_eq_true, Bool.or_eq_true, List.all_eq_true, List.mem_range] at h
    obtain ⟨h1, h2, h3, h4⟩ := h
    refine ⟨by rcases h1 with ((h | h) | h) | h <;> simp [h], fun e he hb => ?_, fun j want hg => ?_, fun j hj t ht => ?_⟩
    · have := Array.all_eq_true_iff_forall_mem.1 h2 e he
      simp only [hb, Bool.not_true, Bool.false_or, decide_eq_true_eq] at this
      exact this
    · rw [hg] at h3
      simp only [Bool.and_eq_true, decide_eq_true_eq] at h3
      exact h3
    · have := h4 j hj
      rw [ht] at this
      simp only [Bool.and_eq_true, Bool.or_eq_true, beq_iff_eq, bne_iff_ne, ne_eq, Bool.not_eq_true', decide_eq_true_eq] at this
      refine ⟨fun hji => this.1.resolve_left hji, fun hm => ?_⟩
      rcases this.2 with h | h
      · have : (tmpsOf o.op).contains t = true := List.contains_iff_mem.mpr hm
        rw [h] at this; cases this
      · exact h
  have hdist : ∀ i o, i < p → all[i]? = some o → ∀ j, j < p → j ≠ i → ∀ t, ((all[j]?).bind (·.dst)) = some t → o.dst ≠ some t := fun i o hi ho j hj hji t ht => ((hpart i o hi ho).2.2.2 j hj t ht).1 hji
  -- the temporaries in the order given
  have hrel : ∀ i, i ≤ p → Rel all p σ0 vs (fun j => j < i) (env i) := by
    intro i
    induction i with
    | zero => intro _; rw [e0]; exact ⟨rfl, fun t => ⟨fun j _ h => absurd h (by omega), fun _ => rfl⟩⟩
    | succ i ih =>
      intro hi
      obtain ⟨o, ho, _, he⟩ := hst i (Nat.zero_le _) (by omega)
      rw [he]
      exact (ih (by omega)).upd ho (by omega) (hdist i o (by omega) ho) fun j _ => by omega
  have key : ∀ (k : Nat) (listed : Array Bool) (σ : Env) (β : Nat → Option Nat) (w : World) (a : Act), listed.size = all.length → (∀ j, p ≤ j → j < all.length → listed.getD j true = false) →
      (∀ j o, all[j]? = some o → listed.getD j true = true → ∀ e ∈ o.after, Region.binds .any e = true → listed.getD e.on false = true) →
      ((List.range p).filter fun j => !listed.getD j true).length = k → Rel all p σ0 vs (fun j => listed.getD j true = true) σ → Inv β H w → Ext β0 H0 w0 β H w → FR w0.heap.size β H w a σ →
      wpAnyM P .any all.toArray Q (qOf T all) (k + (all.length - p)) listed a w := by
    intro k
    induction k with
    | zero =>
      intro listed σ β w a hsz hhi _ hk hR hI hE hF
      have hall : ∀ j, j < p → listed.getD j true = true := fun j hj => by
        have hnil := List.eq_nil_of_length_eq_zero hk
        rw [List.filter_eq_nil_iff] at hnil
        simpa using hnil j (List.mem_range.mpr hj)
      have hl : listed = marks p all.length := by
        apply Array.ext
        · simp [marks, hsz]
        · intro j h1 h2
          have hj : j < all.length := by omega
          have e1 : (marks p all.length)[j] = decide (j < p) := by simp [marks]
          rw [e1]
          by_cases hjp : j < p
          · have := hall j hjp
            simp only [Array.getD, h1, dif_pos] at this
            simpa [hjp] using this
          · have := hhi j (by omega) hj
            simp only [Array.getD, h1, dif_pos] at this
            simpa [hjp] using this
      have hσ : σ = env p := by
        apply List.ext_getElem?
        intro t
        have hRp := hrel p (Nat.le_refl _)
        rcases Nat.lt_or_ge t σ0.length with ht | ht
        · by_cases he : ∃ j, j < p ∧ ((all[j]?).bind (·.dst)) = some t
          · obtain ⟨j, hj, hjt⟩ := he
            rw [(hR.2 t).1 j hj (hall j hj) hjt ht, (hRp.2 t).1 j hj hj hjt ht]
          · rw [(hR.2 t).2 fun j hj _ hjt => he ⟨j, hj, hjt⟩, (hRp.2 t).2 fun j hj _ hjt => he ⟨j, hj, hjt⟩]
        · rw [List.getElem?_eq_none (by rw [hR.1]; exact ht), List.getElem?_eq_none (by rw [hRp.1]; exact ht)]
      have hlen : (idxs p (all.drop p)).length = all.length - p := by
        have : ∀ (l : List Oper) (i : Nat), (idxs i l).length = l.length := by
          intro l
          induction l with
          | nil => intro i; rfl
          | cons o l ih => intro i; simp [idxs, ih]
        rw [this, List.length_drop]
      subst hσ
      rw [hl, Nat.zero_add, ← hlen]
      exact plan_any hT hsel hQ hend hplan _ β w a hchk hI hE hF
    | succ k ih =>
      intro listed σ β w a hsz hhi hcl hk hR hI hE hF
      have hex : ∃ j, j < p ∧ listed.getD j true = false ∧ ∀ i, i < j → listed.getD i true = true := by
        have hne : ∃ j, j < p ∧ listed.getD j true = false := by
          have : (List.range p).filter (fun j => !listed.getD j true) ≠ [] := fun h => by rw [h] at hk; simp at hk
          obtain ⟨j, hj⟩ := List.exists_mem_of_ne_nil _ this
          simp only [List.mem_filter, List.mem_range, Bool.not_eq_true'] at hj
          exact ⟨j, hj.1, hj.2⟩
        obtain ⟨j, hj⟩ := hne
        induction j using Nat.strongRecOn with
        | _ j ihj =>
          by_cases hm : ∃ i, i < j ∧ listed.getD i true = false
          · obtain ⟨i, hij, hi⟩ := hm
            exact ihj i hij ⟨by omega, hi⟩
          · exact ⟨j, hj.1, hj.2, fun i hij => by
              cases hg : listed.getD i true with
              | true => rfl
              | false => exact absurd ⟨i, hij, hg⟩ hm⟩
      have gd : ∀ j b, j < all.length → listed.getD j b = listed.getD j true := fun j b hj => by
        simp [Array.getD, hsz, hj]
      rw [show k + 1 + (all.length - p) = (k + (all.length - p)) + 1 by omega]
      refine ⟨fun hnil => ?_, fun i hi => ?_⟩
      · -- something is ready
        obtain ⟨j, hj, hju, hjl⟩ := hex
        obtain ⟨o, ho, _, _⟩ := hst j (Nat.zero_le _) hj
        have hm : j ∈ Region.ready .any all.toArray listed := mem_ready.2 ⟨hju, o, by simpa using ho, fun e he hb => by
          have hlt := (hpart j o hj ho).2.1 e he hb
          have hjn : j < all.length := by have := List.getElem?_eq_some_iff.1 ho; obtain ⟨h, _⟩ := this; exact h
          rw [gd _ _ (by omega)]
          exact hjl _ hlt⟩
        rw [hnil] at hm
        cases hm
      · obtain ⟨hiu, o, ho, hall⟩ := mem_ready.1 hi
        have ho' : all[i]? = some o := by simpa using ho
        have hin : i < all.length := by have := List.getElem?_eq_some_iff.1 ho'; obtain ⟨h, _⟩ := this; exact h
        have hip : i < p := by
          rcases Nat.lt_or_ge i p with h | h
          · exact h
          · obtain ⟨j, hj, hju, _⟩ := hex
            have := (hge i o h ho' j hj).elim (fun h' => edge_listed h' hall) fun h' => reach_listed hcl all.length i o ho' hall h'
            rw [gd _ _ (by omega), hju] at this
            cases this
        obtain ⟨hkind, hafter, hguard, hdst⟩ := hpart i o hip ho'
        obtain ⟨o2, ho2, hstep, _⟩ := hst i (Nat.zero_le _) hip
        obtain rfl : o = o2 := Option.some.inj (ho'.symm.trans ho2)
        -- what it looks at is as in the order given
        have hag : ∀ t ∈ tmpsOf o.op, (env i).getD t .any = σ.getD t .any := fun t ht => by
          refine (hrel i (by omega)).agree hR fun j hj hjt => ?_
          obtain ⟨he, hji⟩ := (hdst j hj t hjt).2 ht
          have := edge_listed he hall
          rw [gd _ _ (by omega)] at this
          exact ⟨hji, this⟩
        have hopn := opn_agree hag
        have hgt : ∀ t want, guardOf all o = some (some t, want) → (env i).getD t .any = σ.getD t .any := fun t want hg => by
          unfold guardOf at hg
          cases hgd : o.guard with
          | none => rw [hgd] at hg; cases hg
          | some jw =>
            obtain ⟨j0, want0⟩ := jw
            rw [hgd] at hg
            simp only [Option.some.injEq, Prod.mk.injEq] at hg
            obtain ⟨hj0, he0⟩ := hguard j0 want0 hgd
            have hl0 := edge_listed he0 hall
            rw [gd _ _ (by omega)] at hl0
            refine (hrel i (by omega)).agree hR fun j hj hjt => ?_
            by_cases hjj : j = j0
            · subst hjj; exact ⟨hj0, hl0⟩
            · have h1 := (hpart j0 _ (by omega) (List.getElem?_eq_getElem (show j0 < all.length by omega))).2.2.2 j hj t hjt
              have h2 := h1.1 hjj
              rw [List.getElem?_eq_getElem (show j0 < all.length by omega)] at hg
              exact absurd hg.1 h2
        have hnext : ∀ β' w' a', Inv β' H w' → Ext β0 H0 w0 β' H w' → FR w0.heap.size β' H w' a' (SL.upd σ o.dst (vs i)) → wpAnyM P .any all.toArray Q (qOf T all) (k + (all.length - p)) (listed.setIfInBounds i true) a' w' := fun β' w' a' h1 h2 h3 => by
          have gs : ∀ j, (listed.setIfInBounds i true).getD j true = true ↔ (listed.getD j true = true ∨ j = i) := fun j => by
            by_cases hji : j = i
            · subst hji
              simp [Array.getD, hsz, hin]
            · rw [getD_set_ne true (fun e => hji e.symm)]
              simp [hji]
          refine ih _ _ β' w' a' (by simpa using hsz) (fun j hj hjn => ?_) (fun j oj hoj hjl e he hbe => ?_) ?_ (hR.upd ho' hip (hdist i o hip ho') fun j _ => gs j) h1 h2 h3
          · rw [getD_set_ne true (by omega)]; exact hhi j hj hjn
          · have hold : listed.getD e.on false = true := by
              rcases (gs j).mp hjl with h | rfl
              · exact hcl j oj hoj h e he hbe
              · obtain rfl : oj = o := Option.some.inj (hoj.symm.trans ho')
                exact hall e he hbe
            by_cases hei : e.on = i
            · rw [hei]; simp [Array.getD, hsz, hin]
            · rw [getD_set_ne false (fun h => hei h.symm)]; exact hold
          · have hlen : ((List.range p).filter fun j => !(listed.setIfInBounds i true).getD j true).length + 1 = ((List.range p).filter fun j => !listed.getD j true).length := by
              have hsplit : ∀ (l : List Nat), l.Nodup → i ∈ l → (l.filter fun j => !(listed.setIfInBounds i true).getD j true).length + 1 = (l.filter fun j => !listed.getD j true).length := by
                intro l
                induction l with
                | nil => intro _ h; cases h
                | cons x l ihl =>
                  intro hnd hm
                  rw [List.nodup_cons] at hnd
                  by_cases hx : x = i
                  · subst hx
                    have h1 : (listed.setIfInBounds x true).getD x true = true := (gs x).mpr (.inr rfl)
                    have hcong : (l.filter fun j => !(listed.setIfInBounds x true).getD j true) = l.filter fun j => !listed.getD j true := List.filter_congr fun j hj => by
                      have hne : x ≠ j := fun e => by subst e; exact hnd.1 hj
                      rw [getD_set_ne true hne]
                    rw [List.filter_cons, List.filter_cons, h1, hiu, hcong]
                    simp
                  · have hm' : i ∈ l := by
                      rcases List.mem_cons.mp hm with h | h
                      · exact absurd h.symm hx
                      · exact h
                    have h2 := ihl hnd.2 hm'
                    rw [List.filter_cons, List.filter_cons, getD_set_ne true (fun e => hx e.symm)]
                    split <;> (try simp only [List.length_cons]) <;> omega
              exact hsplit (List.range p) List.nodup_range (List.mem_range.mpr hip)
            omega
        have hget : all.toArray[i]? = some o := by simpa using ho'
        show wpOp P all.toArray Q i _ a w
        unfold wpOp
        simp only [hget]
        generalize hvi : vs i = vi at *
        cases hstep with
        | @pass t want hg hb =>
          have hb' : guardNo σ t want := by
            unfold guardNo at hb ⊢
            rwa [hgt t want hg] at hb
          have hw := guard_no hF hg hb'
          rw [if_neg (by rw [hw]; simp)]
          exact ⟨fun _ => by trivial, hnext β w _ hI hE (hF.put o.dst V.skip)⟩
        | pure hg ha =>
          have hg' : guardYes all o σ := by
            rcases hg with h | ⟨t, want, h1, h2⟩
            · exact .inl h
            · exact .inr ⟨t, want, h1, by rw [← hgt t want h1]; exact h2⟩
          rw [if_pos (guard_yes hF hg')]
          rw [pureOp_congr hopn] at ha
          obtain ⟨x, hx, hv⟩ := pure_ok hT hF.opn ha rfl
          refine .inl ?_
          unfold Oper.wp
          rw [hx w]
          exact ⟨fun _ => rfl, hnext β w _ hI hE (hF.put o.dst hv)⟩
        | read hg hpn ha =>
          have hg' : guardYes all o σ := by
            rcases hg with h | ⟨t, want, h1, h2⟩
            · exact .inl h
            · exact .inr ⟨t, want, h1, by rw [← hgt t want h1]; exact h2⟩
          rw [if_pos (guard_yes hF hg')]
          rw [readOp_congr hopn] at ha
          obtain ⟨x, hx, hv⟩ := read_ok hT hI hF.opn ha rfl
          refine .inl ?_
          unfold Oper.wp
          rw [hx w rfl]
          exact ⟨fun _ => rfl, hnext β w _ hI hE (hF.put o.dst hv)⟩
        | @call f args r hg hpn hrn ha hs =>
          have hg' : guardYes all o σ := by
            rcases hg with h | ⟨t, want, h1, h2⟩
            · exact .inl h
            · exact .inr ⟨t, want, h1, by rw [← hgt t want h1]; exact h2⟩
          rw [if_pos (guard_yes hF hg')]
          have hcv : isCallV o.op = true := by
            rcases hkind with h | h | h | h
            · obtain ⟨r', hr'⟩ := blind_pure h (opn (env i))
              rw [hr'] at hpn; cases hpn
            · obtain ⟨_, r', hr'⟩ := reads_read h (opn (env i)) H
              rw [hr'] at hrn; cases hrn
            · exact h
            · exact absurd ha (make_no_call h)
          have hqf : qOf T all i = false := by
            unfold qOf
            rw [ho']
            simp only [Bool.or_eq_false_iff]
            constructor
            · cases hb : blindOp T o.op with
              | false => rfl
              | true => obtain ⟨r', hr'⟩ := blind_pure hb (opn (env i)); rw [hr'] at hpn; cases hpn
            · cases hb : readsOp T o.op with
              | false => rfl
              | true => obtain ⟨_, r', hr'⟩ := reads_read hb (opn (env i)) H; rw [hr'] at hrn; cases hrn
          have ha' := effCall_congr hopn ha hcv
          rw [pureOp_congr hopn] at hpn
          rw [readOp_congr hopn] at hrn
          have haop : aop T false (opn σ) H o.op = .call f args := by unfold aop; rw [hpn, hrn]; exact ha'
          refine .inl (aop_call hI hF haop hs fun v r' w' β' H' h1 h2 h3 hK => ⟨fun h => absurd h (by rw [hqf]; simp), by
            obtain ⟨rfl, rfl⟩ := hK
            exact hnext β' w' _ h1 (hE.trans h2) ((hF.mono h2).put o.dst h3)⟩)
        | make hg hpn hrn ha =>
          have hg' : guardYes all o σ := by
            rcases hg with h | ⟨t, want, h1, h2⟩
            · exact .inl h
            · exact .inr ⟨t, want, h1, by rw [← hgt t want h1]; exact h2⟩
          rw [if_pos (guard_yes hF hg')]
          have hqf : qOf T all i = false := by
            unfold qOf
            rw [ho']
            simp only [Bool.or_eq_false_iff]
            constructor
            · cases hb : blindOp T o.op with
              | false => rfl
              | true => obtain ⟨r', hr'⟩ := blind_pure hb (opn (env i)); rw [hr'] at hpn; cases hpn
            · cases hb : readsOp T o.op with
              | false => rfl
              | true => obtain ⟨_, r', hr'⟩ := reads_read hb (opn (env i)) H; rw [hr'] at hrn; cases hrn
          have hmk : isMake o.op = true := by
            rcases hkind with h | h | h | h
            · obtain ⟨r', hr'⟩ := blind_pure h (opn (env i))
              rw [hr'] at hpn; cases hpn
            · obtain ⟨_, r', hr'⟩ := reads_read h (opn (env i)) H
              rw [hr'] at hrn; cases hrn
            · exact absurd ha (call_no_val h)
            · exact h
          rw [effMake_congr hopn hmk] at ha
          rw [pureOp_congr hopn] at hpn
          rw [readOp_congr hopn] at hrn
          have haop : aop T false (opn σ) H o.op = .val true vi H := by unfold aop; rw [hpn, hrn]; exact ha
          exact .inl (op_step (aop_ok hT hI hF haop rfl) fun x w' β' h1 h2 h3 => ⟨fun h => absurd h (by rw [hqf]; simp), hnext β' w' _ h1 (hE.trans h2) ((hF.mono h2).put o.dst h3)⟩)
  have hcount : ((List.range p).filter fun j => !(Array.replicate all.length false).getD j true).length = p := by
    have : (List.range p).filter (fun j => !(Array.replicate all.length false).getD j true) = List.range p := by
      apply List.filter_eq_self.mpr
      intro j hj
      have := List.mem_range.mp hj
      simp [Array.getD, show j < all.length by omega]
    rw [this, List.length_range]
  have := key p (Array.replicate all.length false) σ0 β w a (by simp) (fun j _ hj => by simp [Array.getD, hj]) (fun j o hj h => by
      have hlt : j < all.length := (List.getElem?_eq_some_iff.1 hj).1
      simp [Array.getD, hlt] at h) hcount
    ⟨rfl, fun t => ⟨fun j hj h => (by simp [Array.getD, show j < all.length by omega] at h), fun _ => rfl⟩⟩ hI hE hF
  rwa [show p + (all.length - p) = all.length by omega] at this

end
end Go.Proofs.SL

/-
  SL: regions whose order is drawn, that make variables of their own besides. No claim by itself.
-/
namespace Go.Proofs.SL
open Go
set_option linter.unusedSimpArgs false
set_option linter.unusedVariables false

section
variable {P : Program} {T : Nat → Option TD}

/-! Reads in a heap that has grown. -/
theorem get_app {H S : Heap} {i : Nat} {x : Option OB} (h : H[i]? = some x) : (H ++ S)[i]? = some x := by
  have hi : i < H.length := by
    rcases Nat.lt_or_ge i H.length with h' | h'
    · exact h'
    · rw [List.getElem?_eq_none h'] at h; cases h
  rw [List.getElem?_append_left hi]; exact h
theorem obj_app {H S : Heap} {i ver : Nat} {cs : List PV} (h : obj H i ver = some cs) : obj (H ++ S) i ver = some cs := by
  unfold obj at h ⊢
  split at h
  · rename_i v c hh; rw [get_app hh]; exact h
  · cases h
theorem loadV_app {d : TD} {H S : Heap} {p v : PV} (h : loadV d H p = (true, v)) : loadV d (H ++ S) p = (true, v) := by
  unfold loadV at h ⊢
  split at h
  · split at h
    · rename_i cs ho; simp only [obj_app ho]; exact h
    · simp [no] at h
  · exact h
  · simp [no] at h
theorem arrSlice_app {H S : Heap} {n m : Nat} {p v : PV} {lo hi : Option PV} (h : arrSliceV H n m p lo hi = (true, v)) : arrSliceV (H ++ S) n m p lo hi = (true, v) := by
  unfold arrSliceV at h ⊢
  split at h
  · split at h
    · rename_i cs l x ho hl hx; simp only [obj_app ho, hl, hx]; exact h
    · simp [no] at h
  · simp [no] at h
theorem toStr_app {H S : Heap} {d : TK} {p v : PV} (h : toStrV H d p = some (true, v)) : toStrV (H ++ S) d p = some (true, v) := by
  unfold toStrV at h ⊢
  split at h
  · split at h
    · exact h
    · exact h
    · simp only [Option.some.injEq] at h ⊢
      split at h
      · rename_i cs ho; simp only [obj_app ho]; exact h
      · simp [no] at h
    · cases h
  · cases h
theorem lookE_app {H S : Heap} {t : Nat} {x k v : PV} {ok : Bool} (h : lookE T H t x k ok = (true, v)) : lookE T (H ++ S) t x k ok = (true, v) := by
  unfold lookE at h ⊢
  split at h
  · split at h
    · rename_i o hh
      rw [get_app hh]
      exact h
    · simp [no] at h
  · exact h
  · simp [no] at h
theorem lenM_app {H S : Heap} {l : List PV} {v : PV} (h : lenM H l = (true, v)) : lenM (H ++ S) l = (true, v) := by
  unfold lenM at h ⊢
  split at h
  · exact h
  · split at h
    · rename_i o hh
      rw [get_app hh]
      exact h
    · simp [no] at h
  · simp [no] at h
theorem ptrSame_app {H S : Heap} {x y v : PV} (h : ptrSame H x y = (true, v)) : ptrSame (H ++ S) x y = (true, v) := by
  unfold ptrSame at h ⊢
  split at h
  · exact h
  · exact h
  · exact h
  · rename_i i u o j w q
    simp only [Prod.mk.injEq, Bool.and_eq_true, Option.isSome_iff_exists] at h
    obtain ⟨⟨h1, h2, ⟨a, h3⟩, ⟨b, h4⟩⟩, h5⟩ := h
    simp only [obj_app h3, obj_app h4, h1, h2, h5, Option.isSome_some, Bool.and_self]
  · simp [no] at h
theorem nilBuf_app {H S : Heap} {x y : PV} (h : nilBuf H x y = true) : nilBuf (H ++ S) x y = true := by
  unfold nilBuf at h ⊢
  split at h
  · split at h
    · rename_i ho
      simp only [obj_app ho]
    · cases h
  · cases h
theorem eqPtr_app {H S : Heap} {op : BinOp} {t : Nat} {x y v : PV} (h : eqPtrV T H op t x y = (true, v)) : eqPtrV T (H ++ S) op t x y = (true, v) := by
  unfold eqPtrV at h ⊢
  split at h
  · split at h
    · split at h
      · split at h
        · simp only [Prod.mk.injEq, Bool.and_eq_true] at h
          obtain ⟨⟨h1, h2⟩, h3⟩ := h
          have h4 : ptrSame H x y = (true, v) := by rw [← h2, ← h3]
          simp only [ptrSame_app h4, h1, Bool.and_self]
        · simp only [Prod.mk.injEq, Bool.and_eq_true] at h
          obtain ⟨⟨h1, h2⟩, h3⟩ := h
          have h4 : (ptrSame H x y).1 = true := by
            unfold notB at h2
            split at h2
            · rename_i b hb; rw [hb]; exact h2
            · simp [no] at h2
          have h5 : ptrSame (H ++ S) x y = ptrSame H x y := by
            have := ptrSame_app (S := S) (H := H) (x := x) (y := y) (v := (ptrSame H x y).2) (by rw [← h4])
            rw [this, ← h4]
          simp only [h5, h1, h2, h3, Bool.and_self]
        · simp [no] at h
      · simp [no] at h
    · split at h
      · simp only [Prod.mk.injEq, Bool.or_eq_true] at h ⊢
        exact ⟨h.1.imp_right nilBuf_app, h.2⟩
      · simp only [Prod.mk.injEq, Bool.or_eq_true] at h ⊢
        exact ⟨h.1.imp_right nilBuf_app, h.2⟩
      · simp [no] at h
    · simp [no] at h
  · simp [no] at h
theorem entry_app {H S : Heap} {p v : PV} (h : entryV H p = (true, v)) : entryV (H ++ S) p = (true, v) := by
  unfold entryV at h ⊢
  split at h
  · split at h
    · rename_i m since seen last hh
      rw [get_app hh]
      simp only
      split at h
      · rename_i n bs es hm
        rw [get_app hm]
        exact h
      · simp [no] at h
    · simp [no] at h
  · simp [no] at h
theorem readOp_app {g : Operand → PV} {H S : Heap} {op : Op} {v : PV} (h : readOp T g H op = some (true, v)) : readOp T g (H ++ S) op = some (true, v) := by
  cases op <;> simp only [readOp] at h ⊢ <;> try (cases h; done)
  case load t a =>
    cases hT : T t with
    | none => rw [hT] at h; simp [no] at h
    | some d => rw [hT] at h; simp only [Option.some.injEq] at h ⊢; exact loadV_app h
  case convert s d x =>
    split at h
    · split at h
      · split at h
        · split at h
          · exact toStr_app h
          · cases h
        · cases h
      · cases h
    · cases h
  case slice t x lo hi mx =>
    split at h
    · split at h
      · split at h
        · simp only [Option.some.injEq] at h ⊢; exact arrSlice_app h
        · simp [no] at h
      · split at h
        · split at h
          · split at h
            · simp only [Option.some.injEq] at h ⊢; exact arrSlice_app h
            · simp [no] at h
          · simp [no] at h
        · simp [no] at h
      · simp [no] at h
    · simp [no] at h
  case binOp op t x y yt =>
    split at h
    · rename_i hp; rw [if_pos hp]; simp only [Option.some.injEq] at h ⊢; exact eqPtr_app h
    · cases h
  case lookup t x k ok => simp only [Option.some.injEq] at h ⊢; exact lookE_app h
  case entry it => simp only [Option.some.injEq] at h ⊢; exact entry_app h
  case call c =>
    split at h
    · split at h
      · rename_i hp; rw [if_pos hp]; simp only [Option.some.injEq] at h ⊢; exact lenM_app h
      · cases h
    · cases h

/-! What makes a variable. -/
def isNew : Op → Bool
  | .alloc _ => true
  | .box _ _ => true
  | _ => false
/-- An operation that may come whenever what it hangs on is there, where variables are made besides. -/
def quietS (T : Nat → Option TD) (all : List Oper) (p i : Nat) (o : Oper) : Bool :=
  (blindOp T o.op || readsOp T o.op || isCallV o.op || isNew o.op) && ((o.after.all fun e => !Region.binds .any e || decide (e.on < i)) &&
  ((match o.guard with
    | none => true
    | some (j, _) => decide (j < i) && edgeB o j) &&
  (List.range p).all fun j => match (all[j]?).bind (·.dst) with
    | none => true
    | some t => (j == i || o.dst != some t) && (!(tmpsOf o.op).contains t || (edgeB o j && decide (j < i)))))
/-- An operation that may be taken first wherever it may come. -/
def freeS (ops : Array Oper) (j : Nat) (oj : Oper) : Bool := (List.range ops.size).all fun k => (k == j || edgeB oj k) || match ops[k]? with
  | some ok => (ok.after.any fun e => Region.binds .any e && e.on == j) || oj.apart ops ok
  | none => true
/-- An operation that may still be to come where another one may: it can be taken first. -/
def lateB (T : Nat → Option TD) (ops : Array Oper) (i : Nat) (o : Oper) (j : Nat) : Bool := match ops[j]? with
  | some oj => blindOp T oj.op && (freeS ops j oj && oj.after.all fun e => !Region.binds .any e || (edgeB o e.on || reachB ops.toList ops.size i e.on))
  | none => false
def qOkS (T : Nat → Option TD) (p : Nat) (ops : Array Oper) : Bool :=
  Region.noSelect ops && ((List.range ops.size).all (fun i => match ops[i]? with
    | none => false
    | some o => if i < p then quietS T ops.toList (p) i o else (List.range (p)).all fun j => (edgeB o j || reachB ops.toList ops.size i j) || lateB T ops i o j) &&
  (decide (p ≤ ops.size) && chk T ops (marks (p) ops.size) (idxs (p) (ops.toList.drop (p)))))

theorem newCs_congr {g g' : Operand → PV} {op : Op} (h : ∀ x ∈ opsOf op, g x = g' x) : newCs T g op = newCs T g' op := by
  cases op <;> simp only [opsOf, List.mem_cons, List.not_mem_nil, or_false, forall_eq] at h <;> simp only [newCs]
  case box t x => rw [h]
theorem new_not_blind {g : Operand → PV} {op : Op} {cs : List PV} (ha : newCs T g op = some (true, cs)) : blindOp T op = false ∧ readsOp T op = false := by
  cases op <;> simp only [newCs] at ha <;> first
    | (cases ha; done)
    | exact ⟨rfl, rfl⟩
theorem call_heap {g : Operand → PV} {H H' : Heap} {mu : Bool} {op : Op} (hv : isCallV op = true) : effOp T mu g H op = effOp T mu g H' op := by
  cases op <;> simp only [isCallV] at hv <;> try (cases hv; done)
  case call c =>
    obtain ⟨callee, cargs, ts⟩ := c
    simp only at hv
    split at hv
    · simp only [effOp]
    · cases hv
theorem call_pure {g : Operand → PV} {H : Heap} {op : Op} (hv : isCallV op = true) : pureOp T g op = none ∧ readOp T g H op = none := by
  cases op <;> simp only [isCallV] at hv <;> try (cases hv; done)
  case call c =>
    obtain ⟨callee, cargs, ts⟩ := c
    simp only at hv
    split at hv
    · exact ⟨rfl, rfl⟩
    · cases hv
theorem eff_isCall {g : Operand → PV} {H : Heap} {mu : Bool} {op : Op} {f : Nat} {args : List PV} (ha : effOp T mu g H op = .call f args) : isCallV op = true := by
  cases op <;> simp only [effOp] at ha <;> try (cases ha; done)
  case store t a x => unfold storeE at ha; (repeat' split at ha) <;> cases ha
  case box t x => unfold boxE at ha; (repeat' split at ha) <;> cases ha
  case alloc t => unfold boxE at ha; (repeat' split at ha) <;> cases ha
  case buildSlice t n ps => unfold buildSliceE newSlice at ha; (repeat' split at ha) <;> cases ha
  case convert s t x => unfold bytesE newSlice at ha; (repeat' split at ha) <;> cases ha
  case range t x => unfold rangeE at ha; (repeat' split at ha) <;> cases ha
  case next it isStr => unfold nextE at ha; (repeat' split at ha) <;> cases ha
  case makeSlice t l c => unfold makeSliceE newSlice at ha; (repeat' split at ha) <;> cases ha
  case makeMap t r => cases r <;> simp only [makeMapE] at ha <;> cases ha
  case mapUpdate t m k x => unfold putE at ha; (repeat' split at ha) <;> cases ha
  case insert t m k x => unfold putE at ha; (repeat' split at ha) <;> cases ha
  case call c =>
    obtain ⟨callee, cargs, ts⟩ := c
    simp only at ha
    split at ha
    · rfl
    · unfold appendE newSlice at ha; (repeat' split at ha) <;> cases ha
    · unfold copyE at ha; (repeat' split at ha) <;> cases ha
    · unfold delE at ha; (repeat' split at ha) <;> cases ha
    · unfold clearE at ha; (repeat' split at ha) <;> cases ha
    · cases ha

/-! A variable that takes the place of an object kept for it. -/
section
variable {β : Nat → Option Nat} {H : Heap} {w : World}
theorem new_varS (hI : Inv β H w) (t : TypeId) {x : Value} {p : PV} (hx : V β H w x p) (hp : p ≠ .any) (ha : p.cells.all PV.one = true) {i : Nat} (ho : H[i]? = some (some (.cells 0 []))) :
    Does P β H w (do pure (.pointer (some (← newVar t x)))) (.ptr i 1 0) (H.set i (some (.cells 1 p.cells))) := by
  obtain ⟨h1, h2⟩ := hx.cellsOf hp
  have hf : ∀ k, k < p.cells.length → x.cells[k]? = some (x.cells.getD k undef) := fun k hk => by simp [Array.getD, h1, hk]
  have hs := same_push w (.cells x.cells t)
  have hil : i < H.length := Alive.lt ⟨_, ho⟩
  have he := move_ext hI hs ho (b := w.heap.size) (Nat.le_refl _) (fun k hk => push_old w _ hk) (o' := .cells 1 p.cells) (by simp [OB.ver])
  have hi := move_inv hI ho (Nat.le_refl _) (fun k hk => push_old w _ hk) he ⟨fun hn => (by simp [more] at hn), fun b hb => by
    simp only [more, if_true, Option.some.injEq] at hb
    subst hb
    refine ⟨x.cells, t, (0, 0), fun k => x.cells.getD k undef, by simp, by omega, hf, fun k q hq => ?_, fun k hk => (h2 k _ _ (hf k hk) (List.getElem?_eq_getElem hk)).oneCell (List.all_eq_true.mp ha _ (List.getElem_mem hk)), FzOk.nil⟩
    have hk : k < p.cells.length := by
      rcases Nat.lt_or_ge k p.cells.length with h | h
      · exact h
      · rw [List.getElem?_eq_none h] at hq; cases hq
    exact (h2 k _ q (hf k hk) hq).mono he⟩
  refine ⟨_, _, _, rfl, hi, he, .ptr _ _ _ _ ⟨by simpa using hil, fun o h => by rw [List.getElem?_set_self hil] at h; cases h; exact Nat.le_refl _⟩ fun _ => ?_⟩
  simp [more]

theorem new_step {o : Oper} {a : Act} {σ : Env} {n : Nat} (hT : TOk P T) (hI : Inv β H w) (hF : FR n β H w a σ) {cs : List PV} (hn : newCs T (opn σ) o.op = some (true, cs)) {i : Nat} (ho : H[i]? = some (some (.cells 0 []))) :
    YesE P a.eval o β H w (.ptr i 1 0) (H.set i (some (.cells 1 cs))) := by
  obtain ⟨dst, op, ty, pos, after, guard⟩ := o
  have hc : ∀ p, cellsNew p = some (true, cs) → p ≠ .any ∧ p.cells.all PV.one = true ∧ cs = p.cells := fun p h => by
    unfold cellsNew at h
    split at h
    · cases h
    · rename_i hne; simp only [Option.some.injEq, Prod.mk.injEq] at h; exact ⟨hne, h.1, h.2.symm⟩
  cases op <;> simp only [newCs] at hn <;> try (cases hn; done)
  case box t x =>
    obtain ⟨h1, h2, rfl⟩ := hc _ hn
    exact yes_does rfl (new_varS hI t (hF.opn x) h1 h2 ho)
  case alloc t =>
    split at hn
    · rename_i d hd
      obtain ⟨h1, h2, rfl⟩ := hc _ hn
      obtain ⟨z, hz, hzV⟩ := run_zeroValue' (w := w) (β := β) (H := H) (hT t d hd)
      obtain ⟨x, w', β', hr, a1, a2, a3⟩ := new_varS (P := P) hI t hzV h1 h2 ho
      refine yes_does (s := Instr.alloc t true (.tuple #[])) rfl ⟨x, w', β', ?_, a1, a2, a3⟩
      unfold Instr.alloc
      simp only [Sem.run_bind, hz, Result.andThen_ok]
      exact hr
    · cases hn

/-- Objects are forgotten. -/
theorem dead_ext {H' : Heap} (hl : H'.length = H.length) (hd : ∀ (i : Nat) (o : OB), H'[i]? = some (some o) → H[i]? = some (some o)) : Ext β H w β H' w where
  len := by omega
  live := fun j ver hj => by
    refine ⟨⟨by have := hj.1; omega, fun o ho => hj.2 o (hd j o ho)⟩, fun hl => ?_⟩
    obtain ⟨o, ho, hv⟩ := hl
    have h1 := hd j o ho
    refine ⟨⟨o, h1, hv⟩, rfl, ?_, fun _ _ => rfl⟩
    unfold olen; rw [h1, ho]
  imm := fun b hb => ⟨rfl, hb.1, fun j hj => hb.2 j (by obtain ⟨o, ho, h1⟩ := hj; exact ⟨o, hd j o ho, h1⟩)⟩
  os := rfl
  tape := rfl
  output := rfl
  size := Nat.le_refl _
theorem dead_inv {H' : Heap} (hl : H'.length = H.length) (hd : ∀ (i : Nat) (o : OB), H'[i]? = some (some o) → H[i]? = some (some o)) (h : Inv β H w) : Inv β H' w where
  ok := fun j o ho => (h.ok j o (hd j o ho)).mono (dead_ext hl hd) rfl fun _ _ => rfl
  inj := fun j k b hj hk => by
    have up : ∀ j, Alive H' j → Alive H j := fun j hj => by obtain ⟨o, ho⟩ := hj; exact ⟨o, hd j o ho⟩
    exact h.inj j k b (up j hj) (up k hk)
/-- Objects are kept for what is to come. -/
theorem keep_slots (hI : Inv β H w) : ∀ p : Nat, ∃ β', Inv β' (H ++ List.replicate p (some (.cells 0 []))) w ∧ Ext β H w β' (H ++ List.replicate p (some (.cells 0 []))) w
  | 0 => ⟨β, by simpa using hI, by simpa using Ext.refl ..⟩
  | p + 1 => by
    obtain ⟨β1, i1, e1⟩ := keep_slots hI p
    have hs : Same w w := ⟨rfl, rfl, rfl, Nat.le_refl _⟩
    have he := push_ext (o := .cells 0 []) (r := none) i1 hs (fun _ _ => rfl) (by simp)
    have hi := push_inv (o := .cells 0 []) (r := none) i1 (fun _ _ => rfl) (by simp) he ⟨fun _ => rfl, fun b hb => by rw [more_self] at hb; cases hb⟩
    have e : H ++ List.replicate (p + 1) (some (OB.cells 0 [])) = (H ++ List.replicate p (some (OB.cells 0 []))) ++ [some (OB.cells 0 [])] := by rw [List.append_assoc, ← List.replicate_succ']
    rw [e]
    exact ⟨_, hi, e1.trans he⟩
end

/-- What an operation gives, where it leaves the heap, or makes a variable. -/
inductive SStep (P : Program) (T : Nat → Option TD) (all : List Oper) (H : Heap) (i : Nat) (o : Oper) (σ : Env) : PV → Option (List PV) → Prop
  | pass {t : Nat} {want : Bool} (hg : guardOf all o = some (some t, want)) (hb : guardNo σ t want) : SStep P T all H i o σ (.tup []) none
  | pure {v : PV} (hg : guardYes all o σ) (ha : pureOp T (opn σ) o.op = some (true, v)) : SStep P T all H i o σ v none
  | read {v : PV} (hg : guardYes all o σ) (hp : pureOp T (opn σ) o.op = none) (ha : readOp T (opn σ) H o.op = some (true, v)) : SStep P T all H i o σ v none
  | call {f : Nat} {args : List PV} {r : PV} (hg : guardYes all o σ) (ha : effOp T false (opn σ) H o.op = .call f args)
      (hs : ∀ L, SCall P f args (H ++ L) fun r' H' => r' = r ∧ H' = H ++ L) : SStep P T all H i o σ r none
  | new {cs : List PV} (hg : guardYes all o σ) (ha : newCs T (opn σ) o.op = some (true, cs)) : SStep P T all H i o σ (.ptr (H.length + i) 1 0) (some cs)

inductive PlanS (P : Program) (T : Nat → Option TD) (all : List Oper) (H : Heap) (Ψ : Env → Heap → Prop) (p : Nat) : Nat → Env → List (Option (List PV)) → Prop
  | fin {i : Nat} {σ : Env} {fills : List (Option (List PV))} (hi : i = p) (h : Plan P T all Ψ (idxs i (all.drop i)) σ (H ++ fills.map slotO)) : PlanS P T all H Ψ p i σ fills
  | step {i : Nat} {σ : Env} {o : Oper} {v : PV} {f : Option (List PV)} {fills : List (Option (List PV))} (ho : all[i]? = some o) (hn : i < p) (hs : SStep P T all H i o σ v f) (h : PlanS P T all H Ψ p (i + 1) (upd σ o.dst v) (fills ++ [f])) : PlanS P T all H Ψ p i σ fills

theorem plans_steps {all : List Oper} {H : Heap} {Ψ : Env → Heap → Prop} {p : Nat} : ∀ {i : Nat} {σ : Env} {fills : List (Option (List PV))}, PlanS P T all H Ψ p i σ fills → ∀ (vs0 : Nat → PV) (fs0 : Nat → Option (List PV)), fills = (List.range i).map fs0 →
    ∃ (vs : Nat → PV) (fs : Nat → Option (List PV)) (env : Nat → Env), (∀ j, j < i → vs j = vs0 j ∧ fs j = fs0 j) ∧ env i = σ ∧ (∀ j, i ≤ j → j < p → ∃ o, all[j]? = some o ∧ SStep P T all H j o (env j) (vs j) (fs j) ∧ env (j + 1) = upd (env j) o.dst (vs j)) ∧
      i ≤ p ∧ Plan P T all Ψ (idxs (p) (all.drop (p))) (env (p)) (H ++ ((List.range p).map fs).map slotO) := by
  intro i σ fills h
  induction h with
  | @fin i σ fills hi h =>
    intro vs0 fs0 hf
    subst hi
    exact ⟨vs0, fs0, fun _ => σ, fun _ _ => ⟨rfl, rfl⟩, rfl, fun j h1 h2 => absurd h1 (by omega), Nat.le_refl _, by rw [← hf]; exact h⟩
  | @step i σ o v f fills ho hn hs h ih =>
    intro vs0 fs0 hf
    obtain ⟨vs, fs, env, h1, h2, h3, h4, h5⟩ := ih (fun j => if j = i then v else vs0 j) (fun j => if j = i then f else fs0 j) (by
      rw [List.range_succ, List.map_append, hf, List.map_cons, List.map_nil, if_pos rfl]
      congr 1
      exact List.map_congr_left fun j hj => by have := List.mem_range.mp hj; rw [if_neg (by omega)])
    have hvi : vs i = v := by rw [(h1 i (by omega)).1, if_pos rfl]
    have hfi : fs i = f := by rw [(h1 i (by omega)).2, if_pos rfl]
    refine ⟨vs, fs, fun j => if j = i then σ else env j, fun j hj => ⟨by rw [(h1 j (by omega)).1, if_neg (by omega)], by rw [(h1 j (by omega)).2, if_neg (by omega)]⟩, by simp, fun j hj1 hj2 => ?_, by omega, ?_⟩
    · by_cases hji : j = i
      · subst hji
        refine ⟨o, ho, by simpa [hvi, hfi] using hs, ?_⟩
        simp only [if_true, Nat.succ_ne_self, if_false, hvi]
        exact h2
      · obtain ⟨o', a1, a2, a3⟩ := h3 j (by omega) hj2
        refine ⟨o', a1, ?_, ?_⟩
        · simpa [hji] using a2
        · simpa [hji, show j + 1 ≠ i by omega] using a3
    · simpa [show p ≠ i by omega] using h5

/-- What lies where an operation's object is to be. -/
def slotAt (fs : Nat → Option (List PV)) (listed : Array Bool) (j : Nat) : Option OB :=
  match fs j with
  | some cs => if listed.getD j true then some (.cells 1 cs) else some (.cells 0 [])
  | none => some (.cells 0 [])
def slotH (H : Heap) (fs : Nat → Option (List PV)) (p : Nat) (listed : Array Bool) : Heap := H ++ (List.range p).map (slotAt fs listed)

theorem slots_any (hT : TOk P T) {all : List Oper} {p : Nat} {Ψ : Env → Heap → Prop} {Q : Exit → Act → World → Prop} (hok : qOkS T p all.toArray = true) (hQ : ∀ c a w, ¬ Q (.panic c) a w)
    {β0 : Nat → Option Nat} {H0 : Heap} {w0 : World} (hend : ∀ σ H β w a, Ψ σ H → Inv β H w → Ext β0 H0 w0 β H w → FR w0.heap.size β H w a σ → Q .normal a w) {σ0 : Env} {H : Heap} (hp : PlanS P T all H Ψ p 0 σ0 [])
    {β : Nat → Option Nat} {w : World} {a : Act} (hI : Inv β H w) (hE : Ext β0 H0 w0 β H w) (hF : FR w0.heap.size β H w a σ0) : wpAnyM P .any all.toArray Q (qOf T all) all.length (Array.replicate all.length false) a w := by
  simp only [qOkS, Bool.and_eq_true, List.all_eq_true, List.mem_range, decide_eq_true_eq, List.size_toArray] at hok
  obtain ⟨hsel, hops, hple, hchk⟩ := hok
  obtain ⟨vs, fs, env, _, e0, hst, _, hplan⟩ := plans_steps hp (fun _ => .any) (fun _ => none) rfl
  -- each operation of the first part
  have hq : ∀ i o, i < p → all[i]? = some o → quietS T all p i o = true := fun i o hi ho => by
    have := hops i (by have := List.getElem?_eq_some_iff.1 ho; obtain ⟨h, _⟩ := this; exact h)
    simp only [List.getElem?_toArray, ho, hi, if_true] at this
    exact this
  have hge : ∀ i o, p ≤ i → all[i]? = some o → ∀ j, j < p → (edgeB o j = true ∨ reachB all all.length i j = true) ∨ lateB T all.toArray i o j = true := fun i o hi ho j hj => by
    have := hops i (by have := List.getElem?_eq_some_iff.1 ho; obtain ⟨h, _⟩ := this; exact h)
    simp only [List.getElem?_toArray, ho, Nat.not_lt.mpr hi, if_false, List.all_eq_true, List.mem_range, Bool.or_eq_true] at this
    exact this j hj
  have hpart : ∀ i o, i < p → all[i]? = some o → (blindOp T o.op = true ∨ readsOp T o.op = true ∨ isCallV o.op = true ∨ isNew o.op = true) ∧ (∀ e ∈ o.after, Region.binds .any e = true → e.on < i) ∧
      (∀ j want, o.guard = some (j, want) → j < i ∧ edgeB o j = true) ∧ ∀ j, j < p → ∀ t, ((all[j]?).bind (·.dst)) = some t → (j ≠ i → o.dst ≠ some t) ∧ (t ∈ tmpsOf o.op → edgeB o j = true ∧ j < i) := fun i o hi ho => by
    have h := hq i o hi ho
    simp only [quietS, Bool.and_eq_true, Bool.or_eq_true, List.all_eq_true, List.mem_range] at h
    obtain ⟨h1, h2, h3, h4⟩ := h
    refine ⟨by rcases h1 with ((h | h) | h) | h <;> simp [h], fun e he hb => ?_, fun j want hg => ?_, fun j hj t ht => ?_⟩
    · have := Array.all_eq_true_iff_forall_mem.1 h2 e he
      simp only [hb, Bool.not_true, Bool.false_or, decide_eq_true_eq] at this
      exact this
    · rw [hg] at h3
      simp only [Bool.and_eq_true, decide_eq_true_eq] at h3
      exact h3
    · have := h4 j hj
      rw [ht] at this
      simp only [Bool.and_eq_true, Bool.or_eq_true, beq_iff_eq, bne_iff_ne, ne_eq, Bool.not_eq_true', decide_eq_true_eq] at this
      refine ⟨fun hji => this.1.resolve_left hji, fun hm => ?_⟩
      rcases this.2 with h | h
      · have : (tmpsOf o.op).contains t = true := List.contains_iff_mem.mpr hm
        rw [h] at this; cases this
      · exact h
  have hdist : ∀ i o, i < p → all[i]? = some o → ∀ j, j < p → j ≠ i → ∀ t, ((all[j]?).bind (·.dst)) = some t → o.dst ≠ some t := fun i o hi ho j hj hji t ht => ((hpart i o hi ho).2.2.2 j hj t ht).1 hji
  -- the temporaries in the order given
  have hrel : ∀ i, i ≤ p → Rel all p σ0 vs (fun j => j < i) (env i) := by
    intro i
    induction i with
    | zero => intro _; rw [e0]; exact ⟨rfl, fun t => ⟨fun j _ h => absurd h (by omega), fun _ => rfl⟩⟩
    | succ i ih =>
      intro hi
      obtain ⟨o, ho, _, he⟩ := hst i (Nat.zero_le _) (by omega)
      rw [he]
      exact (ih (by omega)).upd ho (by omega) (hdist i o (by omega) ho) fun j _ => by omega
  have key : ∀ (k : Nat) (listed : Array Bool) (σ : Env) (β : Nat → Option Nat) (w : World) (a : Act), listed.size = all.length → (∀ j, p ≤ j → j < all.length → listed.getD j true = false) →
      (∀ j o, all[j]? = some o → listed.getD j true = true → ∀ e ∈ o.after, Region.binds .any e = true → listed.getD e.on false = true) →
      ((List.range p).filter fun j => !listed.getD j true).length = k → Rel all p σ0 vs (fun j => listed.getD j true = true) σ → Inv β (slotH H fs p listed) w → Ext β0 H0 w0 β (slotH H fs p listed) w → FR w0.heap.size β (slotH H fs p listed) w a σ →
      wpAnyM P .any all.toArray Q (qOf T all) (k + (all.length - p)) listed a w := by
    intro k
    induction k with
    | zero =>
      intro listed σ β w a hsz hhi _ hk hR hI hE hF
      have hall : ∀ j, j < p → listed.getD j true = true := fun j hj => by
        have hnil := List.eq_nil_of_length_eq_zero hk
        rw [List.filter_eq_nil_iff] at hnil
        simpa using hnil j (List.mem_range.mpr hj)
      have hl : listed = marks p all.length := by
        apply Array.ext
        · simp [marks, hsz]
        · intro j h1 h2
          have hj : j < all.length := by omega
          have e1 : (marks p all.length)[j] = decide (j < p) := by simp [marks]
          rw [e1]
          by_cases hjp : j < p
          · have := hall j hjp
            simp only [Array.getD, h1, dif_pos] at this
            simpa [hjp] using this
          · have := hhi j (by omega) hj
            simp only [Array.getD, h1, dif_pos] at this
            simpa [hjp] using this
      have hσ : σ = env p := by
        apply List.ext_getElem?
        intro t
        have hRp := hrel p (Nat.le_refl _)
        rcases Nat.lt_or_ge t σ0.length with ht | ht
        · by_cases he : ∃ j, j < p ∧ ((all[j]?).bind (·.dst)) = some t
          · obtain ⟨j, hj, hjt⟩ := he
            rw [(hR.2 t).1 j hj (hall j hj) hjt ht, (hRp.2 t).1 j hj hj hjt ht]
          · rw [(hR.2 t).2 fun j hj _ hjt => he ⟨j, hj, hjt⟩, (hRp.2 t).2 fun j hj _ hjt => he ⟨j, hj, hjt⟩]
        · rw [List.getElem?_eq_none (by rw [hR.1]; exact ht), List.getElem?_eq_none (by rw [hRp.1]; exact ht)]
      have hlen : (idxs p (all.drop p)).length = all.length - p := by
        have : ∀ (l : List Oper) (i : Nat), (idxs i l).length = l.length := by
          intro l
          induction l with
          | nil => intro i; rfl
          | cons o l ih => intro i; simp [idxs, ih]
        rw [this, List.length_drop]
      subst hσ
      have hlen2 : (H ++ ((List.range p).map fs).map slotO).length = (slotH H fs p listed).length := by simp [slotH]
      have hd : ∀ (i : Nat) (o : OB), (H ++ ((List.range p).map fs).map slotO)[i]? = some (some o) → (slotH H fs p listed)[i]? = some (some o) := fun i o h => by
        unfold slotH
        rcases Nat.lt_or_ge i H.length with hi | hi
        · rw [List.getElem?_append_left hi] at h ⊢; exact h
        · rw [List.getElem?_append_right hi] at h ⊢
          simp only [List.getElem?_map, Option.map_eq_some_iff] at h ⊢
          obtain ⟨x, ⟨j, hj, rfl⟩, hx⟩ := h
          refine ⟨j, hj, ?_⟩
          have hjp : j < p := by
            have := List.mem_of_getElem? hj
            exact List.mem_range.mp this
          unfold slotAt
          cases hf : fs j with
          | none => rw [hf] at hx; cases hx
          | some cs => rw [hf] at hx; simp only [slotO] at hx; simp only [hall j hjp, if_true]; exact hx
      rw [hl, Nat.zero_add, ← hlen]
      exact plan_any hT hsel hQ hend hplan _ β w a hchk (dead_inv hlen2 hd hI) (hE.trans (dead_ext hlen2 hd)) (hF.mono (dead_ext hlen2 hd))
    | succ k ih =>
      intro listed σ β w a hsz hhi hcl hk hR hI hE hF
      have hex : ∃ j, j < p ∧ listed.getD j true = false ∧ ∀ i, i < j → listed.getD i true = true := by
        have hne : ∃ j, j < p ∧ listed.getD j true = false := by
          have : (List.range p).filter (fun j => !listed.getD j true) ≠ [] := fun h => by rw [h] at hk; simp at hk
          obtain ⟨j, hj⟩ := List.exists_mem_of_ne_nil _ this
          simp only [List.mem_filter, List.mem_range, Bool.not_eq_true'] at hj
          exact ⟨j, hj.1, hj.2⟩
        obtain ⟨j, hj⟩ := hne
        induction j using Nat.strongRecOn with
        | _ j ihj =>
          by_cases hm : ∃ i, i < j ∧ listed.getD i true = false
          · obtain ⟨i, hij, hi⟩ := hm
            exact ihj i hij ⟨by omega, hi⟩
          · exact ⟨j, hj.1, hj.2, fun i hij => by
              cases hg : listed.getD i true with
              | true => rfl
              | false => exact absurd ⟨i, hij, hg⟩ hm⟩
      have gd : ∀ j b, j < all.length → listed.getD j b = listed.getD j true := fun j b hj => by
        simp [Array.getD, hsz, hj]
      rw [show k + 1 + (all.length - p) = (k + (all.length - p)) + 1 by omega]
      have hsome : Region.ready .any all.toArray listed ≠ [] := fun hnil => by
        -- something is ready
        obtain ⟨j, hj, hju, hjl⟩ := hex
        obtain ⟨o, ho, _, _⟩ := hst j (Nat.zero_le _) hj
        have hm : j ∈ Region.ready .any all.toArray listed := mem_ready.2 ⟨hju, o, by simpa using ho, fun e he hb => by
          have hlt := (hpart j o hj ho).2.1 e he hb
          have hjn : j < all.length := by have := List.getElem?_eq_some_iff.1 ho; obtain ⟨h, _⟩ := this; exact h
          rw [gd _ _ (by omega)]
          exact hjl _ hlt⟩
        rw [hnil] at hm
        cases hm
      have common : ∀ i o, i ∈ Region.ready .any all.toArray listed → i < p → all[i]? = some o →
          wpOp P all.toArray Q i (fun a' w' => (qOf T all i = true → w'.heap = w.heap) ∧ wpAnyM P .any all.toArray Q (qOf T all) (k + (all.length - p)) (listed.setIfInBounds i true) a' w') a w ∧
          (blindOp T o.op = true → ∃ x, YieldsIf P all.toArray (fun _ => True) o x a ∧ wpAnyM P .any all.toArray Q (qOf T all) (k + (all.length - p)) (listed.setIfInBounds i true) (a.put o.dst x) w) := fun i o hi hip ho' => by
        obtain ⟨hiu, o9, ho9, hall⟩ := mem_ready.1 hi
        have ho : all.toArray[i]? = some o := by simpa using ho'
        obtain rfl : o = o9 := Option.some.inj (ho.symm.trans ho9)
        have hin : i < all.length := by have := List.getElem?_eq_some_iff.1 ho'; obtain ⟨h, _⟩ := this; exact h
        obtain ⟨hkind, hafter, hguard, hdst⟩ := hpart i o hip ho'
        obtain ⟨o2, ho2, hstep, _⟩ := hst i (Nat.zero_le _) hip
        obtain rfl : o = o2 := Option.some.inj (ho'.symm.trans ho2)
        -- what it looks at is as in the order given
        have hag : ∀ t ∈ tmpsOf o.op, (env i).getD t .any = σ.getD t .any := fun t ht => by
          refine (hrel i (by omega)).agree hR fun j hj hjt => ?_
          obtain ⟨he, hji⟩ := (hdst j hj t hjt).2 ht
          have := edge_listed he hall
          rw [gd _ _ (by omega)] at this
          exact ⟨hji, this⟩
        have hopn := opn_agree hag
        have hgt : ∀ t want, guardOf all o = some (some t, want) → (env i).getD t .any = σ.getD t .any := fun t want hg => by
          unfold guardOf at hg
          cases hgd : o.guard with
          | none => rw [hgd] at hg; cases hg
          | some jw =>
            obtain ⟨j0, want0⟩ := jw
            rw [hgd] at hg
            simp only [Option.some.injEq, Prod.mk.injEq] at hg
            obtain ⟨hj0, he0⟩ := hguard j0 want0 hgd
            have hl0 := edge_listed he0 hall
            rw [gd _ _ (by omega)] at hl0
            refine (hrel i (by omega)).agree hR fun j hj hjt => ?_
            by_cases hjj : j = j0
            · subst hjj; exact ⟨hj0, hl0⟩
            · have h1 := (hpart j0 _ (by omega) (List.getElem?_eq_getElem (show j0 < all.length by omega))).2.2.2 j hj t hjt
              have h2 := h1.1 hjj
              rw [List.getElem?_eq_getElem (show j0 < all.length by omega)] at hg
              exact absurd hg.1 h2
        have hnext : ∀ β' w' a', Inv β' (slotH H fs p (listed.setIfInBounds i true)) w' → Ext β0 H0 w0 β' (slotH H fs p (listed.setIfInBounds i true)) w' → FR w0.heap.size β' (slotH H fs p (listed.setIfInBounds i true)) w' a' (SL.upd σ o.dst (vs i)) → wpAnyM P .any all.toArray Q (qOf T all) (k + (all.length - p)) (listed.setIfInBounds i true) a' w' := fun β' w' a' h1 h2 h3 => by
          have gs : ∀ j, (listed.setIfInBounds i true).getD j true = true ↔ (listed.getD j true = true ∨ j = i) := fun j => by
            by_cases hji : j = i
            · subst hji
              simp [Array.getD, hsz, hin]
            · rw [getD_set_ne true (fun e => hji e.symm)]
              simp [hji]
          refine ih _ _ β' w' a' (by simpa using hsz) (fun j hj hjn => ?_) (fun j oj hoj hjl e he hbe => ?_) ?_ (hR.upd ho' hip (hdist i o hip ho') fun j _ => gs j) h1 h2 h3
          · rw [getD_set_ne true (by omega)]; exact hhi j hj hjn
          · have hold : listed.getD e.on false = true := by
              rcases (gs j).mp hjl with h | rfl
              · exact hcl j oj hoj h e he hbe
              · obtain rfl : oj = o := Option.some.inj (hoj.symm.trans ho')
                exact hall e he hbe
            by_cases hei : e.on = i
            · rw [hei]; simp [Array.getD, hsz, hin]
            · rw [getD_set_ne false (fun h => hei h.symm)]; exact hold
          · have hlen : ((List.range p).filter fun j => !(listed.setIfInBounds i true).getD j true).length + 1 = ((List.range p).filter fun j => !listed.getD j true).length := by
              have hsplit : ∀ (l : List Nat), l.Nodup → i ∈ l → (l.filter fun j => !(listed.setIfInBounds i true).getD j true).length + 1 = (l.filter fun j => !listed.getD j true).length := by
                intro l
                induction l with
                | nil => intro _ h; cases h
                | cons x l ihl =>
                  intro hnd hm
                  rw [List.nodup_cons] at hnd
                  by_cases hx : x = i
                  · subst hx
                    have h1 : (listed.setIfInBounds x true).getD x true = true := (gs x).mpr (.inr rfl)
                    have hcong : (l.filter fun j => !(listed.setIfInBounds x true).getD j true) = l.filter fun j => !listed.getD j true := List.filter_congr fun j hj => by
                      have hne : x ≠ j := fun e => by subst e; exact hnd.1 hj
                      rw [getD_set_ne true hne]
                    rw [List.filter_cons, List.filter_cons, h1, hiu, hcong]
                    simp
                  · have hm' : i ∈ l := by
                      rcases List.mem_cons.mp hm with h | h
                      · exact absurd h.symm hx
                      · exact h
                    have h2 := ihl hnd.2 hm'
                    rw [List.filter_cons, List.filter_cons, getD_set_ne true (fun e => hx e.symm)]
                    split <;> (try simp only [List.length_cons]) <;> omega
              exact hsplit (List.range p) List.nodup_range (List.mem_range.mpr hip)
            omega
        have hget : all.toArray[i]? = some o := by simpa using ho'
        have hsame : fs i = none → slotH H fs p (listed.setIfInBounds i true) = slotH H fs p listed := fun hf => by
          unfold slotH
          congr 1
          refine List.map_congr_left fun j _ => ?_
          unfold slotAt
          by_cases hji : j = i
          · subst hji; rw [hf]
          · rw [getD_set_ne true (fun e => hji e.symm)]
        have hset : ∀ cs, fs i = some cs → slotH H fs p (listed.setIfInBounds i true) = (slotH H fs p listed).set (H.length + i) (some (.cells 1 cs)) := fun cs hf => by
          unfold slotH
          rw [List.set_append_right _ _ (by omega), Nat.add_sub_cancel_left]
          congr 1
          apply List.ext_getElem?
          intro j
          by_cases hji : j = i
          · subst hji
            rw [List.getElem?_set_self (by simpa using hip)]
            simp [hip, slotAt, hf, Array.getD, hsz, hin]
          · rw [List.getElem?_set_ne (fun e => hji e.symm)]
            simp only [List.getElem?_map]
            rcases Nat.lt_or_ge j p with hjp | hjp
            · simp only [List.getElem?_range hjp, Option.map_some]
              unfold slotAt
              rw [getD_set_ne true (fun e => hji e.symm)]
            · simp [List.getElem?_eq_none (show (List.range p).length ≤ j by simpa using hjp)]
        have hslot : ∀ cs, fs i = some cs → (slotH H fs p listed)[H.length + i]? = some (some (.cells 0 [])) := fun cs hf => by
          unfold slotH
          rw [List.getElem?_append_right (by omega), Nat.add_sub_cancel_left]
          simp [hip, slotAt, hf, hiu]
        refine ⟨?_, fun hbl => ?_⟩
        rotate_left
        · -- taken first
          have hpu := blind_pure hbl (opn (env i))
          have hnone : fs i = none ∧ ((∃ t want, guardOf all o = some (some t, want) ∧ guardNo (env i) t want ∧ vs i = .tup []) ∨ (guardYes all o (env i) ∧ pureOp T (opn (env i)) o.op = some (true, vs i))) := by
            obtain ⟨r, hr⟩ := hpu
            generalize vs i = vi at hstep
            generalize fs i = fi at hstep
            cases hstep with
            | @pass t want hg hb => exact ⟨rfl, .inl ⟨t, want, hg, hb, rfl⟩⟩
            | pure hg ha => exact ⟨rfl, .inr ⟨hg, ha⟩⟩
            | read hg hpn ha => rw [hr] at hpn; cases hpn
            | @call f args r2 hg ha hs => rw [(call_pure (H := H) (eff_isCall ha)).1] at hr; cases hr
            | @new cs hg ha =>
              rw [(new_not_blind ha).1] at hbl
              cases hbl
          obtain ⟨hfn, hcase⟩ := hnone
          rw [hsame hfn] at hnext
          rcases hcase with ⟨t, want, hg, hb, hv⟩ | ⟨hg, ha⟩
          · have hb' : guardNo σ t want := by
              unfold guardNo at hb ⊢
              rwa [hgt t want hg] at hb
            have hw := guard_no hF hg hb'
            rw [hv] at hnext
            exact ⟨undef, .inr ⟨hw, rfl⟩, hnext β w _ hI hE (hF.put o.dst V.skip)⟩
          · have hg' : guardYes all o σ := by
              rcases hg with h | ⟨t, want, h1, h2⟩
              · exact .inl h
              · exact .inr ⟨t, want, h1, by rw [← hgt t want h1]; exact h2⟩
            rw [pureOp_congr hopn] at ha
            obtain ⟨x, hx, hv⟩ := pure_ok hT hF.opn ha rfl
            exact ⟨x, .inl ⟨guard_yes hF hg', fun w2 _ => hx w2⟩, hnext β w _ hI hE (hF.put o.dst hv)⟩
        unfold wpOp
        simp only [hget]
        generalize hvi : vs i = vi at *
        generalize hfi : fs i = fi at *
        cases hstep with
        | @pass t want hg hb =>
          rw [hsame rfl] at hnext
          have hb' : guardNo σ t want := by
            unfold guardNo at hb ⊢
            rwa [hgt t want hg] at hb
          have hw := guard_no hF hg hb'
          rw [if_neg (by rw [hw]; simp)]
          exact ⟨fun _ => by trivial, hnext β w _ hI hE (hF.put o.dst V.skip)⟩
        | pure hg ha =>
          rw [hsame rfl] at hnext
          have hg' : guardYes all o σ := by
            rcases hg with h | ⟨t, want, h1, h2⟩
            · exact .inl h
            · exact .inr ⟨t, want, h1, by rw [← hgt t want h1]; exact h2⟩
          rw [if_pos (guard_yes hF hg')]
          rw [pureOp_congr hopn] at ha
          obtain ⟨x, hx, hv⟩ := pure_ok hT hF.opn ha rfl
          refine .inl ?_
          unfold Oper.wp
          rw [hx w]
          exact ⟨fun _ => rfl, hnext β w _ hI hE (hF.put o.dst hv)⟩
        | read hg hpn ha =>
          rw [hsame rfl] at hnext
          have hg' : guardYes all o σ := by
            rcases hg with h | ⟨t, want, h1, h2⟩
            · exact .inl h
            · exact .inr ⟨t, want, h1, by rw [← hgt t want h1]; exact h2⟩
          rw [if_pos (guard_yes hF hg')]
          rw [readOp_congr hopn] at ha
          obtain ⟨x, hx, hv⟩ := read_ok hT hI hF.opn (readOp_app ha) rfl
          refine .inl ?_
          unfold Oper.wp
          rw [hx w rfl]
          exact ⟨fun _ => rfl, hnext β w _ hI hE (hF.put o.dst hv)⟩
        | @call f args r hg ha hs =>
          rw [hsame rfl] at hnext
          have hg' : guardYes all o σ := by
            rcases hg with h | ⟨t, want, h1, h2⟩
            · exact .inl h
            · exact .inr ⟨t, want, h1, by rw [← hgt t want h1]; exact h2⟩
          rw [if_pos (guard_yes hF hg')]
          have hcv : isCallV o.op = true := eff_isCall ha
          have hqf : qOf T all i = false := by
            unfold qOf
            rw [ho']
            simp only [Bool.or_eq_false_iff]
            constructor
            · cases hb : blindOp T o.op with
              | false => rfl
              | true => obtain ⟨r', hr'⟩ := blind_pure hb (opn σ); rw [(call_pure (H := H) hcv).1] at hr'; cases hr'
            · cases hb : readsOp T o.op with
              | false => rfl
              | true => obtain ⟨_, r', hr'⟩ := reads_read hb (opn σ) H; rw [(call_pure hcv).2] at hr'; cases hr'
          have ha' := effCall_congr hopn ha hcv
          have haop : aop T false (opn σ) (slotH H fs p listed) o.op = .call f args := by unfold aop; rw [(call_pure (H := slotH H fs p listed) hcv).1, (call_pure hcv).2]; rw [call_heap hcv]; exact ha'
          refine .inl (aop_call hI hF haop (hs _) fun v r' w' β' H' h1 h2 h3 hK => ⟨fun h => absurd h (by rw [hqf]; simp), by
            obtain ⟨rfl, rfl⟩ := hK
            exact hnext β' w' _ h1 (hE.trans h2) ((hF.mono h2).put o.dst h3)⟩)
        | @new cs hg ha =>
          rw [hset cs rfl] at hnext
          have hg' : guardYes all o σ := by
            rcases hg with h | ⟨t, want, h1, h2⟩
            · exact .inl h
            · exact .inr ⟨t, want, h1, by rw [← hgt t want h1]; exact h2⟩
          rw [if_pos (guard_yes hF hg')]
          have hqf : qOf T all i = false := by
            unfold qOf
            rw [ho']
            simp only [(new_not_blind ha).1, (new_not_blind ha).2, Bool.or_self]
          rw [newCs_congr hopn] at ha
          exact .inl (op_step (new_step hT hI hF ha (hslot cs rfl)) fun x w' β' h1 h2 h3 => ⟨fun h => absurd h (by rw [hqf]; simp), hnext β' w' _ h1 (hE.trans h2) ((hF.mono h2).put o.dst h3)⟩)
      by_cases hA : ∃ j oj, j < p ∧ all[j]? = some oj ∧ blindOp T oj.op = true ∧ freeS all.toArray j oj = true ∧ j ∈ Region.ready .any all.toArray listed
      · obtain ⟨j, oj, hj, hoj, hbl, hfr, hrd⟩ := hA
        obtain ⟨x, hy, hrec⟩ := (common j oj hrd hj hoj).2 hbl
        have hoj' : all.toArray[j]? = some oj := by simpa using hoj
        refine wpAnyM_first (fun _ => True) hoj' (Region.noSelect_spec hsel) (fun c a w h => absurd h (hQ _ _ _)) (fun _ _ _ _ => trivial) _ listed a w (fun m om hm hne hun hno => ⟨?_, .inr fun _ => trivial⟩) hrd hy trivial hrec
        have h1 := List.all_eq_true.mp hfr m (List.mem_range.mpr (Array.getElem?_eq_some_iff.1 hm).1)
        simp only [hm, Bool.or_eq_true, beq_iff_eq, hne, false_or] at h1
        rcases h1 with h1 | h1 | h1
        · obtain ⟨_, o5, ho5, hall5⟩ := mem_ready.1 hrd
          obtain rfl : oj = o5 := Option.some.inj (hoj'.symm.trans ho5)
          have := edge_listed h1 hall5
          have hml : m < all.length := by have := (Array.getElem?_eq_some_iff.1 hm).1; simpa using this
          rw [gd _ _ hml, hun] at this
          cases this
        · obtain ⟨e, he, hbb⟩ := Array.any_eq_true'.1 h1
          simp only [Bool.and_eq_true, beq_iff_eq] at hbb
          exact absurd hbb.2 (hno e he hbb.1)
        · exact h1
      · refine ⟨fun hnil => absurd hnil hsome, fun i hi => ?_⟩
        obtain ⟨hiu, o, ho, hall⟩ := mem_ready.1 hi
        have ho' : all[i]? = some o := by simpa using ho
        refine (common i o hi ?_ ho').1
        rcases Nat.lt_or_ge i p with h | h
        · exact h
        · exfalso
          obtain ⟨j, hj, hju, _⟩ := hex
          have reach : ∀ m, m < all.length → (edgeB o m = true ∨ reachB all all.length i m = true) → listed.getD m true = true := fun m hm h' => by
            have := h'.elim (fun h' => edge_listed h' hall) fun h' => reach_listed hcl all.length i o ho' hall h'
            rwa [gd _ _ hm] at this
          rcases hge i o h ho' j hj with h' | h'
          · rw [reach j (by omega) h'] at hju; cases hju
          · unfold lateB at h'
            cases hoj : all.toArray[j]? with
            | none => rw [hoj] at h'; cases h'
            | some oj =>
              rw [hoj] at h'
              simp only [Bool.and_eq_true] at h'
              obtain ⟨h1, h2, h3⟩ := h'
              have hoj' : all[j]? = some oj := by simpa using hoj
              refine hA ⟨j, oj, hj, hoj', h1, h2, mem_ready.2 ⟨hju, oj, hoj, fun e he hb => ?_⟩⟩
              have := Array.all_eq_true_iff_forall_mem.1 h3 e he
              simp only [hb, Bool.not_true, Bool.false_or, Bool.or_eq_true] at this
              have hlt := (hpart j oj hj hoj').2.1 e he hb
              rw [gd _ _ (by omega)]
              exact reach e.on (by omega) (by simpa using this)
  have hcount : ((List.range p).filter fun j => !(Array.replicate all.length false).getD j true).length = p := by
    have : (List.range p).filter (fun j => !(Array.replicate all.length false).getD j true) = List.range p := by
      apply List.filter_eq_self.mpr
      intro j hj
      have := List.mem_range.mp hj
      simp [Array.getD, show j < all.length by omega]
    rw [this, List.length_range]
  obtain ⟨β1, hI1, hE1⟩ := keep_slots hI p
  have hst0 : slotH H fs p (Array.replicate all.length false) = H ++ List.replicate p (some (OB.cells 0 [])) := by
    unfold slotH
    congr 1
    apply List.ext_getElem?
    intro j
    rcases Nat.lt_or_ge j p with hj | hj
    · rw [List.getElem?_map, List.getElem?_range hj, List.getElem?_replicate, if_pos hj, Option.map_some]
      unfold slotAt
      have : (Array.replicate all.length false).getD j true = false := by simp [Array.getD, show j < all.length by omega]
      cases fs j <;> simp [this]
    · rw [List.getElem?_eq_none (by simpa using hj), List.getElem?_eq_none (by simpa using hj)]
  have := key p (Array.replicate all.length false) σ0 β1 w a (by simp) (fun j _ hj => by simp [Array.getD, hj]) (fun j o hj h => by
      have hlt : j < all.length := (List.getElem?_eq_some_iff.1 hj).1
      simp [Array.getD, hlt] at h) hcount
    ⟨rfl, fun t => ⟨fun j hj h => (by simp [Array.getD, show j < all.length by omega] at h), fun _ => rfl⟩⟩ (by rw [hst0]; exact hI1) (by rw [hst0]; exact hE.trans hE1) (by rw [hst0]; exact hF.mono hE1)
  rwa [show p + (all.length - p) = all.length by omega] at this

end
end Go.Proofs.SL

/-
  SL: the evaluator is sound. No claim by itself.
-/
namespace Go.Proofs.SL
open Go
set_option linter.unusedSimpArgs false
set_option linter.unusedVariables false

section
variable {P : Program} {T : Nat → Option TD}

/-- All regions whose order is drawn have an order that will do. -/
def codeOk (T : Nat → Option TD) (ord : Nat → List Nat) : Code → Bool
  | .region id ops true => ops.toList.all (fun o => !isDefer o.op) && match ord id with
    | [] => qOk T (firstSet ops.toList) ops
    | i :: l => if 2000 ≤ i then qOkS T (i - 2000) ops else if 1000 ≤ i then qOk T (i - 1000) ops else drawOk T ops (i :: l)
  | .seq a b => codeOk T ord a && codeOk T ord b
  | .cond _ a b => codeOk T ord a && codeOk T ord b
  | .block _ c => codeOk T ord c
  | .loop c => codeOk T ord c
  | .scope c => codeOk T ord c
  | .rangeFunc _ _ a c => codeOk T ord a && codeOk T ord c
  | _ => true
/-- Whether the code is one that may stand in a round of a range over a function. -/
def inR (ord : Nat → List Nat) : Bool := ord 1000000 == [1]


def ItOk (T : Nat → Option TD) (ord : Nat → List Nat) : It → Prop
  | .code c => codeOk T ord c = true
  | .loop c => codeOk T ord c = true
  | .ops all rest => ∃ pre, all = pre ++ rest
  | .op all o rest => ∃ pre, all = pre ++ o :: rest
  | _ => True

/-- An item that may stand behind another one. -/
def Calm : It → Prop
  | .code _ | .blk _ | .loop _ => True
  | _ => False

def ItsOk (T : Nat → Option TD) (ord : Nat → List Nat) (its : List It) : Prop := (∀ it ∈ its, ItOk T ord it) ∧ ∀ it ∈ its.tail, Calm it

/-- The items run; in the midst of a region whose order is drawn: what is left of it may be carried out in the order given. -/
def Runs (P : Program) (T : Nat → Option TD) (ord : Nat → List Nat) (H0 : Heap) (its : List It) (σ : Env) (H : Heap) (Φ : AEx → Env → Heap → Prop) : Prop :=
  ItsOk T ord its → match its with
    | .dr all l :: k => Plan P T all (fun σ' H' => Run P (inR ord) H0 k σ' H' Φ) l σ H
    | .dop all i o l :: k => all[i]? = some o → guardYes all o σ → Plan P T all (fun σ' H' => Run P (inR ord) H0 k σ' H' Φ) (i :: l) σ H
    | .dq all i rest :: k => all.drop i = rest → i ≤ all.length → (∀ j o, j < i → all[j]? = some o → isSet o.op = false) → PlanQ P T all H (fun σ' H' => Run P (inR ord) H0 k σ' H' Φ) (firstSet all) i σ
    | .dqop all i o rest :: k => all.drop i = o :: rest → (∀ j o, j < i + 1 → all[j]? = some o → isSet o.op = false) → guardYes all o σ → PlanQ P T all H (fun σ' H' => Run P (inR ord) H0 k σ' H' Φ) (firstSet all) i σ
    | .dqs p all i rest fills :: k => all.drop i = rest → i ≤ p → p ≤ all.length → fills.length = i → PlanS P T all H (fun σ' H' => Run P (inR ord) H0 k σ' H' Φ) p i σ fills
    | .dqsop p all i o rest fills :: k => all.drop i = o :: rest → i < p → p ≤ all.length → fills.length = i → guardYes all o σ → PlanS P T all H (fun σ' H' => Run P (inR ord) H0 k σ' H' Φ) p i σ fills
    | .dqp p all i rest :: k => all.drop i = rest → i ≤ p → p ≤ all.length → PlanQ P T all H (fun σ' H' => Run P (inR ord) H0 k σ' H' Φ) p i σ
    | .dqpop p all i o rest :: k => all.drop i = o :: rest → i < p → p ≤ all.length → guardYes all o σ → PlanQ P T all H (fun σ' H' => Run P (inR ord) H0 k σ' H' Φ) p i σ
    | its => Run P (inR ord) H0 its σ H Φ

def ESem (P : Program) (T : Nat → Option TD) (ord : Nat → List Nat) (H0 : Heap) (Φ : AEx → Env → Heap → Prop) : Ev → Prop
  | .need b e => b = true ∧ ESem P T ord H0 Φ e
  | .call f args dst its σ H => SCall P f args H fun r H' => Runs P T ord H0 its (upd σ dst r) H' Φ
  | .callq f args dst its σ H => ∃ r, SCall P f args H (fun r' H' => r' = r ∧ H' = H) ∧ Runs P T ord H0 its (upd σ dst r) H Φ
  | .callqs f args dst its σ H => ∃ r, (∀ L, SCall P f args (H ++ L) (fun r' H' => r' = r ∧ H' = H ++ L)) ∧ Runs P T ord H0 its (upd σ dst r) H Φ
  | .loop c its σ H => Runs P T ord H0 (.loop c :: its) σ H Φ
  | .done x σ H => Φ x σ H
  | .more its σ H => Runs P T ord H0 its σ H Φ
  | .draw Q dst its σ => ∀ v H', Q v H' → Runs P T ord H0 its (upd σ dst v) H' Φ
  | .ycall i args dst its σ H => YCall P i args H fun r H' => Runs P T ord H0 its (upd σ dst r) H' Φ
  | .stuck => False

theorem set_same {σ : Env} {t : Nat} {p : PV} (h : σ.getD t .any = p) (hp : p ≠ .any) : σ.set t p = σ := by
  have hlt : t < σ.length := by
    rcases Nat.lt_or_ge t σ.length with h' | h'
    · exact h'
    · rw [List.getD_eq_getElem?_getD, List.getElem?_eq_none h'] at h; exact absurd h.symm hp
  apply List.ext_getElem?
  intro i
  by_cases e : i = t
  · subst e
    rw [List.getElem?_set_self hlt, List.getElem?_eq_getElem hlt]
    simp [List.getD_eq_getElem?_getD, hlt] at h
    rw [h]
  · rw [List.getElem?_set_ne (Ne.symm e)]

variable {mu : Nat → Bool} {ord : Nat → List Nat} {H0 : Heap} {Φ : AEx → Env → Heap → Prop}

theorem ESem_ite {c : Prop} [Decidable c] {e1 e2 : Ev} (h : ESem P T ord H0 Φ (if c then e1 else e2)) : (c → ESem P T ord H0 Φ e1) ∧ (¬ c → ESem P T ord H0 Φ e2) := by
  constructor
  · intro hc; rwa [if_pos hc] at h
  · intro hc; rwa [if_neg hc] at h

theorem runs_calm {its : List It} {σ : Env} {H : Heap} (hc : ∀ it ∈ its, Calm it) (hok : ItsOk T ord its) (h : Runs P T ord H0 its σ H Φ) : Run P (inR ord) H0 its σ H Φ := by
  have h := h hok
  cases its with
  | nil => exact h
  | cons it k =>
    have := hc it (by simp)
    cases it <;> simp only [Calm] at this <;> exact h

theorem range'_cons (s n : Nat) : List.range' s (n + 1) = s :: List.range' (s + 1) n := rfl

/-- The evaluator is sound. -/
theorem eval_ok (hT : TOk P T) (hP : P.follows .mixedOrders = true) : ∀ (n : Nat) (its : List It) (σ : Env) (H : Heap), ESem P T ord H0 Φ (eval T mu ord n its σ H) → Runs P T ord H0 its σ H Φ := by
  intro n
  induction n with
  | zero => intro its σ H h; exact h
  | succ n ih =>
    intro its σ H h hok
    cases its with
    | nil =>
      intro β0 w0 β w a hI hE hF r hro
      simp only [eval, ESem] at h
      exact ⟨.normal, σ, H, β, trivial, hI, hE, hF, h⟩
    | cons it k =>
      have hcalm : ∀ x ∈ k, Calm x := fun x hx => hok.2 x hx
      have hkk : ItsOk T ord k := ⟨fun x hx => hok.1 x (List.mem_cons_of_mem _ hx), fun x hx => hcalm x (List.mem_of_mem_tail hx)⟩
      have hit := hok.1 it (by simp)
      have hcons : ∀ {it' : It}, ItOk T ord it' → ItsOk T ord (it' :: k) := fun {it'} hi => ⟨fun x hx => by
        rcases List.mem_cons.mp hx with rfl | hx
        · exact hi
        · exact hkk.1 x hx, hcalm⟩
      -- what goes on behind: as it runs
      have next : ∀ {σ' : Env} {H' : Heap}, ESem P T ord H0 Φ (eval T mu ord n k σ' H') → Run P (inR ord) H0 k σ' H' Φ := fun hh => runs_calm hcalm hkk (ih _ _ _ hh)
      cases it with
      | blk id =>
        simp only [eval] at h
        intro β0 w0 β w a hI hE hF r hro
        exact next h β0 w0 β w a hI hE hF r hro
      | loop c =>
        simp only [eval, ESem] at h
        exact h hok
      | ops all rest =>
        obtain ⟨pre, hpre⟩ := hit
        cases rest with
        | nil =>
          simp only [eval] at h
          intro β0 w0 β w a hI hE hF r hro
          exact ⟨pre, hpre, next h β0 w0 β w a hI hE hF r hro⟩
        | cons o rest =>
          have hrest : ItOk T ord (.ops all rest) := ⟨pre ++ [o], by rw [hpre]; simp⟩
          have hopi : ItOk T ord (.op all o rest) := ⟨pre, hpre⟩
          have hget : all.toArray[pre.length]? = some o := by rw [List.getElem?_toArray, hpre]; simp
          -- the operation is carried out
          have run1 : Run P (inR ord) H0 (.op all o rest :: k) σ H Φ → guardYes all o σ → Run P (inR ord) H0 (.ops all (o :: rest) :: k) σ H Φ := fun hr hg β0 w0 β w a hI hE hF r hro => by
            obtain ⟨pre', hpre', hwp⟩ := hr β0 w0 β w a hI hE hF r hro
            have hl : pre'.length = pre.length := by
              have := congrArg List.length (hpre'.symm.trans hpre)
              simp at this
              omega
            refine ⟨pre, hpre, ?_⟩
            rw [List.length_cons, range'_cons]
            simp only [wpOpsIn, hget, guard_yes hF hg, if_true]
            rw [hl] at hwp
            exact hwp
          -- it is passed by
          have run0 : Run P (inR ord) H0 (.ops all rest :: k) (upd σ o.dst (.tup [])) H Φ → ∀ {t : Nat} {want : Bool}, guardOf all o = some (some t, want) → guardNo σ t want → Run P (inR ord) H0 (.ops all (o :: rest) :: k) σ H Φ := fun hr t want hg hb β0 w0 β w a hI hE hF r hro => by
            obtain ⟨pre', hpre', hwp⟩ := hr β0 w0 β w (a.put o.dst undef) hI hE (hF.put o.dst V.skip) r hro
            have hl : pre'.length = pre.length + 1 := by
              have := congrArg List.length (hpre'.symm.trans hpre)
              simp at this
              omega
            refine ⟨pre, hpre, ?_⟩
            rw [List.length_cons, range'_cons]
            simp only [wpOpsIn, hget, guard_no hF hg hb, Bool.false_eq_true, if_false]
            rw [hl] at hwp
            exact ⟨fun _ _ => trivial, hwp⟩
          simp only [eval] at h
          split at h
          · rename_i hg
            exact run1 (ih _ _ _ h (hcons hopi)) (.inl hg)
          · rename_i t want hg
            split at h
            · rename_i b hb
              obtain ⟨h1, h2⟩ := ESem_ite h
              by_cases hbw : b = want
              · subst hbw
                have := h1 rfl
                rw [set_same hb (by simp)] at this
                exact run1 (ih _ _ _ this (hcons hopi)) (.inr ⟨t, b, hg, hb⟩)
              · have hb' : b = !want := by cases b <;> cases want <;> simp_all
                subst hb'
                have := h2 hbw
                rw [set_same hb (by simp)] at this
                exact run0 (ih _ _ _ this (hcons hrest)) hg (.inl hb)
            · rename_i hb
              exact run0 (ih _ _ _ h (hcons hrest)) hg (.inr hb)
            · exact h.elim
          · exact h.elim
      | op all o rest =>
        obtain ⟨pre, hpre⟩ := hit
        have hrest : ItOk T ord (.ops all rest) := ⟨pre ++ [o], by rw [hpre]; simp⟩
        have cont : ∀ {σ' : Env} {H' : Heap}, Run P (inR ord) H0 (.ops all rest :: k) σ' H' Φ → ∀ {β0 w0 β w a}, Inv β H' w → Ext β0 H0 w0 β H' w → FR w0.heap.size β H' w a σ' → ∀ r, (inR ord = false → r = none) →
            wpOpsIn (wideR r) 0 P all.toArray (kontL P r (Fin Φ β0 H0 w0) k) (List.range' (pre.length + 1) rest.length) a w := fun hr β0 w0 β w a hI hE hF r hro => by
          obtain ⟨pre', hpre', hwp⟩ := hr β0 w0 β w a hI hE hF r hro
          have hl : pre'.length = pre.length + 1 := by
            have := congrArg List.length (hpre'.symm.trans hpre)
            simp at this
            omega
          rw [hl] at hwp
          exact hwp
        intro β0 w0 β w a hI hE hF r hro
        have hout : ¬ LetsOut (kontL P r (Fin Φ β0 H0 w0) k) := fun ⟨a, w, ho⟩ => by
          obtain ⟨x, _, _, _, hx, _⟩ := kont_out k a w ho
          cases x <;> exact hx.elim
        refine ⟨pre, hpre, ?_⟩
        simp only [eval] at h
        split at h
        · rename_i b v H' ha
          simp only [ESem] at h
          obtain ⟨rfl, h⟩ := h
          exact op_stepI (aop_ok hT hI hF ha rfl) fun x w' β' h1 h2 h3 => cont (ih _ _ _ h (hcons hrest)) h1 (hE.trans h2) ((hF.mono h2).put o.dst h3) r hro
        · rename_i c v1 H1 v2 H2 ha
          obtain ⟨h1, h2⟩ := ESem_ite h
          obtain ⟨hy1, hy2⟩ := aop_br (P := P) hT hI hF ha
          cases c with
          | true => exact op_stepI (hy1 rfl) fun x w' β' h1' h2' h3' => cont (ih _ _ _ (h1 rfl) (hcons hrest)) h1' (hE.trans h2') ((hF.mono h2').put o.dst h3') r hro
          | false => exact op_stepI (hy2 rfl) fun x w' β' h1' h2' h3' => cont (ih _ _ _ (h2 (by simp)) (hcons hrest)) h1' (hE.trans h2') ((hF.mono h2').put o.dst h3') r hro
        · rename_i f l ha
          simp only [ESem] at h
          exact aop_callI hI hF ha h hout fun v r2 w' β' H' h1 h2 h3 hK => cont (hK (hcons hrest)) h1 (hE.trans h2) ((hF.mono h2).put o.dst h3) r hro
        · rename_i c Q ha
          simp only [ESem] at h
          obtain ⟨rfl, h⟩ := h
          obtain ⟨v, H', hq, hy⟩ := aop_draw (P := P) hI hF ha rfl
          exact op_stepI hy fun x w' β' h1 h2 h3 => cont (h v H' hq (hcons hrest)) h1 (hE.trans h2) ((hF.mono h2).put o.dst h3) r hro
        · rename_i i l ha
          simp only [ESem] at h
          exact aop_ycall hI hF ha h fun v r' w' β' H' h1 h2 h3 hK => cont (hK (hcons hrest)) h1 (hE.trans h2) ((hF.mono h2).put o.dst h3) r hro
        · exact h.elim
      | dr all l =>
        cases l with
        | nil =>
          simp only [eval] at h
          exact .done (next h)
        | cons i l =>
          simp only [eval] at h
          split at h
          · exact h hok
          · rename_i o ho
            split at h
            · rename_i hg
              exact ih _ _ _ h (hcons trivial) ho (.inl hg)
            · rename_i t want hg
              split at h
              · rename_i b hb
                obtain ⟨h1, h2⟩ := ESem_ite h
                by_cases hbw : b = want
                · subst hbw
                  have := h1 rfl
                  rw [set_same hb (by simp)] at this
                  exact ih _ _ _ this (hcons trivial) ho (.inr ⟨t, b, hg, hb⟩)
                · have hb' : b = !want := by cases b <;> cases want <;> simp_all
                  subst hb'
                  have := h2 hbw
                  rw [set_same hb (by simp)] at this
                  exact .pass ho hg (.inl hb) (ih _ _ _ this (hcons trivial))
              · rename_i hb
                exact .pass ho hg (.inr hb) (ih _ _ _ h (hcons trivial))
              · exact h.elim
            · exact h.elim
      | dop all i o l =>
        simp only [eval] at h
        intro ho hg
        split at h
        · rename_i b v H' ha
          simp only [ESem] at h
          obtain ⟨rfl, h⟩ := h
          exact .val ho hg ha (ih _ _ _ h (hcons trivial))
        · rename_i c v1 H1 v2 H2 ha
          obtain ⟨h1, h2⟩ := ESem_ite h
          exact .br ho hg ha (fun hc => ih _ _ _ (h1 hc) (hcons trivial)) (fun hc => ih _ _ _ (h2 (by simp [hc])) (hcons trivial))
        · rename_i f as_ ha
          simp only [ESem] at h
          exact .call ho hg ha h fun r H' hK => hK (hcons trivial)
        · rename_i c Q ha
          simp only [ESem] at h
          obtain ⟨rfl, h⟩ := h
          exact .draw ho hg ha fun v H' hq => h v H' hq (hcons trivial)
        · exact h.elim
        · exact h.elim
      | dq all i rest =>
        intro hrest hile hset
        cases rest with
        | nil =>
          simp only [eval] at h
          have hlen : all.length ≤ i := by simpa using hrest
          have hfs : all.length ≤ firstSet all := by
            unfold firstSet
            rcases Nat.lt_or_ge (all.findIdx fun o => isSet o.op) all.length with hlt | hge
            · have := List.findIdx_getElem (w := hlt)
              have h2 := hset (all.findIdx fun o => isSet o.op) _ (by omega) (List.getElem?_eq_getElem hlt)
              rw [h2] at this
              cases this
            · exact hge
          have hfe : firstSet all = all.length := Nat.le_antisymm List.findIdx_le_length hfs
          exact .fin (by omega) (by rw [hrest]; exact .done (next h))
        | cons o rest =>
          have hin : i < all.length := by
            rcases Nat.lt_or_ge i all.length with h' | h'
            · exact h'
            · rw [List.drop_eq_nil_of_le h'] at hrest; cases hrest
          have ho : all[i]? = some o := by
            have := congrArg (·[0]?) hrest
            simpa [List.getElem?_drop] using this
          simp only [eval] at h
          split at h
          · rename_i hs
            have hfs : i = firstSet all := by
              unfold firstSet
              refine Nat.le_antisymm ?_ ?_
              · rcases Nat.lt_or_ge (all.findIdx fun o => isSet o.op) i with hlt | hge
                · have h1 := List.findIdx_getElem (w := show (all.findIdx fun o => isSet o.op) < all.length by omega)
                  have h2 := hset (all.findIdx fun o => isSet o.op) _ hlt (List.getElem?_eq_getElem (by omega))
                  rw [h2] at h1
                  cases h1
                · exact hge
              · rcases Nat.lt_or_ge i (all.findIdx fun o => isSet o.op) with hlt | hge
                · have h1 := List.not_of_lt_findIdx hlt
                  have h2 : all[i] = o := Option.some.inj ((List.getElem?_eq_getElem hin).symm.trans ho)
                  rw [h2, hs] at h1
                  exact absurd h1 (by simp)
                · exact hge
            refine .fin hfs ?_
            rw [hrest]
            exact ih _ _ _ h (hcons trivial)
          · rename_i hns
            have hns' : isSet o.op = false := by simpa using hns
            have hset' : ∀ j x, j < i + 1 → all[j]? = some x → isSet x.op = false := fun j x hj hx => by
              by_cases hji : j = i
              · subst hji; rw [ho] at hx; cases hx; exact hns'
              · exact hset j x (by omega) hx
            have hrest' : all.drop (i + 1) = rest := by
              have := congrArg List.tail hrest
              simpa [List.tail_drop] using this
            have hnp : i < firstSet all := by
              unfold firstSet
              rcases Nat.lt_or_ge i (all.findIdx fun o => isSet o.op) with hlt | hge
              · exact hlt
              · have h1 := List.findIdx_getElem (w := show (all.findIdx fun o => isSet o.op) < all.length by omega)
                have h2 := hset' (all.findIdx fun o => isSet o.op) _ (by omega) (List.getElem?_eq_getElem (by omega))
                rw [h2] at h1
                cases h1
            split at h
            · rename_i hg
              exact ih _ _ _ h (hcons trivial) hrest hset' (.inl hg)
            · rename_i t want hg
              split at h
              · rename_i b hb
                obtain ⟨h1, h2⟩ := ESem_ite h
                by_cases hbw : b = want
                · subst hbw
                  have := h1 rfl
                  rw [set_same hb (by simp)] at this
                  exact ih _ _ _ this (hcons trivial) hrest hset' (.inr ⟨t, b, hg, hb⟩)
                · have hb' : b = !want := by cases b <;> cases want <;> simp_all
                  subst hb'
                  have := h2 hbw
                  rw [set_same hb (by simp)] at this
                  exact .step ho hnp (.pass hg (.inl hb)) (ih _ _ _ this (hcons trivial) hrest' hin hset')
              · rename_i hb
                exact .step ho hnp (.pass hg (.inr hb)) (ih _ _ _ h (hcons trivial) hrest' hin hset')
              · exact h.elim
            · exact h.elim
      | dqop all i o rest =>
        intro hrest hset hg
        have hin : i < all.length := by
          rcases Nat.lt_or_ge i all.length with h' | h'
          · exact h'
          · rw [List.drop_eq_nil_of_le h'] at hrest; cases hrest
        have ho : all[i]? = some o := by
          have := congrArg (·[0]?) hrest
          simpa [List.getElem?_drop] using this
        have hrest' : all.drop (i + 1) = rest := by
          have := congrArg List.tail hrest
          simpa [List.tail_drop] using this
        have hnp : i < firstSet all := by
          unfold firstSet
          rcases Nat.lt_or_ge i (all.findIdx fun o => isSet o.op) with hlt | hge
          · exact hlt
          · have h1 := List.findIdx_getElem (w := show (all.findIdx fun o => isSet o.op) < all.length by omega)
            have h2 := hset (all.findIdx fun o => isSet o.op) _ (by omega) (List.getElem?_eq_getElem (by omega))
            rw [h2] at h1
            cases h1
        simp only [eval] at h
        split at h
        · rename_i b v hpu
          simp only [ESem] at h
          obtain ⟨rfl, h⟩ := h
          exact .step ho hnp (.pure hg hpu) (ih _ _ _ h (hcons trivial) hrest' hin hset)
        · rename_i hpu
          split at h
          · rename_i b v hre
            simp only [ESem] at h
            obtain ⟨rfl, h⟩ := h
            exact .step ho hnp (.read hg hpu hre) (ih _ _ _ h (hcons trivial) hrest' hin hset)
          · rename_i hre
            split at h
            · rename_i f as_ ha
              simp only [ESem] at h
              obtain ⟨r, hs, h⟩ := h
              exact .step ho hnp (.call hg hpu hre ha hs) (h (hcons trivial) hrest' hin hset)
            · rename_i b v H' ha
              split at h
              · rename_i hH
                subst hH
                simp only [ESem] at h
                obtain ⟨rfl, h⟩ := h
                exact .step ho hnp (.make hg hpu hre ha) (ih _ _ _ h (hcons trivial) hrest' hin hset)
              · exact h.elim
            · exact h.elim
      | dqp p all i rest =>
        intro hrest hip hple
        cases rest with
        | nil =>
          simp only [eval] at h
          have hlen : all.length ≤ i := by simpa using hrest
          exact .fin (by omega) (by rw [hrest]; exact .done (next h))
        | cons o rest =>
          have hin : i < all.length := by
            rcases Nat.lt_or_ge i all.length with h' | h'
            · exact h'
            · rw [List.drop_eq_nil_of_le h'] at hrest; cases hrest
          have ho : all[i]? = some o := by
            have := congrArg (·[0]?) hrest
            simpa [List.getElem?_drop] using this
          simp only [eval] at h
          split at h
          · rename_i hs
            refine .fin hs ?_
            rw [hrest]
            exact ih _ _ _ h (hcons trivial)
          · rename_i hns
            have hnp : i < p := by omega
            have hrest' : all.drop (i + 1) = rest := by
              have := congrArg List.tail hrest
              simpa [List.tail_drop] using this
            split at h
            · rename_i hg
              exact ih _ _ _ h (hcons trivial) hrest hnp hple (.inl hg)
            · rename_i t want hg
              split at h
              · rename_i b hb
                obtain ⟨h1, h2⟩ := ESem_ite h
                by_cases hbw : b = want
                · subst hbw
                  have := h1 rfl
                  rw [set_same hb (by simp)] at this
                  exact ih _ _ _ this (hcons trivial) hrest hnp hple (.inr ⟨t, b, hg, hb⟩)
                · have hb' : b = !want := by cases b <;> cases want <;> simp_all
                  subst hb'
                  have := h2 hbw
                  rw [set_same hb (by simp)] at this
                  exact .step ho hnp (.pass hg (.inl hb)) (ih _ _ _ this (hcons trivial) hrest' (by omega) hple)
              · rename_i hb
                exact .step ho hnp (.pass hg (.inr hb)) (ih _ _ _ h (hcons trivial) hrest' (by omega) hple)
              · exact h.elim
            · exact h.elim
      | dqpop p all i o rest =>
        intro hrest hnp hple hg
        have hin : i < all.length := by
          rcases Nat.lt_or_ge i all.length with h' | h'
          · exact h'
          · rw [List.drop_eq_nil_of_le h'] at hrest; cases hrest
        have ho : all[i]? = some o := by
          have := congrArg (·[0]?) hrest
          simpa [List.getElem?_drop] using this
        have hrest' : all.drop (i + 1) = rest := by
          have := congrArg List.tail hrest
          simpa [List.tail_drop] using this
        simp only [eval] at h
        split at h
        · rename_i b v hpu
          simp only [ESem] at h
          obtain ⟨rfl, h⟩ := h
          exact .step ho hnp (.pure hg hpu) (ih _ _ _ h (hcons trivial) hrest' (by omega) hple)
        · rename_i hpu
          split at h
          · rename_i b v hre
            simp only [ESem] at h
            obtain ⟨rfl, h⟩ := h
            exact .step ho hnp (.read hg hpu hre) (ih _ _ _ h (hcons trivial) hrest' (by omega) hple)
          · rename_i hre
            split at h
            · rename_i f as_ ha
              simp only [ESem] at h
              obtain ⟨r, hs, h⟩ := h
              exact .step ho hnp (.call hg hpu hre ha hs) (h (hcons trivial) hrest' (by omega) hple)
            · rename_i b v H' ha
              split at h
              · rename_i hH
                subst hH
                simp only [ESem] at h
                obtain ⟨rfl, h⟩ := h
                exact .step ho hnp (.make hg hpu hre ha) (ih _ _ _ h (hcons trivial) hrest' (by omega) hple)
              · exact h.elim
            · exact h.elim
      | dqs p all i rest fills =>
        intro hrest hip hple hfl
        cases rest with
        | nil =>
          simp only [eval] at h
          have hlen : all.length ≤ i := by simpa using hrest
          exact .fin (by omega) (by rw [hrest]; exact .done (next h))
        | cons o rest =>
          have hin : i < all.length := by
            rcases Nat.lt_or_ge i all.length with h' | h'
            · exact h'
            · rw [List.drop_eq_nil_of_le h'] at hrest; cases hrest
          have ho : all[i]? = some o := by
            have := congrArg (·[0]?) hrest
            simpa [List.getElem?_drop] using this
          simp only [eval] at h
          split at h
          · rename_i hs
            refine .fin hs ?_
            rw [hrest]
            exact ih _ _ _ h (hcons trivial)
          · rename_i hns
            have hnp : i < p := by omega
            have hrest' : all.drop (i + 1) = rest := by
              have := congrArg List.tail hrest
              simpa [List.tail_drop] using this
            split at h
            · rename_i hg
              exact ih _ _ _ h (hcons trivial) hrest hnp hple hfl (.inl hg)
            · rename_i t want hg
              split at h
              · rename_i b hb
                obtain ⟨h1, h2⟩ := ESem_ite h
                by_cases hbw : b = want
                · subst hbw
                  have := h1 rfl
                  rw [set_same hb (by simp)] at this
                  exact ih _ _ _ this (hcons trivial) hrest hnp hple hfl (.inr ⟨t, b, hg, hb⟩)
                · have hb' : b = !want := by cases b <;> cases want <;> simp_all
                  subst hb'
                  have := h2 hbw
                  rw [set_same hb (by simp)] at this
                  exact .step ho hnp (.pass hg (.inl hb)) (ih _ _ _ this (hcons trivial) hrest' (by omega) hple (by simp [hfl]))
              · rename_i hb
                exact .step ho hnp (.pass hg (.inr hb)) (ih _ _ _ h (hcons trivial) hrest' (by omega) hple (by simp [hfl]))
              · exact h.elim
            · exact h.elim
      | dqsop p all i o rest fills =>
        intro hrest hnp hple hfl hg
        have hin : i < all.length := by
          rcases Nat.lt_or_ge i all.length with h' | h'
          · exact h'
          · rw [List.drop_eq_nil_of_le h'] at hrest; cases hrest
        have ho : all[i]? = some o := by
          have := congrArg (·[0]?) hrest
          simpa [List.getElem?_drop] using this
        have hrest' : all.drop (i + 1) = rest := by
          have := congrArg List.tail hrest
          simpa [List.tail_drop] using this
        simp only [eval] at h
        split at h
        · rename_i b v hpu
          simp only [ESem] at h
          obtain ⟨rfl, h⟩ := h
          exact .step ho hnp (.pure hg hpu) (ih _ _ _ h (hcons trivial) hrest' (by omega) hple (by simp [hfl]))
        · rename_i hpu
          split at h
          · rename_i b v hre
            simp only [ESem] at h
            obtain ⟨rfl, h⟩ := h
            exact .step ho hnp (.read hg hpu hre) (ih _ _ _ h (hcons trivial) hrest' (by omega) hple (by simp [hfl]))
          · rename_i hre
            split at h
            · rename_i b cs hn
              simp only [ESem] at h
              obtain ⟨rfl, h⟩ := h
              exact .step ho hnp (.new hg hn) (ih _ _ _ h (hcons trivial) hrest' (by omega) hple (by simp [hfl]))
            · split at h
              · rename_i f as_ ha
                simp only [ESem] at h
                obtain ⟨r, hs, h⟩ := h
                exact .step ho hnp (.call hg ha hs) (h (hcons trivial) hrest' (by omega) hple (by simp [hfl]))
              · exact h.elim
      | code c =>
        have hc : codeOk T ord c = true := hit
        cases c with
        | skip =>
          simp only [eval] at h
          intro β0 w0 β w a hI hE hF r hro
          exact wpIn_skip (next h β0 w0 β w a hI hE hF r hro)
        | seq x y =>
          simp only [eval] at h
          simp only [codeOk, Bool.and_eq_true] at hc
          have hr := runs_calm (P := P) (H0 := H0) (Φ := Φ) (its := .code x :: .code y :: k) (fun z hz => by
              rcases List.mem_cons.mp hz with rfl | hz
              · trivial
              · rcases List.mem_cons.mp hz with rfl | hz
                · trivial
                · exact hcalm z hz)
            ⟨fun z hz => by
              rcases List.mem_cons.mp hz with rfl | hz
              · exact hc.1
              · rcases List.mem_cons.mp hz with rfl | hz
                · exact hc.2
                · exact hkk.1 z hz, fun z hz => by
              rcases List.mem_cons.mp hz with rfl | hz
              · trivial
              · exact hcalm z hz⟩ (ih _ _ _ h)
          intro β0 w0 β w a hI hE hF r hro
          refine wpIn_seq (wpIn_mono (hr β0 w0 β w a hI hE hF r hro) fun e a w he => ?_)
          exact (kont_code y k e a w).mpr he
        | region id ops draw =>
          cases draw with
          | false =>
            simp only [eval] at h
            have hr : Run P (inR ord) H0 (.ops ops.toList ops.toList :: k) σ H Φ := ih _ _ _ h (hcons ⟨[], rfl⟩)
            intro β0 w0 β w a hI hE hF r hro
            obtain ⟨pre, hpre, hwp⟩ := hr β0 w0 β w a hI hE hF r hro
            have hl : pre = [] := by
              have := congrArg List.length hpre
              simp at this
              exact this
            subst hl
            refine wpIn_region ?_
            simp only [Array.toArray_toList, List.length_nil, Array.length_toList] at hwp
            rw [List.range_eq_range']
            exact hwp
          | true =>
            simp only [eval] at h
            cases hord : ord id with
            | nil =>
              rw [hord] at h
              simp only [codeOk, hord, Bool.and_eq_true] at hc
              obtain ⟨hnd, hc⟩ := hc
              simp only at h
              have hq : PlanQ P T ops.toList H (fun σ' H' => Run P (inR ord) H0 k σ' H' Φ) (firstSet ops.toList) 0 σ := ih _ _ _ h (hcons trivial) rfl (Nat.zero_le _) (fun j o hj => absurd hj (by omega))
              intro β0 w0 β w a hI hE hF r hro
              have hsame : Same w { w with drawn := w.drawn + 1 } := ⟨rfl, rfl, rfl, Nat.le_refl _⟩
              have hqe := quiet_ext hI hsame (w' := { w with drawn := w.drawn + 1 }) (fun _ _ => rfl)
              have hqi := quiet_inv hI hsame (w' := { w with drawn := w.drawn + 1 }) (fun _ _ => rfl)
              have hout : ¬ LetsOut (kontL P r (Fin Φ β0 H0 w0) k) := fun ⟨a, w, ho⟩ => by
                obtain ⟨x, _, _, _, hx, _⟩ := kont_out k a w ho
                cases x <;> exact hx.elim
              refine wpIn_region_anyR hP hnd hout (wpAny_of_m (q := qOf T ops.toList) _ _ _ _ ?_)
              have := quiet_any hT (Q := kontL P r (Fin Φ β0 H0 w0) k) (all := ops.toList) (by simpa using hc) (fun c a w hp => by
                  have := kont_panic k a w hp
                  obtain ⟨x, _, _, _, hx, _⟩ := this
                  cases x <;> exact hx.elim) (β0 := β0) (H0 := H0) (w0 := w0)
                (fun σ' H' β' w' a' hΨ h1 h2 h3 => hΨ β0 w0 β' w' a' h1 h2 h3 r hro) hq hqi (hE.trans hqe) (hF.mono hqe)
              simpa using this
            | cons i0 l0 =>
            rw [hord] at h
            simp only [codeOk, hord, Bool.and_eq_true] at hc
            obtain ⟨hnd, hc⟩ := hc
            simp only at h
            by_cases hi2 : 2000 ≤ i0
            · rw [if_pos hi2] at h hc
              have hple : i0 - 2000 ≤ ops.toList.length := by
                simp only [qOkS, Bool.and_eq_true, decide_eq_true_eq] at hc
                simpa using hc.2.2.1
              have hq : PlanS P T ops.toList H (fun σ' H' => Run P (inR ord) H0 k σ' H' Φ) (i0 - 2000) 0 σ [] := ih _ _ _ h (hcons trivial) rfl (Nat.zero_le _) hple rfl
              intro β0 w0 β w a hI hE hF r hro
              have hsame : Same w { w with drawn := w.drawn + 1 } := ⟨rfl, rfl, rfl, Nat.le_refl _⟩
              have hqe := quiet_ext hI hsame (w' := { w with drawn := w.drawn + 1 }) (fun _ _ => rfl)
              have hqi := quiet_inv hI hsame (w' := { w with drawn := w.drawn + 1 }) (fun _ _ => rfl)
              have hout : ¬ LetsOut (kontL P r (Fin Φ β0 H0 w0) k) := fun ⟨a, w, ho⟩ => by
                obtain ⟨x, _, _, _, hx, _⟩ := kont_out k a w ho
                cases x <;> exact hx.elim
              refine wpIn_region_anyR hP hnd hout (wpAny_of_m (q := qOf T ops.toList) _ _ _ _ ?_)
              have := slots_any hT (Q := kontL P r (Fin Φ β0 H0 w0) k) (all := ops.toList) (by simpa using hc) (fun c a w hp => by
                  have := kont_panic k a w hp
                  obtain ⟨x, _, _, _, hx, _⟩ := this
                  cases x <;> exact hx.elim) (β0 := β0) (H0 := H0) (w0 := w0)
                (fun σ' H' β' w' a' hΨ h1 h2 h3 => hΨ β0 w0 β' w' a' h1 h2 h3 r hro) hq hqi (hE.trans hqe) (hF.mono hqe)
              simpa using this
            rw [if_neg hi2] at h hc
            by_cases hi0 : 1000 ≤ i0
            · rw [if_pos hi0] at h hc
              have hple : i0 - 1000 ≤ ops.toList.length := by
                simp only [qOk, Bool.and_eq_true, decide_eq_true_eq] at hc
                simpa using hc.2.2.1
              have hq : PlanQ P T ops.toList H (fun σ' H' => Run P (inR ord) H0 k σ' H' Φ) (i0 - 1000) 0 σ := ih _ _ _ h (hcons trivial) rfl (Nat.zero_le _) hple
              intro β0 w0 β w a hI hE hF r hro
              have hsame : Same w { w with drawn := w.drawn + 1 } := ⟨rfl, rfl, rfl, Nat.le_refl _⟩
              have hqe := quiet_ext hI hsame (w' := { w with drawn := w.drawn + 1 }) (fun _ _ => rfl)
              have hqi := quiet_inv hI hsame (w' := { w with drawn := w.drawn + 1 }) (fun _ _ => rfl)
              have hout : ¬ LetsOut (kontL P r (Fin Φ β0 H0 w0) k) := fun ⟨a, w, ho⟩ => by
                obtain ⟨x, _, _, _, hx, _⟩ := kont_out k a w ho
                cases x <;> exact hx.elim
              refine wpIn_region_anyR hP hnd hout (wpAny_of_m (q := qOf T ops.toList) _ _ _ _ ?_)
              have := quiet_any hT (Q := kontL P r (Fin Φ β0 H0 w0) k) (all := ops.toList) (by simpa using hc) (fun c a w hp => by
                  have := kont_panic k a w hp
                  obtain ⟨x, _, _, _, hx, _⟩ := this
                  cases x <;> exact hx.elim) (β0 := β0) (H0 := H0) (w0 := w0)
                (fun σ' H' β' w' a' hΨ h1 h2 h3 => hΨ β0 w0 β' w' a' h1 h2 h3 r hro) hq hqi (hE.trans hqe) (hF.mono hqe)
              simpa using this
            rw [if_neg hi0] at h hc
            simp only [drawOk, Bool.and_eq_true, beq_iff_eq] at hc
            simp only [Bool.or_eq_true, Bool.and_eq_true, beq_iff_eq] at hc
            obtain ⟨hsel, hc⟩ := hc
            have hr : Plan P T ops.toList (fun σ' H' => Run P (inR ord) H0 k σ' H' Φ) (i0 :: l0) σ H := ih _ _ _ h (hcons trivial)
            intro β0 w0 β w a hI hE hF r hro
            have hsame : Same w { w with drawn := w.drawn + 1 } := ⟨rfl, rfl, rfl, Nat.le_refl _⟩
            have hqe := quiet_ext hI hsame (w' := { w with drawn := w.drawn + 1 }) (fun _ _ => rfl)
            have hqi := quiet_inv hI hsame (w' := { w with drawn := w.drawn + 1 }) (fun _ _ => rfl)
            have hout : ¬ LetsOut (kontL P r (Fin Φ β0 H0 w0) k) := fun ⟨a, w, ho⟩ => by
              obtain ⟨x, _, _, _, hx, _⟩ := kont_out k a w ho
              cases x <;> exact hx.elim
            refine wpIn_region_anyR hP hnd hout (wpAny_of_m (q := qOf T ops.toList) _ _ _ _ ?_)
            rcases hc with (⟨hlen, hchk⟩ | ⟨hlen, hchk⟩) | hchk
            · have := plan_any hT (Q := kontL P r (Fin Φ β0 H0 w0) k) (all := ops.toList) (by simpa using hsel) (fun c a w hp => by
                  have := kont_panic k a w hp
                  obtain ⟨x, _, _, _, hx, _⟩ := this
                  cases x <;> exact hx.elim) (β0 := β0) (H0 := H0) (w0 := w0)
                (fun σ' H' β' w' a' hΨ h1 h2 h3 => hΨ β0 w0 β' w' a' h1 h2 h3 r hro) hr (Array.replicate ops.size false) β { w with drawn := w.drawn + 1 } a (by simpa using hchk) hqi (hE.trans hqe) (hF.mono hqe)
              rw [hlen] at this
              simpa using this
            · have := plan_anyF hT (Q := kontL P r (Fin Φ β0 H0 w0) k) (all := ops.toList) (by simpa using hsel) (fun c a w hp => by
                  have := kont_panic k a w hp
                  obtain ⟨x, _, _, _, hx, _⟩ := this
                  cases x <;> exact hx.elim) (β0 := β0) (H0 := H0) (w0 := w0)
                (fun σ' H' β' w' a' hΨ h1 h2 h3 => hΨ β0 w0 β' w' a' h1 h2 h3 r hro) hr (Array.replicate ops.size false) β { w with drawn := w.drawn + 1 } a (by simpa using hchk) hqi (hE.trans hqe) (hF.mono hqe)
              rw [show ops.toList.toArray = ops from rfl, hlen] at this
              simpa using this
            · have := plan_anyN hT (Q := kontL P r (Fin Φ β0 H0 w0) k) (all := ops.toList) (by simpa using hsel) (fun c a w hp => by
                  have := kont_panic k a w hp
                  obtain ⟨x, _, _, _, hx, _⟩ := this
                  cases x <;> exact hx.elim) (β0 := β0) (H0 := H0) (w0 := w0)
                (fun σ' H' β' w' a' hΨ h1 h2 h3 => hΨ β0 w0 β' w' a' h1 h2 h3 r hro) ops.size hr (Array.replicate ops.size false) β { w with drawn := w.drawn + 1 } a (by simpa using hchk) hqi (hE.trans hqe) (hF.mono hqe)
              simpa using this
        | cond x y z =>
          simp only [eval] at h
          simp only [codeOk, Bool.and_eq_true] at hc
          split at h
          · rename_i t ht
            obtain ⟨h1, h2⟩ := ESem_ite h
            intro β0 w0 β w a hI hE hF r hro
            have hx := hF.opn x
            rw [ht] at hx
            have hcal : ∀ c' : Code, ∀ it ∈ It.code c' :: k, Calm it := fun c' it hi => by
              rcases List.mem_cons.mp hi with rfl | hi
              · trivial
              · exact hcalm it hi
            cases t with
            | true => exact wpIn_cond_true hx.bool_inv (runs_calm (hcal y) (hcons hc.1) (ih _ _ _ (h1 rfl)) β0 w0 β w a hI hE hF r hro)
            | false => exact wpIn_cond_false hx.bool_inv (runs_calm (hcal z) (hcons hc.2) (ih _ _ _ (h2 (by simp))) β0 w0 β w a hI hE hF r hro)
          · exact h.elim
        | block id c =>
          simp only [eval] at h
          simp only [codeOk] at hc
          have hr := runs_calm (P := P) (H0 := H0) (Φ := Φ) (its := .code c :: .blk id :: k) (fun z hz => by
              rcases List.mem_cons.mp hz with rfl | hz
              · trivial
              · rcases List.mem_cons.mp hz with rfl | hz
                · trivial
                · exact hcalm z hz)
            ⟨fun z hz => by
              rcases List.mem_cons.mp hz with rfl | hz
              · exact hc
              · rcases List.mem_cons.mp hz with rfl | hz
                · trivial
                · exact hkk.1 z hz, fun z hz => by
              rcases List.mem_cons.mp hz with rfl | hz
              · trivial
              · exact hcalm z hz⟩ (ih _ _ _ h)
          intro β0 w0 β w a hI hE hF r hro
          exact wpIn_block (wpIn_mono (hr β0 w0 β w a hI hE hF r hro) fun e a w he => (kont_blk id k e a w).mp he)
        | loop c =>
          simp only [eval, ESem] at h
          simp only [codeOk] at hc
          have hr : Run P (inR ord) H0 (.loop c :: k) σ H Φ := h (hcons hc)
          intro β0 w0 β w a hI hE hF r hro
          exact hr β0 w0 β w a hI hE hF r hro
        | exit id =>
          simp only [eval] at h
          intro β0 w0 β w a hI hE hF r hro
          refine wpIn_exit ((kont_exit id k a w).mpr ?_)
          split at h
          · rename_i k' hk'
            simp only [hk']
            have hsub : ∀ (k k' : List It), toBlk id k = some k' → ∀ x ∈ k', x ∈ k := by
              intro k
              induction k with
              | nil => intro k' h; cases h
              | cons it k ihk =>
                intro k' h x hx
                cases it <;> simp only [toBlk] at h
                case blk i =>
                  split at h
                  · cases h; exact List.mem_cons_of_mem _ hx
                  · exact List.mem_cons_of_mem _ (ihk k' h x hx)
                all_goals exact List.mem_cons_of_mem _ (ihk k' h x hx)
            have hs := hsub k k' hk'
            exact runs_calm (fun x hx => hcalm x (hs x hx)) ⟨fun x hx => hkk.1 x (hs x hx), fun x hx => hcalm x (hs x (List.mem_of_mem_tail hx))⟩ (ih _ _ _ h) β0 w0 β w a hI hE hF r hro
          · rename_i hk'
            simp only [hk']
            simp only [ESem] at h
            exact ⟨.exit id, σ, H, β, rfl, hI, hE, hF, h⟩
        | ret =>
          simp only [eval, ESem] at h
          intro β0 w0 β w a hI hE hF r hro
          exact wpIn_ret (kont_ret k a w ⟨.ret, σ, H, β, trivial, hI, hE, hF, h⟩)
        | rangeFunc f ps x y => simp only [eval, ESem] at h
        | scope c =>
          simp only [eval] at h
          simp only [codeOk] at hc
          have hr := runs_calm (P := P) (H0 := H0) (Φ := Φ) (its := .code c :: k) (fun z hz => by
              rcases List.mem_cons.mp hz with rfl | hz
              · trivial
              · exact hcalm z hz) (hcons hc) (ih _ _ _ h)
          intro β0 w0 β w a hI hE hF r hro
          refine wpIn_scopeR (wpIn_mono (hr β0 w0 β w a hI hE hF r hro) fun e a w he => ?_)
          cases e with
          | goto l =>
            obtain ⟨x, _, _, _, hx, _⟩ := kont_goto k a w he
            cases x <;> exact hx.elim
          | _ => exact he
        | label l =>
          simp only [eval] at h
          intro β0 w0 β w a hI hE hF r hro
          exact wpIn_label (next h β0 w0 β w a hI hE hF r hro)
        | goto l => simp only [eval, ESem] at h
        | refuse s => simp only [eval, ESem] at h

end
end Go.Proofs.SL

/-
  SL: steps of the abstract state alone: values forgotten, objects dropped or frozen; loops; functions. No claim by itself.
-/
namespace Go.Proofs.SL
open Go
set_option linter.unusedSimpArgs false
set_option linter.unusedVariables false

/-- A value that knows of no object from n on. -/
inductive Bdd (n : Nat) : PV → Prop
  | any : Bdd n .any
  | bool (b : Bool) : Bdd n (.bool b)
  | int (k : IntKind) (i : Int) : Bdd n (.int k i)
  | str (s : ByteArray) : Bdd n (.str s)
  | agg (cs : List PV) (h : ∀ p ∈ cs, Bdd n p) : Bdd n (.agg cs)
  | tup (cs : List PV) (h : ∀ p ∈ cs, Bdd n p) : Bdd n (.tup cs)
  | nilp : Bdd n .nilp
  | ptr (i ver off : Nat) (h : i < n) : Bdd n (.ptr i ver off)
  | nils : Bdd n .nils
  | empt : Bdd n .empt
  | sl (m : Nat) (cs : List PV) (h : ∀ p ∈ cs, Bdd n p) : Bdd n (.sl m cs)
  | buf (i ver off len m : Nat) (tip : Bool) (h : i < n) : Bdd n (.buf i ver off len m tip)
  | cptr (p : PV) (h : Bdd n p) : Bdd n (.cptr p)
  | func (fn : Fn) (ps qs : List PV) (h : ∀ p ∈ ps, Bdd n p) (h' : ∀ p ∈ qs, Bdd n p) : Bdd n (.func fn ps qs)
  | nilf : Bdd n .nilf
  | iface (t : TypeId) (p : PV) (h : Bdd n p) : Bdd n (.iface t p)
  | nili : Bdd n .nili
  | nilm : Bdd n .nilm
  | mp (i : Nat) (h : i < n) : Bdd n (.mp i)
  | yld (i : Nat) (h : i < n) : Bdd n (.yld i)

section
variable {n : Nat}
@[simp] theorem bdd_any : Bdd n .any := .any
@[simp] theorem bdd_bool {b : Bool} : Bdd n (.bool b) := .bool b
@[simp] theorem bdd_int {k : IntKind} {i : Int} : Bdd n (.int k i) := .int k i
@[simp] theorem bdd_str {s : ByteArray} : Bdd n (.str s) := .str s
@[simp] theorem bdd_nilp : Bdd n .nilp := .nilp
@[simp] theorem bdd_nils : Bdd n .nils := .nils
@[simp] theorem bdd_empt : Bdd n .empt := .empt
@[simp] theorem bdd_nilf : Bdd n .nilf := .nilf
@[simp] theorem bdd_nili : Bdd n .nili := .nili
@[simp] theorem bdd_nilm : Bdd n .nilm := .nilm
@[simp] theorem bdd_mp {i : Nat} : Bdd n (.mp i) ↔ i < n := ⟨fun h => by cases h; assumption, .mp i⟩
@[simp] theorem bdd_yld {i : Nat} : Bdd n (.yld i) ↔ i < n := ⟨fun h => by cases h; assumption, .yld i⟩
@[simp] theorem bdd_agg {cs : List PV} : Bdd n (.agg cs) ↔ ∀ p ∈ cs, Bdd n p := ⟨fun h => by cases h; assumption, .agg cs⟩
@[simp] theorem bdd_tup {cs : List PV} : Bdd n (.tup cs) ↔ ∀ p ∈ cs, Bdd n p := ⟨fun h => by cases h; assumption, .tup cs⟩
@[simp] theorem bdd_sl {m : Nat} {cs : List PV} : Bdd n (.sl m cs) ↔ ∀ p ∈ cs, Bdd n p := ⟨fun h => by cases h; assumption, .sl m cs⟩
@[simp] theorem bdd_ptr {i ver off : Nat} : Bdd n (.ptr i ver off) ↔ i < n := ⟨fun h => by cases h; assumption, .ptr i ver off⟩
@[simp] theorem bdd_buf {i ver off len m : Nat} {tip : Bool} : Bdd n (.buf i ver off len m tip) ↔ i < n := ⟨fun h => by cases h; assumption, .buf i ver off len m tip⟩
@[simp] theorem bdd_cptr {p : PV} : Bdd n (.cptr p) ↔ Bdd n p := ⟨fun h => by cases h; assumption, .cptr p⟩
@[simp] theorem bdd_iface {t : TypeId} {p : PV} : Bdd n (.iface t p) ↔ Bdd n p := ⟨fun h => by cases h; assumption, .iface t p⟩
@[simp] theorem bdd_func {fn : Fn} {ps qs : List PV} : Bdd n (.func fn ps qs) ↔ (∀ p ∈ ps, Bdd n p) ∧ ∀ p ∈ qs, Bdd n p := ⟨fun h => by cases h; exact ⟨by assumption, by assumption⟩, fun h => .func fn ps qs h.1 h.2⟩
end

theorem Bdd.of_cells {n : Nat} {p : PV} (h : ∀ q ∈ p.cells, Bdd n q) : Bdd n p := by
  cases p
  case agg cs => exact .agg cs h
  all_goals exact h _ (by simp [PV.cells])

theorem Bdd.cells {n : Nat} {p : PV} (h : Bdd n p) : ∀ q ∈ p.cells, Bdd n q := by
  cases p
  case agg cs => exact bdd_agg.mp h
  all_goals (intro q hq; simp only [PV.cells, List.mem_singleton] at hq; subst hq; exact h)

theorem Bdd.mono {n m : Nat} (hnm : n ≤ m) {p : PV} (h : Bdd n p) : Bdd m p := by
  induction h with
  | agg cs _ ih => exact .agg cs ih
  | tup cs _ ih => exact .tup cs ih
  | sl m cs _ ih => exact .sl m cs ih
  | func fn ps qs _ _ ih ih' => exact .func fn ps qs ih ih'
  | ptr i ver off h => exact .ptr i ver off (by omega)
  | buf i ver off len m tip h => exact .buf i ver off len m tip (by omega)
  | cptr p _ ih => exact .cptr p ih
  | iface t p _ ih => exact .iface t p ih
  | mp i h => exact .mp i (by omega)
  | yld i h => exact .yld i (by omega)
  | _ => constructor

theorem V.bdd {β : Nat → Option Nat} {H : Heap} {w : World} {v : Value} {p : PV} (h : V β H w v p) : Bdd H.length p := by
  induction h with
  | agg vs ps hs h ih =>
    refine .agg ps fun p hp => ?_
    obtain ⟨i, hi, rfl⟩ := List.getElem_of_mem hp
    exact ih i (vs[i]'(by omega)) _ (Array.getElem?_eq_getElem _) (List.getElem?_eq_getElem _)
  | tup vs ps hs h ih =>
    refine .tup ps fun p hp => ?_
    obtain ⟨i, hi, rfl⟩ := List.getElem_of_mem hp
    exact ih i (vs[i]'(by omega)) _ (Array.getElem?_eq_getElem _) (List.getElem?_eq_getElem _)
  | ptr b i ver off hi h => exact .ptr i ver off hi.1
  | sl0 a c m => exact .sl m [] (by simp)
  | sl b off cap m xs f hb hm hc h1 h2 h3 ih =>
    refine .sl m xs fun x hx => Bdd.of_cells fun q hq => ?_
    have hf : q ∈ flat xs := List.mem_flatMap.mpr ⟨x, hx, hq⟩
    obtain ⟨k, hk, rfl⟩ := List.getElem_of_mem hf
    exact ih k _ (List.getElem?_eq_getElem hk)
  | buf a cap i ver off len m tip hc ha hi h => exact .buf i ver off len m tip hi.1
  | cptr b off p f hb h1 h2 h3 ih =>
    refine .cptr p (Bdd.of_cells fun q hq => ?_)
    obtain ⟨k, hk, rfl⟩ := List.getElem_of_mem hq
    exact ih k _ (List.getElem?_eq_getElem hk)
  | func fn vs ws ps qs hs hs' h h' ih ih' =>
    refine .func fn ps qs (fun p hp => ?_) fun p hp => ?_
    · obtain ⟨i, hi, rfl⟩ := List.getElem_of_mem hp
      exact ih i (vs[i]'(by omega)) _ (Array.getElem?_eq_getElem _) (List.getElem?_eq_getElem _)
    · obtain ⟨i, hi, rfl⟩ := List.getElem_of_mem hp
      exact ih' i (ws[i]'(by omega)) _ (Array.getElem?_eq_getElem _) (List.getElem?_eq_getElem _)
  | iface t v p h ih => exact .iface t p ih
  | mp b i hi h => exact .mp i hi.1
  | yld b i hi h => exact .yld i hi.1
  | _ => constructor

def OBdd (n : Nat) : OB → Prop
  | .cells _ cs => ∀ p ∈ cs, Bdd n p
  | .striter _ _ => True
  | .glob _ _ => True
  | .map es => ∀ p ∈ es, Bdd n p.1 ∧ Bdd n p.2
  | .mapx _ _ es => ∀ p ∈ es, Bdd n p.1 ∧ Bdd n p.2
  | .mapit m _ _ _ => m < n
  | .lrec _ _ σ _ _ _ => ∀ p ∈ σ, Bdd n p

/-- All objects of the heap know only of those before n. -/
def HB (n : Nat) (H : Heap) : Prop := ∀ (i : Nat) (o : OB), H[i]? = some (some o) → OBdd n o

theorem Inv.hb {β : Nat → Option Nat} {H : Heap} {w : World} (h : Inv β H w) : HB H.length H := by
  intro i o ho
  have := h.ok i o ho
  cases o with
  | striter s pos => trivial
  | glob b o => trivial
  | map es =>
    intro p hp
    obtain ⟨b, c, k, h1, h2, h3, h4, h5⟩ := this
    obtain ⟨j, hj, rfl⟩ := List.getElem_of_mem hp
    have := h4 j (c[j]'(by omega)) _ (Array.getElem?_eq_getElem _) (List.getElem?_eq_getElem hj)
    exact ⟨this.1.bdd, this.2.bdd⟩
  | mapx k bs es =>
    intro p hp
    obtain ⟨b, c, h1, h2, h3, h4, h5⟩ := this
    obtain ⟨j, hj, rfl⟩ := List.getElem_of_mem hp
    have := h4 j (c[j]'(by omega)) _ (Array.getElem?_eq_getElem _) (List.getElem?_eq_getElem hj)
    exact ⟨this.1.bdd, this.2.bdd⟩
  | mapit k since seen last =>
    obtain ⟨b, bm, _, _, h3, _⟩ := this
    exact h3.1
  | lrec st pend σ ps asg body =>
    intro p hp
    obtain ⟨b, fn, D, tmps, h1, h2, h3, h4⟩ := this
    obtain ⟨k, hk, rfl⟩ := List.getElem_of_mem hp
    exact (h4 k _ (List.getElem?_eq_getElem hk)).bdd
  | cells ver cs =>
    intro p hp
    cases hb : β i with
    | none => have := this.1 hb; subst this; cases hp
    | some b =>
      obtain ⟨c, t, fz, f, h1, h2, h3, h4, h5, h6⟩ := this.2 b hb
      obtain ⟨k, hk, rfl⟩ := List.getElem_of_mem hp
      exact (h4 k _ (List.getElem?_eq_getElem hk)).bdd

theorem HB.nil {n : Nat} : HB n [] := fun i o h => by simp at h
theorem HB.mono {n m : Nat} {H : Heap} (hnm : n ≤ m) (h : HB n H) : HB m H := fun i o ho => by
  have := h i o ho
  cases o with
  | striter s pos => trivial
  | glob b o => trivial
  | map es => exact fun p hp => ⟨(this p hp).1.mono hnm, (this p hp).2.mono hnm⟩
  | mapx k bs es => exact fun p hp => ⟨(this p hp).1.mono hnm, (this p hp).2.mono hnm⟩
  | mapit k since seen last => exact Nat.lt_of_lt_of_le this hnm
  | lrec st pend σ ps asg body => exact fun p hp => (this p hp).mono hnm
  | cells ver cs => exact fun p hp => (this p hp).mono hnm
theorem HB.append {n : Nat} {H L : Heap} (h : HB n H) (hl : ∀ o, some o ∈ L → OBdd n o) : HB n (H ++ L) := fun i o ho => by
  rcases Nat.lt_or_ge i H.length with hi | hi
  · rw [List.getElem?_append_left hi] at ho; exact h i o ho
  · rw [List.getElem?_append_right hi] at ho
    exact hl o (List.mem_of_getElem? ho)
theorem HB.set {n i : Nat} {H : Heap} {o : OB} (h : HB n H) (ho : OBdd n o) : HB n (H.set i (some o)) := fun j x hx => by
  by_cases e : j = i
  · subst e
    rcases Nat.lt_or_ge j H.length with hi | hi
    · rw [List.getElem?_set_self hi] at hx; cases hx; exact ho
    · rw [List.getElem?_eq_none (by simpa using hi)] at hx; cases hx
  · rw [List.getElem?_set_ne (Ne.symm e)] at hx; exact h j x hx

/-- The heap's last objects are dropped: what knows of none of them holds on. -/
theorem V.trim {β : Nat → Option Nat} {K L : Heap} {w : World} {v : Value} {p : PV} (h : V β (K ++ L) w v p) (hb : Bdd K.length p) : V β K w v p := by
  have get : ∀ i, i < K.length → (K ++ L)[i]? = K[i]? := fun i hi => List.getElem?_append_left hi
  have imm : ∀ b, Imm β (K ++ L) w b → Imm β K w b := fun b hb => ⟨hb.1, fun i hi => hb.2 i (hi.get (get i hi.lt))⟩
  have ref : ∀ i ver, i < K.length → Ref (K ++ L) i ver → Ref K i ver := fun i ver hi hr => ⟨hi, fun o ho => hr.2 o ((get i hi).trans ho)⟩
  have live : ∀ i ver, i < K.length → Live K i ver → Live (K ++ L) i ver := fun i ver hi hl => by obtain ⟨o, ho, hv⟩ := hl; exact ⟨o, (get i hi).trans ho, hv⟩
  generalize K ++ L = H at h get imm ref live
  induction h with
  | any v => exact .any v
  | bool b => exact .bool b
  | int k n => exact .int k n
  | str s => exact .str s
  | agg vs ps hs h ih => exact .agg vs ps hs fun i v p hv hp => ih i v p hv hp ((bdd_agg.mp hb) p (List.mem_of_getElem? hp))
  | tup vs ps hs h ih => exact .tup vs ps hs fun i v p hv hp => ih i v p hv hp ((bdd_tup.mp hb) p (List.mem_of_getElem? hp))
  | nilp => exact .nilp
  | ptr b i ver off hi h => exact .ptr b i ver off (ref i ver (bdd_ptr.mp hb) hi) fun hl => h (live i ver (bdd_ptr.mp hb) hl)
  | nils => exact .nils
  | empt a => exact .empt a
  | sl0 a c m => exact .sl0 a c m
  | sl b off cap m xs f hbb hm hc h1 h2 h3 ih =>
    refine .sl b off cap m xs f (imm b hbb) hm hc h1 (fun k p hp => ih k p hp ?_) h3
    obtain ⟨x, hx, hq⟩ := List.mem_flatMap.mp (List.mem_of_getElem? hp)
    exact ((bdd_sl.mp hb) x hx).cells p hq
  | buf a cap i ver off len m tip hc ha hi h =>
    have hlt := bdd_buf.mp hb
    refine .buf a cap i ver off len m tip hc ha (ref i ver hlt hi) fun hl => ?_
    have ho : olen K i = olen H i := by unfold olen; rw [get i hlt]
    rw [ho]
    exact h (live i ver hlt hl)
  | cptr b off p f hbb h1 h2 h3 ih => exact .cptr b off p f (imm b hbb) h1 (fun k q hq => ih k q hq ((bdd_cptr.mp hb).cells q (List.mem_of_getElem? hq))) h3
  | func fn vs ws ps qs hs hs' h h' ih ih' =>
    exact .func fn vs ws ps qs hs hs' (fun i v p hv hp => ih i v p hv hp ((bdd_func.mp hb).1 p (List.mem_of_getElem? hp)) ) fun i v p hv hp => ih' i v p hv hp ((bdd_func.mp hb).2 p (List.mem_of_getElem? hp))
  | nilf => exact .nilf
  | iface t v p h ih => exact .iface t v p (ih (bdd_iface.mp hb))
  | nili => exact .nili
  | nilm => exact .nilm
  | mp b i hi h => exact .mp b i (ref i 0 (bdd_mp.mp hb) hi) fun hl => h (live i 0 (bdd_mp.mp hb) hl)
  | yld b i hi h => exact .yld b i (ref i 0 (bdd_yld.mp hb) hi) fun hl => h (live i 0 (bdd_yld.mp hb) hl)

theorem trim_inv {β : Nat → Option Nat} {K L : Heap} {w : World} (hK : HB K.length K) (h : Inv β (K ++ L) w) : Inv β K w where
  ok := fun i o ho => by
    have hi : i < K.length := Alive.lt ⟨o, ho⟩
    have h1 := h.ok i o ((List.getElem?_append_left hi).trans ho)
    have h2 := hK i o ho
    cases o with
    | striter s pos => exact h1
    | glob b o => exact h1
    | map es =>
      obtain ⟨b, c, k, a1, a2, a3, a4, a5⟩ := h1
      exact ⟨b, c, k, a1, a2, a3, fun j e p he hp => ⟨(a4 j e p he hp).1.trim (h2 p (List.mem_of_getElem? hp)).1, (a4 j e p he hp).2.trim (h2 p (List.mem_of_getElem? hp)).2⟩, a5⟩
    | mapx k bs es =>
      obtain ⟨b, c, a1, a2, a3, a4, a5⟩ := h1
      exact ⟨b, c, a1, a2, a3, fun j e p he hp => ⟨(a4 j e p he hp).1.trim (h2 p (List.mem_of_getElem? hp)).1, (a4 j e p he hp).2.trim (h2 p (List.mem_of_getElem? hp)).2⟩, a5⟩
    | mapit k since seen last =>
      obtain ⟨b, bm, a1, a2, a3, a4⟩ := h1
      have hk : k < K.length := h2
      have e := List.getElem?_append_left (l₂ := L) hk
      exact ⟨b, bm, a1, a2, ⟨hk, fun o ho => a3.2 o (e.trans ho)⟩, fun ⟨o, ho, hv⟩ => a4 ⟨o, e.trans ho, hv⟩⟩
    | lrec st pend σ ps asg body =>
      obtain ⟨b, fn, D, tmps, a1, a2, a3, a4⟩ := h1
      exact ⟨b, fn, D, tmps, a1, a2, a3, fun t p hp => (a4 t p hp).trim (h2 p (List.mem_of_getElem? hp))⟩
    | cells ver cs =>
      refine ⟨h1.1, fun b hb => ?_⟩
      obtain ⟨c, t, fz, f, a1, a2, a3, a4, a5, a6⟩ := h1.2 b hb
      exact ⟨c, t, fz, f, a1, a2, a3, fun k p hp => (a4 k p hp).trim (h2 p (List.mem_of_getElem? hp)), a5, a6⟩
  inj := fun i j b hi hj => by
    have up : ∀ i, Alive K i → Alive (K ++ L) i := fun i hi => by obtain ⟨o, ho⟩ := hi; exact ⟨o, (List.getElem?_append_left (Alive.lt ⟨o, ho⟩)).trans ho⟩
    exact h.inj i j b (up i hi) (up j hj)

theorem trim_ext {β0 : Nat → Option Nat} {H0 : Heap} {w0 : World} {β : Nat → Option Nat} {K L : Heap} {w : World} (hl : H0.length ≤ K.length) (h : Ext β0 H0 w0 β (K ++ L) w) : Ext β0 H0 w0 β K w where
  len := hl
  live := fun i ver hi => by
    obtain ⟨h1, h2⟩ := h.live i ver hi
    have hlt : i < K.length := Nat.lt_of_lt_of_le hi.1 hl
    have e : (K ++ L)[i]? = K[i]? := List.getElem?_append_left hlt
    refine ⟨⟨hlt, fun o ho => h1.2 o (e.trans ho)⟩, fun hlv => ?_⟩
    obtain ⟨o, ho, hv⟩ := hlv
    have := h2 ⟨o, e.trans ho, hv⟩
    have eo : olen K i = olen (K ++ L) i := by unfold olen; rw [e]
    rw [eo]
    exact this
  imm := fun b hb => by
    obtain ⟨h1, h2⟩ := h.imm b hb
    exact ⟨h1, h2.1, fun i hi => h2.2 i (hi.get (List.getElem?_append_left hi.lt))⟩
  os := h.os
  tape := h.tape
  output := h.output
  size := h.size

/-- An object is forgotten. -/
theorem kill_get {H : Heap} {i j : Nat} {o : OB} (h : (H.set i none)[j]? = some (some o)) : H[j]? = some (some o) ∧ j ≠ i := by
  by_cases e : j = i
  · subst e
    rcases Nat.lt_or_ge j H.length with hi | hi
    · rw [List.getElem?_set_self hi] at h; cases h
    · rw [List.getElem?_eq_none (by simpa using hi)] at h; cases h
  · rw [List.getElem?_set_ne (Ne.symm e)] at h; exact ⟨h, e⟩

theorem kill_ext (β : Nat → Option Nat) (H : Heap) (w : World) (i : Nat) : Ext β H w β (H.set i none) w where
  len := by simp
  live := fun j ver hj => by
    refine ⟨⟨by simpa using hj.1, fun o ho => hj.2 o (kill_get ho).1⟩, fun hl => ?_⟩
    obtain ⟨o, ho, hv⟩ := hl
    have h1 := (kill_get ho).1
    refine ⟨⟨o, h1, hv⟩, rfl, ?_, fun _ _ => rfl⟩
    unfold olen; rw [h1, ho]
  imm := fun b hb => ⟨rfl, hb.1, fun j hj => hb.2 j (by obtain ⟨o, ho, h1⟩ := hj; exact ⟨o, (kill_get ho).1, h1⟩)⟩
  os := rfl
  tape := rfl
  output := rfl
  size := Nat.le_refl _

theorem kill_inv {β : Nat → Option Nat} {H : Heap} {w : World} {i : Nat} (h : Inv β H w) : Inv β (H.set i none) w where
  ok := fun j o ho => (h.ok j o (kill_get ho).1).mono (kill_ext β H w i) rfl fun _ _ => rfl
  inj := fun j k b hj hk => by
    have up : ∀ j, Alive (H.set i none) j → Alive H j := fun j hj => by obtain ⟨o, ho⟩ := hj; exact ⟨o, (kill_get ho).1⟩
    exact h.inj j k b (up j hj) (up k hk)

/-- A step of the abstract state while the world stands still. -/
def Ghost (H0 : Heap) (σ : Env) (H : Heap) (σ' : Env) (H' : Heap) : Prop :=
  ∀ β0 w0 β w a, Inv β H w → Ext β0 H0 w0 β H w → FR w0.heap.size β H w a σ → ∃ β', Inv β' H' w ∧ Ext β0 H0 w0 β' H' w ∧ FR w0.heap.size β' H' w a σ'

section
variable {H0 : Heap} {σ σ' σ'' : Env} {H H' H'' : Heap}

theorem Ghost.refl : Ghost H0 σ H σ H := fun _ _ β _ _ h1 h2 h3 => ⟨β, h1, h2, h3⟩
theorem Ghost.trans (a : Ghost H0 σ H σ' H') (b : Ghost H0 σ' H' σ'' H'') : Ghost H0 σ H σ'' H'' := fun β0 w0 β w ac h1 h2 h3 => by
  obtain ⟨β', a1, a2, a3⟩ := a β0 w0 β w ac h1 h2 h3
  exact b β0 w0 β' w ac a1 a2 a3

/-- Slots are forgotten, the last objects dropped. -/
theorem Marks.trim {n : Nat} {K L : Heap} {β : Nat → Option Nat} {w : World} {ds : List Deferred} (h : Marks n β (K ++ L) w ds) : Marks n β K w ds := ⟨fun d hd => by
  obtain ⟨D, h1, h2, h3, h4⟩ := h.at_ d hd
  exact ⟨D, h1, h2, ⟨h3.1, fun i hi => h3.2 i (hi.get (List.getElem?_append_left hi.lt))⟩, h4⟩, h.ne⟩
theorem Ghost.trim {K L : Heap} (hK : HB K.length K) (hl : H0.length ≤ K.length) (hs : σ'.length = σ.length) (h : ∀ (i : Nat) (p : PV), σ'[i]? = some p → p = .any ∨ (σ[i]? = some p ∧ Bdd K.length p)) : Ghost H0 σ (K ++ L) σ' K :=
  fun β0 w0 β w a h1 h2 h3 => ⟨β, trim_inv hK h1, trim_ext hl h2, by
    have := h3.size
    refine ⟨by rw [hs]; exact this, fun t p hp => ?_, h3.defers.trim⟩
    rcases h t p hp with rfl | ⟨hp', hb⟩
    · exact .any _
    · exact (h3.v t p hp').trim hb⟩

theorem Ghost.weak (hs : σ'.length = σ.length) (h : ∀ (i : Nat) (p : PV), σ'[i]? = some p → p = .any ∨ σ[i]? = some p) : Ghost H0 σ H σ' H :=
  fun β0 w0 β w a h1 h2 h3 => ⟨β, h1, h2, by
    have := h3.size
    refine { h3 with size := by rw [hs]; exact this, v := fun t p hp => ?_ }
    rcases h t p hp with rfl | hp'
    · exact .any _
    · exact h3.v t p hp'⟩

/-- A slice that grew in an object of its own is a read-only one from here on. -/
theorem Ghost.freeze {t i ver off len m : Nat} {tip : Bool} {cs xs : List PV} (ht : σ[t]? = some (.buf i ver off len m tip)) (ho : H[i]? = some (some (.cells ver cs)))
    (hx : flat xs = subCells cs off (len * m)) (hl : xs.length = len) (hm : ∀ x ∈ xs, x.cells.length = m) : Ghost H0 σ H (σ.set t (.sl m xs)) (H.set i none) :=
  fun β0 w0 β w a h1 h2 h3 => ⟨β, kill_inv h1, h2.trans (kill_ext β H w i), by
    have h4 := h3.mono (kill_ext β H w i)
    refine { h4 with size := by rw [List.length_set]; exact h4.size, v := fun j p hp => ?_ }
    by_cases e : t = j
    · subst e
      have hlt : t < σ.length := by
        rcases Nat.lt_or_ge t σ.length with h | h
        · exact h
        · rw [List.getElem?_eq_none h] at ht; cases ht
      rw [List.getElem?_set_self hlt] at hp
      cases hp
      have hv := h3.v t _ ht
      generalize a.tmps.getD t undef = v at hv ⊢
      subst hl
      cases hv with
      | buf ad cap _ _ _ _ _ _ hc ha hi h =>
        by_cases hz : xs = []
        · subst hz; exact .sl0 _ _ _
        have hne : xs.length ≠ 0 := by simpa using hz
        obtain ⟨b, rfl⟩ := ha hne
        obtain ⟨hn, hs⟩ := h ⟨_, ho, rfl⟩
        have hob := h1.ok i _ ho
        cases hb : β i with
        | none => have := (hn hb).1; omega
        | some b' =>
          have hb' : b = b' := by
            rcases hs b' hb with ⟨h, _⟩ | ⟨h, _⟩
            · exact absurd h hne
            · cases h; rfl
          subst hb'
          obtain ⟨c, ty, fz, f, a1, a2, a3, a4, a5, a6⟩ := hob.2 b hb
          have hlen := congrArg List.length hx
          have hfl : (flat xs).length = xs.length * m := by
            clear hx ha h hs hlen hne hz hc ht h3 hlt
            induction xs with
            | nil => simp [flat]
            | cons x xs ih =>
              have := ih fun y hy => hm y (List.mem_cons_of_mem _ hy)
              have hx := hm x (by simp)
              simp only [flat, List.flatMap_cons, List.length_append] at this ⊢
              rw [this, hx, List.length_cons, Nat.succ_mul]; omega
          have hle : (flat xs).length ≤ cs.length - off := by rw [hx]; simp [subCells]; omega
          have hpos : ∀ k, k < (flat xs).length → off + k < cs.length := fun k hk => by omega
          refine .sl b off cap m xs (fun k => f (off + k)) ⟨?_, fun j hj => ?_⟩ hm hc (fun k hk => ?_) (fun k p hp => ?_) fun k hk => a5 _ (hpos k hk)
          · exact h1.block ⟨_, ho⟩ hb
          · intro hjb
            obtain ⟨o, hoj, _⟩ := hj
            obtain ⟨hj1, hj2⟩ := kill_get hoj
            exact hj2 (h1.inj j i b ⟨o, hj1⟩ ⟨_, ho⟩ hjb hb)
          · rw [cell_of a1]; exact a3 _ (hpos k hk)
          · have hk : k < (flat xs).length := by
              rcases Nat.lt_or_ge k (flat xs).length with h | h
              · exact h
              · rw [List.getElem?_eq_none h] at hp; cases hp
            refine (a4 (off + k) p ?_).mono (kill_ext β H w i)
            rw [hx] at hp
            simp only [subCells] at hp
            rw [List.getElem?_take_of_lt (by omega), List.getElem?_drop] at hp
            exact hp
    · rw [List.getElem?_set_ne e] at hp
      exact h4.v j p hp⟩

/-- A nil slice is an empty one that may grow. -/
theorem Ghost.grow {t m : Nat} (ht : σ[t]? = some .nils) : Ghost H0 σ H (σ.set t (.buf H.length 0 0 0 m true)) (H ++ [some (.cells 0 [])]) :=
  fun β0 w0 β w a h1 h2 h3 => by
    have hs : Same w w := ⟨rfl, rfl, rfl, Nat.le_refl _⟩
    have he := push_ext (o := .cells 0 []) (r := none) h1 hs (fun _ _ => rfl) (by simp)
    have hi := push_inv (o := .cells 0 []) (r := none) h1 (fun _ _ => rfl) (by simp) he ⟨fun _ => rfl, fun b hb => by rw [more_self] at hb; cases hb⟩
    refine ⟨_, hi, h2.trans he, ?_⟩
    have h4 := h3.mono he
    refine { h4 with size := by rw [List.length_set]; exact h4.size, v := fun j p hp => ?_ }
    by_cases e : t = j
    · subst e
      have hlt : t < σ.length := by
        rcases Nat.lt_or_ge t σ.length with h | h
        · exact h
        · rw [List.getElem?_eq_none h] at ht; cases ht
      rw [List.getElem?_set_self hlt] at hp
      cases hp
      have hv := h3.v t _ ht
      generalize a.tmps.getD t undef = v at hv ⊢
      rw [hv.nils_inv]
      refine .buf none 0 _ 0 0 0 m true (Nat.le_refl _) (fun h => absurd rfl h) ⟨by simp, fun o ho => ?_⟩ fun _ => ⟨fun _ => ⟨rfl, fun _ => rfl⟩, fun b hb => ?_⟩
      · exact Nat.zero_le _
      · rw [more_self] at hb; cases hb
    · rw [List.getElem?_set_ne e] at hp
      exact h4.v j p hp

theorem Ghost.run {P : Program} {ro : Bool} {its : List It} {Φ : AEx → Env → Heap → Prop} (g : Ghost H0 σ H σ' H') (h : Run P ro H0 its σ' H' Φ) : Run P ro H0 its σ H Φ :=
  fun β0 w0 β w a h1 h2 h3 => by
    intro r hro
    obtain ⟨β', a1, a2, a3⟩ := g β0 w0 β w a h1 h2 h3
    exact h β0 w0 β' w a a1 a2 a3 r hro

variable {P : Program} {T : Nat → Option TD} {ord : Nat → List Nat} {Φ : AEx → Env → Heap → Prop}

def calmB : It → Bool
  | .code _ | .blk _ | .loop _ => true
  | _ => false

theorem calm_of {its : List It} (hc : its.all calmB = true) : ∀ it ∈ its, Calm it := fun it hit => by
  have := List.all_eq_true.mp hc it hit
  cases it <;> simp_all [Calm, calmB]

theorem Runs.ghost {its : List It} (hc : its.all calmB = true) (g : Ghost H0 σ H σ' H') (h : Runs P T ord H0 its σ' H' Φ) : Runs P T ord H0 its σ H Φ := by
  have hcalm := calm_of hc
  intro hok
  have h1 := g.run (runs_calm hcalm hok h)
  cases its with
  | nil => exact h1
  | cons it k =>
    have := hcalm it (by simp)
    cases it <;> simp only [Calm] at this <;> exact h1

/-- What one round of a loop is to show. -/
def Round (P : Program) (T : Nat → Option TD) (ord : Nat → List Nat) (H0 : Heap) (Φ : AEx → Env → Heap → Prop) (its : List It) (I : Nat → Env → Heap → Prop) (n : Nat) : AEx → Env → Heap → Prop
  | .normal, σ, H => ∃ m, m < n ∧ ∃ σ' H', Ghost H0 σ H σ' H' ∧ I m σ' H'
  | .exit id, σ, H => match toBlk id its with
    | some k => Run P (inR ord) H0 k σ H Φ
    | none => Φ (.exit id) σ H
  | .ret, σ, H => Φ .ret σ H

theorem toBlk_sub {id : Nat} : ∀ (k k' : List It), toBlk id k = some k' → ∀ x ∈ k', x ∈ k := by
  intro k
  induction k with
  | nil => intro k' h; cases h
  | cons it k ihk =>
    intro k' h x hx
    cases it <;> simp only [toBlk] at h
    case blk i =>
      split at h
      · cases h; exact List.mem_cons_of_mem _ hx
      · exact List.mem_cons_of_mem _ (ihk k' h x hx)
    all_goals exact List.mem_cons_of_mem _ (ihk k' h x hx)

theorem run_loop {c : Code} {its : List It} (I : Nat → Env → Heap → Prop)
    (step : ∀ n σ H, I n σ H → Run P (inR ord) H0 [.code c] σ H (Round P T ord H0 Φ its I n)) :
    ∀ n σ H, I n σ H → Run P (inR ord) H0 (.loop c :: its) σ H Φ := by
  intro n σ H hI0 β0 w0 β w a hI hE hF r hro
  show (Code.loop c).wpIn (wideR r) 0 P (kontL P r (Fin Φ β0 H0 w0) its) a w
  let J : Nat → Act → World → Prop := fun n a w => ∃ σ H β, I n σ H ∧ Inv β H w ∧ Ext β0 H0 w0 β H w ∧ FR w0.heap.size β H w a σ
  classical
  have hex : ∀ a w, (∃ n, J n a w) → ∃ n, J n a w ∧ ∀ m, J m a w → n ≤ m := fun a w h => by
    obtain ⟨n, hn⟩ := h
    induction n using Nat.strongRecOn with
    | _ n ih =>
      by_cases hm : ∃ m, m < n ∧ J m a w
      · obtain ⟨m, hlt, hm⟩ := hm; exact ih m hlt hm
      · exact ⟨n, hn, fun m hj => by
          rcases Nat.lt_or_ge m n with h | h
          · exact absurd ⟨m, h, hj⟩ hm
          · exact h⟩
  let μ : Act → World → Nat := fun a w => if h : ∃ n, J n a w then Classical.choose (hex a w h) else 0
  have hμ : ∀ a w, (∃ n, J n a w) → J (μ a w) a w ∧ ∀ m, J m a w → μ a w ≤ m := fun a w h => by
    show J (if h : ∃ n, J n a w then Classical.choose (hex a w h) else 0) a w ∧ ∀ m, J m a w → (if h : ∃ n, J n a w then Classical.choose (hex a w h) else 0) ≤ m
    rw [dif_pos h]
    exact Classical.choose_spec (hex a w h)
  refine wpIn_loop (fun a w => ∃ n, J n a w) μ ⟨n, σ, H, β, hI0, hI, hE, hF⟩ fun a w hj => ?_
  obtain ⟨σ1, H1, β1, j1, j2, j3, j4⟩ := (hμ a w hj).1
  refine wpIn_mono (step _ σ1 H1 j1 β0 w0 β1 w a j2 j3 j4 r hro) fun e a' w' he => ?_
  obtain ⟨x, σ2, H2, β2, hx, k1, k2, k3, k4⟩ := he
  cases e <;> cases x <;> simp only [exOk] at hx
  · obtain ⟨m, hm, σ3, H3, g, hi3⟩ := k4
    obtain ⟨β3, g1, g2, g3⟩ := g β0 w0 β2 w' a' k1 k2 k3
    refine ⟨⟨m, σ3, H3, β3, hi3, g1, g2, g3⟩, ?_⟩
    have := (hμ a' w' ⟨m, σ3, H3, β3, hi3, g1, g2, g3⟩).2 m ⟨σ3, H3, β3, hi3, g1, g2, g3⟩
    exact Nat.lt_of_le_of_lt this hm
  · subst hx
    rename_i id
    refine (kont_exit id its a' w').mpr ?_
    simp only [Round] at k4
    split at k4
    · rename_i k hk
      simp only [hk]
      exact k4 β0 w0 β2 w' a' k1 k2 k3 r hro
    · rename_i hk
      simp only [hk]
      exact ⟨.exit id, σ2, H2, β2, rfl, k1, k2, k3, k4⟩
  · exact kont_ret its a' w' ⟨.ret, σ2, H2, β2, trivial, k1, k2, k3, k4⟩

/-- As 'Round', with 'Runs'. -/
def Rnd (P : Program) (T : Nat → Option TD) (ord : Nat → List Nat) (H0 : Heap) (Φ : AEx → Env → Heap → Prop) (its : List It) (I : Nat → Env → Heap → Prop) (n : Nat) : AEx → Env → Heap → Prop
  | .normal, σ, H => ∃ m, m < n ∧ ∃ σ' H', Ghost H0 σ H σ' H' ∧ I m σ' H'
  | .exit id, σ, H => match toBlk id its with
    | some k => Runs P T ord H0 k σ H Φ
    | none => Φ (.exit id) σ H
  | .ret, σ, H => Φ .ret σ H

theorem Run.mono1 {ro : Bool} {c : Code} {Φ' : AEx → Env → Heap → Prop} (h : Run P ro H0 [.code c] σ H Φ) (hq : ∀ x σ H, Φ x σ H → Φ' x σ H) : Run P ro H0 [.code c] σ H Φ' := by
  intro β0 w0 β w a hI hE hF r hro
  have h1 : c.wpIn (wideR r) 0 P (kontL P r (Fin Φ β0 H0 w0) []) a w := h β0 w0 β w a hI hE hF r hro
  show c.wpIn (wideR r) 0 P (kontL P r (Fin Φ' β0 H0 w0) []) a w
  refine wpIn_mono h1 fun e a w he => ?_
  obtain ⟨x, σ, H, β, h1, h2, h3, h4, h5⟩ := he
  exact ⟨x, σ, H, β, h1, h2, h3, h4, hq _ _ _ h5⟩

/-- A loop, by what holds at each round's begin, and a number that falls. -/
theorem runs_loop {c : Code} {its : List It} (hc : its.all calmB = true) (I : Nat → Env → Heap → Prop)
    (step : ∀ n σ H, I n σ H → Runs P T ord H0 [.code c] σ H (Rnd P T ord H0 Φ its I n)) {n : Nat} (h0 : I n σ H) : Runs P T ord H0 (.loop c :: its) σ H Φ := by
  have hcalm := calm_of hc
  intro hok
  have hcc : codeOk T ord c = true := hok.1 (.loop c) (by simp)
  refine run_loop (T := T) (ord := ord) I (fun n σ H hI => (step n σ H hI ⟨fun it hit => ?_, by simp⟩).mono1 fun x σ2 H2 h2 => ?_) n σ H h0
  · simp only [List.mem_singleton] at hit; subst hit; exact hcc
  · cases x with
    | normal => exact h2
    | ret => exact h2
    | exit id =>
      simp only [Rnd, Round] at h2 ⊢
      split at h2
      · rename_i k hk
        have hs := toBlk_sub its k hk
        exact runs_calm (fun x hx => hcalm x (hs x hx)) ⟨fun x hx => hok.1 x (List.mem_cons_of_mem _ (hs x hx)), fun x hx => hcalm x (hs x (List.mem_of_mem_tail hx))⟩ h2
      · exact h2

/-- A function's results, as they lie in its temporaries. -/
def retV (σ : Env) : List Nat → PV
  | [t] => σ.getD t .any
  | ts => .tup (ts.map fun t => σ.getD t .any)

theorem slot {n : Nat} {β : Nat → Option Nat} {w : World} {a : Act} (h : FR n β H w a σ) (t : Nat) : V β H w (a.tmps.getD t undef) (σ.getD t .any) := h.opn (.tmp t)

theorem run_mapTmp {F : ResultVar → Sem Value} {g : Nat → Value} (hF : ∀ t, F (.tmp t) = pure (g t)) (rs : List Nat) (w : World) :
    ((rs.map ResultVar.tmp).toArray.mapM F).run P w = .ok (rs.map g).toArray w := by
  have this : ∀ (rs : List Nat) (w : World), ((rs.map ResultVar.tmp).mapM F).run P w = .ok (rs.map g) w := by
    intro rs
    induction rs with
    | nil => intro w; rfl
    | cons t rs ih =>
      intro w
      simp only [List.map_cons, List.mapM_cons, hF, Sem.run_bind, Sem.run_pure, Result.andThen_ok, ih]
  rw [List.mapM_toArray]
  rw [map_eq_pure_bind, Sem.run_bind, this]
  rfl

theorem results_ok {n : Nat} {β : Nat → Option Nat} {w : World} {a : Act} {fn : Func} {rs : List Nat} (hr : fn.results = (rs.map ResultVar.tmp).toArray) (h : FR n β H w a σ) :
    ∃ v, (results fn a.tmps).run P w = .ok v w ∧ V β H w v (retV σ rs) := by
  unfold results
  rw [hr]
  simp only [Sem.run_bind]
  rw [run_mapTmp (g := fun t => a.tmps.getD t undef) (fun t => rfl) rs w]
  simp only [Result.andThen_ok, Sem.run_pure]
  refine ⟨_, rfl, ?_⟩
  by_cases h1 : rs.length = 1
  · obtain ⟨t, rfl⟩ := List.length_eq_one_iff.mp h1
    simpa [retV] using slot h t
  · have e : retV σ rs = .tup (rs.map fun t => σ.getD t .any) := by
      unfold retV
      split
      · simp at h1
      · rfl
    rw [e, dif_neg (by simpa using h1)]
    refine .tup _ _ (by simp) fun i v p hv hp => ?_
    simp only [List.getElem?_toArray, List.getElem?_map] at hv hp
    cases ht : rs[i]? with
    | none => rw [ht] at hv; cases hv
    | some t =>
      rw [ht] at hv hp
      simp only [Option.map_some, Option.some.injEq] at hv hp
      subst hv; subst hp
      exact slot h t

/-- What a function's body is to show. -/
def Ends (H0 : Heap) (rs : List Nat) (Q : PV → Heap → Prop) (x : AEx) (σ : Env) (H : Heap) : Prop :=
  (match x with
  | .exit _ => False
  | _ => True) ∧ ∃ σ' H', Ghost H0 σ H σ' H' ∧ Q (retV σ' rs) H'

/-- From one world to the next some blocks of deferred calls were shut. -/
structure Off (n : Nat) (w w' : World) : Prop where
  os : w'.os = w.os
  tape : w'.tape = w.tape
  output : w'.output = w.output
  size : w'.heap.size = w.heap.size
  heap : ∀ b : Nat, w'.heap[b]? = w.heap[b]? ∨ (n ≤ b ∧ (∃ x, w.heap[b]? = some (.deferred x)) ∧ ∃ x, w'.heap[b]? = some (.deferred x))
theorem Off.refl {n : Nat} {w : World} : Off n w w := ⟨rfl, rfl, rfl, rfl, fun _ => .inl rfl⟩
theorem Off.trans {n : Nat} {w w1 w2 : World} (a : Off n w w1) (b : Off n w1 w2) : Off n w w2 := ⟨b.os.trans a.os, b.tape.trans a.tape, b.output.trans a.output, b.size.trans a.size, fun k => by
  rcases a.heap k with ha | ⟨a1, a2, a3⟩
  · rcases b.heap k with hb | ⟨b1, b2, b3⟩
    · exact .inl (hb.trans ha)
    · exact .inr ⟨b1, by rw [← ha]; exact b2, b3⟩
  · rcases b.heap k with hb | ⟨b1, b2, b3⟩
    · exact .inr ⟨a1, a2, by rw [hb]; exact a3⟩
    · exact .inr ⟨a1, a2, b3⟩⟩
theorem Off.get {n : Nat} {w w' : World} (h : Off n w w') {b : Nat} {o : Obj} (ho : w.heap[b]? = some o) (hn : ∀ x, o ≠ .deferred x) : w'.heap[b]? = some o := by
  rcases h.heap b with h1 | ⟨_, ⟨x, h2⟩, _⟩
  · exact h1.trans ho
  · rw [ho] at h2; exact absurd (Option.some.inj h2) (hn x)
theorem Off.cell {n : Nat} {w w' : World} (h : Off n w w') {a : Addr} {v : Value} (hc : w.cell? a = some v) : w'.cell? a = some v := by
  rcases h.heap a.block with h1 | ⟨_, ⟨x, h2⟩, _⟩
  · rw [cell?_of_heap h1]; exact hc
  · unfold World.cell? at hc; simp [h2] at hc
theorem Off.bsize {n : Nat} {w w' : World} (h : Off n w w') (b : Nat) : SL.bsize w' b = SL.bsize w b := by
  unfold SL.bsize
  rcases h.heap b with h1 | ⟨_, ⟨x, h2⟩, ⟨y, h3⟩⟩
  · rw [h1]
  · rw [h2, h3]
theorem Off.imm {n : Nat} {w w' : World} (h : Off n w w') {β : Nat → Option Nat} {b : Nat} (hi : Imm β H w b) : Imm β H w' b := ⟨by rw [h.size]; exact hi.1, hi.2⟩
theorem V.off {n : Nat} {w w' : World} (e : Off n w w') {β : Nat → Option Nat} {v : Value} {p : PV} (h : V β H w v p) : V β H w' v p := by
  induction h with
  | any v => exact .any v
  | bool b => exact .bool b
  | int k n => exact .int k n
  | str s => exact .str s
  | agg vs ps hs h ih => exact .agg vs ps hs ih
  | tup vs ps hs h ih => exact .tup vs ps hs ih
  | nilp => exact .nilp
  | ptr b i ver off hi h => exact .ptr b i ver off hi h
  | nils => exact .nils
  | empt a => exact .empt a
  | sl0 a c m => exact .sl0 a c m
  | sl b off cap m xs f hb hm hc h1 h2 h3 ih => exact .sl b off cap m xs f (e.imm hb) hm hc (fun k hk => e.cell (h1 k hk)) ih h3
  | buf a cap i ver off len m tip hc ha hi h =>
    refine .buf a cap i ver off len m tip hc ha hi fun hl => ⟨(h hl).1, fun b hb => ?_⟩
    rw [e.bsize]; exact (h hl).2 b hb
  | cptr b off p f hb h1 h2 h3 ih => exact .cptr b off p f (e.imm hb) (fun k hk => e.cell (h1 k hk)) ih h3
  | func fn vs ws ps qs hs hs' h h' ih ih' => exact .func fn vs ws ps qs hs hs' ih ih'
  | nilf => exact .nilf
  | iface t v p h ih => exact .iface t v p ih
  | nili => exact .nili
  | nilm => exact .nilm
  | mp b i hi h => exact .mp b i hi h
  | yld b i hi h => exact .yld b i hi h
theorem Inv.off {n : Nat} {w w' : World} (e : Off n w w') {β : Nat → Option Nat} (h : Inv β H w) : Inv β H w' where
  ok := fun i o ho => by
    have h1 := h.ok i o ho
    cases o with
    | striter s pos => obtain ⟨b, a1, a2⟩ := h1; exact ⟨b, a1, e.get a2 (by simp)⟩
    | glob b o => obtain ⟨a1, a2, c, t, fz, rfl⟩ := h1; exact ⟨a1, e.get a2 (by simp), c, t, fz, rfl⟩
    | map es => obtain ⟨b, c, k, a1, a2, a3, a4, a5⟩ := h1; exact ⟨b, c, k, a1, e.get a2 (by simp), a3, fun j x p hx hp => ⟨(a4 j x p hx hp).1.off e, (a4 j x p hx hp).2.off e⟩, a5⟩
    | mapx k bs es => obtain ⟨b, c, a1, a2, a3, a4, a5⟩ := h1; exact ⟨b, c, a1, e.get a2 (by simp), a3, fun j x p hx hp => ⟨(a4 j x p hx hp).1.off e, (a4 j x p hx hp).2.off e⟩, a5⟩
    | mapit k since seen last => obtain ⟨b, bm, a1, a2, a3⟩ := h1; exact ⟨b, bm, a1, e.get a2 (by simp), a3⟩
    | lrec st pend σ ps asg body => obtain ⟨b, fn, D, tmps, a1, a2, a3, a4⟩ := h1; exact ⟨b, fn, D, tmps, a1, e.get a2 (by simp), a3, fun t p hp => (a4 t p hp).off e⟩
    | cells ver cs =>
      refine ⟨h1.1, fun b hb => ?_⟩
      obtain ⟨c, t, fz, f, a1, a2, a3, a4, a5, a6⟩ := h1.2 b hb
      exact ⟨c, t, fz, f, e.get a1 (by simp), a2, a3, fun k p hp => (a4 k p hp).off e, a5, a6⟩
  inj := h.inj
theorem Ext.off {β0 β : Nat → Option Nat} {w0 w w' : World} (e : Off w0.heap.size w w') (h : Ext β0 H0 w0 β H w) : Ext β0 H0 w0 β H w' where
  len := h.len
  live := fun i ver hi => ⟨(h.live i ver hi).1, fun hl => by
    obtain ⟨a1, a2, a3, a4⟩ := (h.live i ver hi).2 hl
    exact ⟨a1, a2, a3, fun b hb => (e.bsize b).trans (a4 b hb)⟩⟩
  imm := fun b hb => by
    obtain ⟨a1, a2⟩ := h.imm b hb
    refine ⟨?_, e.imm a2⟩
    rcases e.heap b with h1 | ⟨h1, _⟩
    · exact h1.trans a1
    · exact absurd hb.1 (by omega)
  os := e.os.trans h.os
  tape := e.tape.trans h.tape
  output := e.output.trans h.output
  size := by rw [e.size]; exact h.size

/-- A function's way out, over the marks. -/
theorem leave_marks {fn : Func} {tmps : Array Value} {R : Ending → World → Prop} {β : Nat → Option Nat} {n : Nat} : ∀ (ds : List Deferred) (w : World), Marks n β H w ds →
    (∀ w2, Off n w w2 → ∃ v, (results fn tmps).run P w2 = .ok v w2 ∧ R (.returned v) w2) → LeavesInM Fence.wide 0 P fn tmps R ds .returning w
  | [], w, _, h => by
    obtain ⟨v, h1, h2⟩ := h w .refl
    exact ⟨v, h1, h2⟩
  | d :: ds, w, hm, h => by
    obtain ⟨D, hd, hn, hi, hD⟩ := hm.at_ d (by simp)
    have hoff : Off n w (w.putObj D (.deferred none)) := ⟨rfl, rfl, rfl, by simp, fun b => by
      by_cases e : b = D
      · subst e; exact .inr ⟨hn, ⟨_, hD⟩, _, World.putObj_heap_same hi.1⟩
      · exact .inl (World.putObj_heap_other e)⟩
    refine ⟨by simp, .inl ⟨D, _, by rw [hd], run_takeDeferred hD, leave_marks (β := β) ds _ ⟨fun d' hd' => ?_, (List.pairwise_cons.mp hm.ne).2⟩ fun w2 h2 => h w2 (hoff.trans h2)⟩⟩
    obtain ⟨D', h1, h2, h3, h4⟩ := hm.at_ d' (List.mem_cons_of_mem _ hd')
    refine ⟨D', h1, h2, hoff.imm h3, ?_⟩
    have hne : D' ≠ D := fun e => (List.pairwise_cons.mp hm.ne).1 d' hd' (by rw [hd, h1, e])
    rw [World.putObj_heap_other hne]; exact h4

theorem scall_of {f : FuncId} {fn : Func} {c : Code} {rs : List Nat} {args : List PV} {Q : PV → Heap → Prop} (hf : P.funcs[f]? = some fn) (hb : fn.body = some c) (hn : (fn.name == "runtime.NumGoroutine") = false)
    (hr : fn.results = (rs.map ResultVar.tmp).toArray) (hc : codeOk T ord c = true) {nt : Nat} (hnt : fn.ntmps = nt)
    (h : HB H.length H → (∀ p ∈ args, Bdd H.length p) → Runs P T ord H [.code c] (slots nt args) H (Ends H rs Q)) : SCall P f args H Q := by
  subst hnt
  refine ⟨fun vs w => ?_, fun β w vs hI hs hv => callsIn_wide.1 (callsIn_of_wp_marks (F := Fence.wide) (n := 0) hf hb trivial ?_ rfl)⟩
  · have hn' : fn.name ≠ "runtime.NumGoroutine" := by simpa using hn
    simp [callFunc, hf, hb, hn']
  · have hbd : ∀ p ∈ args, Bdd H.length p := fun p hp => by
      obtain ⟨i, hi, rfl⟩ := List.getElem_of_mem hp
      exact (hv i (vs[i]'(by omega)) _ (Array.getElem?_eq_getElem _) (List.getElem?_eq_getElem _)).bdd
    have hrun : Run P (inR ord) H [.code c] (slots fn.ntmps args) H (Ends H rs Q) := h hI.hb hbd ⟨fun it hit => by
      simp only [List.mem_singleton] at hit; subst hit; exact hc, by simp⟩
    have hF : FR w.heap.size β H w { tmps := vs ++ Array.replicate (fn.ntmps - vs.size) undef, defers := [] } (slots fn.ntmps args) := by
      refine ⟨by simp [slots, hs], fun t p hp => ?_, .nil⟩
      unfold slots at hp
      rcases Nat.lt_or_ge t args.length with ht | ht
      · rw [List.getElem?_append_left ht] at hp
        have : t < vs.size := by omega
        simp only [Array.getD_eq_getD_getElem?, Array.getElem?_append_left this, Array.getElem?_eq_getElem this, Option.getD_some]
        exact hv t _ _ (Array.getElem?_eq_getElem this) hp
      · rw [List.getElem?_append_right ht] at hp
        have := List.mem_of_getElem? hp
        rw [List.mem_replicate] at this
        rw [this.2]
        exact .any _
    refine wpIn_mono (hrun β w β w _ hI (Ext.refl ..) hF none (fun _ => rfl)) fun e a' w' he => ?_
    obtain ⟨x, σ', H', β', hx, h1, h2, h3, h4, σ2, H2, g, hq⟩ := he
    obtain ⟨β2, g1, g2, g3⟩ := g β w β' w' a' h1 h2 h3
    have fin : LeavesInM Fence.wide 0 P fn a'.tmps (fun e w' => ∃ v r β' H', e = .returned v ∧ Inv β' H' w' ∧ Ext β H w β' H' w' ∧ V β' H' w' v r ∧ Q r H') a'.defers .returning w' :=
      leave_marks a'.defers w' g3.defers fun w2 hw2 => by
        have g4 : FR w.heap.size β2 H2 w2 { a' with defers := [] } σ2 := ⟨g3.size, fun t p hp => (g3.v t p hp).off hw2, .nil⟩
        obtain ⟨v, hv1, hv2⟩ := results_ok (P := P) hr g4
        exact ⟨v, hv1, v, _, β2, H2, rfl, g1.off hw2, g2.off hw2, hv2, hq⟩
    cases e <;> cases x <;> simp only [exOk] at hx
    · exact fin
    · exact h4.elim
    · exact fin

end

end Go.Proofs.SL
