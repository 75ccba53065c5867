/-
  SL: the evaluator is sound. No claim by itself.
-/
import Derived.Test.YtdjdhcljdcljoaaSlRun
namespace Go.Proofs.SL
open Go
set_option linter.unusedSimpArgs false
set_option linter.unusedVariables false

/-- The operation's guard, if it has one, is met. -/
def guardYes (all : List Oper) (o : Oper) (σ : Env) : Prop :=
  guardOf all o = none ∨ ∃ t want, guardOf all o = some (some t, want) ∧ σ.getD t .any = .bool want

/-- A guard that is not met: it says otherwise, or what it hangs on was passed by. -/
def guardNo (σ : Env) (t : Nat) (want : Bool) : Prop := σ.getD t .any = .bool (!want) ∨ σ.getD t .any = .tup []

/-- Operations carried out one by one, in the order given. -/
inductive Plan (P : Program) (T : Nat → Option TD) (all : List Oper) (Ψ : Env → Heap → Prop) : List Nat → Env → Heap → Prop
  | done {σ : Env} {H : Heap} (h : Ψ σ H) : Plan P T all Ψ [] σ H
  | pass {i : Nat} {l : List Nat} {σ : Env} {H : Heap} {o : Oper} {t : Nat} {want : Bool} (ho : all[i]? = some o) (hg : guardOf all o = some (some t, want)) (hb : guardNo σ t want)
      (h : Plan P T all Ψ l (upd σ o.dst (.tup [])) H) : Plan P T all Ψ (i :: l) σ H
  | val {i : Nat} {l : List Nat} {σ : Env} {H H' : Heap} {o : Oper} {m : Bool} {v : PV} (ho : all[i]? = some o) (hg : guardYes all o σ) (ha : aop T m (opn σ) H o.op = .val true v H')
      (h : Plan P T all Ψ l (upd σ o.dst v) H') : Plan P T all Ψ (i :: l) σ H
  | br {i : Nat} {l : List Nat} {σ : Env} {H H1 H2 : Heap} {o : Oper} {m c : Bool} {v1 v2 : PV} (ho : all[i]? = some o) (hg : guardYes all o σ) (ha : aop T m (opn σ) H o.op = .br c v1 H1 v2 H2)
      (h1 : c = true → Plan P T all Ψ l (upd σ o.dst v1) H1) (h2 : c = false → Plan P T all Ψ l (upd σ o.dst v2) H2) : Plan P T all Ψ (i :: l) σ H
  | call {i : Nat} {l : List Nat} {σ : Env} {H : Heap} {o : Oper} {m : Bool} {f : Nat} {args : List PV} {K : PV → Heap → Prop} (ho : all[i]? = some o) (hg : guardYes all o σ) (ha : aop T m (opn σ) H o.op = .call f args)
      (hs : SCall P f args H K) (h : ∀ r H', K r H' → Plan P T all Ψ l (upd σ o.dst r) H') : Plan P T all Ψ (i :: l) σ H

/-- An order in which each operation may be taken first. -/
def chk (T : Nat → Option TD) (ops : Array Oper) : Array Bool → List Nat → Bool
  | listed, [] => (Region.ready .any ops listed).isEmpty
  | listed, i :: l => (Region.ready .any ops listed).contains i && (match ops[i]? with
      | none => false
      | some oi => if blindOp T oi.op then Region.free .any ops listed i
        else if readsOp T oi.op then Region.free .any ops listed i && (List.range ops.size).all fun j => j == i || listed.getD j true || match ops[j]? with
          | some oj => oj.after.any (fun e => Region.binds .any e && e.on == i) || (blindOp T oj.op || readsOp T oj.op)
          | none => true
        else (Region.ready .any ops listed) == [i]) && chk T ops (listed.setIfInBounds i true) l

def drawOk (T : Nat → Option TD) (ops : Array Oper) (l : List Nat) : Bool :=
  Region.noSelect ops && (l.length == ops.size && chk T ops (Array.replicate ops.size false) l)

/-- All regions whose order is drawn have an order that will do. -/
def codeOk (T : Nat → Option TD) (ord : Nat → List Nat) : Code → Bool
  | .region id ops true => drawOk T ops (ord id)
  | .seq a b => codeOk T ord a && codeOk T ord b
  | .cond _ a b => codeOk T ord a && codeOk T ord b
  | .block _ c => codeOk T ord c
  | .loop c => codeOk T ord c
  | _ => true

section
variable {P : Program} {T : Nat → Option TD}

theorem guard_yes {all : List Oper} {o : Oper} {σ : Env} {β : Nat → Option Nat} {H : Heap} {w : World} {a : Act} (hF : FR β H w a σ) (h : guardYes all o σ) : Region.wanted o (yielded all.toArray a.tmps) = true := by
  unfold Region.wanted
  unfold guardYes guardOf at h
  cases hg : o.guard with
  | none => rfl
  | some jw =>
    obtain ⟨j, want⟩ := jw
    rw [hg] at h
    simp only at h
    rcases h with h | ⟨t, want', h, hb⟩
    · cases h
    · simp only [Option.some.injEq, Prod.mk.injEq] at h
      obtain ⟨h1, rfl⟩ := h
      simp only [yielded, List.getElem?_toArray, h1, Option.bind_some]
      have hlt : t < σ.length := by
        rcases Nat.lt_or_ge t σ.length with h | h
        · exact h
        · rw [List.getD_eq_getElem?_getD, List.getElem?_eq_none h] at hb; cases hb
      have hv := hF.v t σ[t] (List.getElem?_eq_getElem hlt)
      have hb' : σ[t] = .bool want := by simpa [List.getD_eq_getElem?_getD, hlt] using hb
      rw [hb'] at hv
      have hlt2 : t < a.tmps.size := hF.size ▸ hlt
      have hv2 := hv.bool_inv
      simp only [Array.getD_eq_getD_getElem?, Array.getElem?_eq_getElem hlt2, Option.getD_some] at hv2
      simp [Array.getElem?_eq_getElem hlt2, hv2]

theorem guard_no {all : List Oper} {o : Oper} {σ : Env} {β : Nat → Option Nat} {H : Heap} {w : World} {a : Act} (hF : FR β H w a σ) {t : Nat} {want : Bool} (h : guardOf all o = some (some t, want)) (hb : guardNo σ t want) :
    Region.wanted o (yielded all.toArray a.tmps) = false := by
  unfold Region.wanted
  unfold guardOf at h
  cases hg : o.guard with
  | none => rw [hg] at h; cases h
  | some jw =>
    obtain ⟨j, want'⟩ := jw
    rw [hg] at h
    simp only [Option.some.injEq, Prod.mk.injEq] at h
    obtain ⟨h1, rfl⟩ := h
    simp only [yielded, List.getElem?_toArray, h1, Option.bind_some]
    have hlt : t < σ.length := by
      rcases Nat.lt_or_ge t σ.length with h | h
      · exact h
      · unfold guardNo at hb; rw [List.getD_eq_getElem?_getD, List.getElem?_eq_none h] at hb; rcases hb with hb | hb <;> cases hb
    have hv := hF.v t σ[t] (List.getElem?_eq_getElem hlt)
    have hlt2 : t < a.tmps.size := hF.size ▸ hlt
    have hb' : σ[t] = .bool (!want') ∨ σ[t] = .tup [] := by simpa [guardNo, List.getD_eq_getElem?_getD, hlt] using hb
    rcases hb' with hb' | hb'
    · rw [hb'] at hv
      have hv2 := hv.bool_inv
      simp only [Array.getD_eq_getD_getElem?, Array.getElem?_eq_getElem hlt2, Option.getD_some] at hv2
      simp [Array.getElem?_eq_getElem hlt2, hv2]
    · rw [hb'] at hv
      obtain ⟨vs, hv2, _, _⟩ := hv.tup_inv
      simp only [Array.getD_eq_getD_getElem?, Array.getElem?_eq_getElem hlt2, Option.getD_some] at hv2
      simp [Array.getElem?_eq_getElem hlt2, hv2]

theorem V.skip {β : Nat → Option Nat} {H : Heap} {w : World} : V β H w undef (.tup []) := .tup #[] [] rfl (by simp)

/-- The number of an operation that leaves the heap, by its kind. -/
def qOf (T : Nat → Option TD) (all : List Oper) (j : Nat) : Bool :=
  match all[j]? with
  | some oj => blindOp T oj.op || readsOp T oj.op
  | none => false

/-- One operation taken: what it is to be shown. -/
theorem take_one {all : List Oper} {Q : Exit → Act → World → Prop} (hsel : Region.noSelect all.toArray = true) (hQ : ∀ c a w, ¬ Q (.panic c) a w) {i : Nat} {l : List Nat} {o : Oper} (ho : all[i]? = some o)
    {listed : Array Bool} {w : World} {a : Act} (hc : chk T all.toArray listed (i :: l) = true)
    (hB : blindOp T o.op = true → ∃ x, (Region.wanted o (yielded all.toArray a.tmps) = true ∧ (∀ w2, (execOp a.eval o).run P w2 = .ok (.value x) w2) ∨ Region.wanted o (yielded all.toArray a.tmps) = false ∧ x = undef) ∧
      wpAnyM P .any all.toArray Q (qOf T all) l.length (listed.setIfInBounds i true) (a.put o.dst x) w)
    (hR : blindOp T o.op = false → readsOp T o.op = true → ∃ x, (Region.wanted o (yielded all.toArray a.tmps) = true ∧ (∀ w2 : World, w2.heap = w.heap → (execOp a.eval o).run P w2 = .ok (.value x) w2) ∨ Region.wanted o (yielded all.toArray a.tmps) = false ∧ x = undef) ∧
      wpAnyM P .any all.toArray Q (qOf T all) l.length (listed.setIfInBounds i true) (a.put o.dst x) w)
    (hE : blindOp T o.op = false → readsOp T o.op = false → (Region.wanted o (yielded all.toArray a.tmps) = true ∧ o.wp P a w (wpAnyM P .any all.toArray Q (qOf T all) l.length (listed.setIfInBounds i true)) Q ∨
      Region.wanted o (yielded all.toArray a.tmps) = false ∧ wpAnyM P .any all.toArray Q (qOf T all) l.length (listed.setIfInBounds i true) (a.put o.dst undef) w)) :
    wpAnyM P .any all.toArray Q (qOf T all) (i :: l).length listed a w := by
  unfold chk at hc
  have hi : all.toArray[i]? = some o := by simpa using ho
  simp only [hi, Bool.and_eq_true] at hc
  obtain ⟨⟨hr, hcls⟩, hrest⟩ := hc
  have hr : i ∈ Region.ready .any all.toArray listed := by simpa using hr
  have hQ' : ∀ (v : Value) c a w, Q (.panic c) (a.put o.dst v) w → Q (.panic c) a w := fun v c a w h => absurd h (hQ _ _ _)
  rw [List.length_cons]
  by_cases hb : blindOp T o.op = true
  · simp only [hb, if_true] at hcls
    obtain ⟨x, hx, hrec⟩ := hB hb
    refine wpAnyM_first (fun _ => True) hi (Region.noSelect_spec hsel) (hQ' x) (fun _ _ _ _ => trivial) l.length listed a w (fun j oj hj hne hun hno => ⟨Region.free_spec hi hcls j oj hj hne hun hno, .inr fun _ => trivial⟩) hr ?_ trivial hrec
    rcases hx with ⟨h1, h2⟩ | ⟨h1, rfl⟩
    · exact .inl ⟨h1, fun w2 _ => h2 w2⟩
    · exact .inr ⟨h1, rfl⟩
  · have hb' : blindOp T o.op = false := by simpa using hb
    by_cases hrd : readsOp T o.op = true
    · simp only [hb', hrd, Bool.false_eq_true, if_false, if_true, Bool.and_eq_true] at hcls
      obtain ⟨hfree, hall⟩ := hcls
      obtain ⟨x, hx, hrec⟩ := hR hb' hrd
      refine wpAnyM_first (fun w2 => w2.heap = w.heap) hi (Region.noSelect_spec hsel) (hQ' x) (fun _ _ h1 h2 => h2.trans h1) l.length listed a w (fun j oj hj hne hun hno => ⟨Region.free_spec hi hfree j oj hj hne hun hno, .inl ?_⟩) hr ?_ rfl hrec
      · have h1 := List.all_eq_true.mp hall j (List.mem_range.mpr (Array.getElem?_eq_some_iff.1 hj).1)
        simp only [hj, Bool.or_eq_true, beq_iff_eq, hne, false_or, hun, Bool.false_eq_true] at h1
        rcases h1 with h1 | h1
        · obtain ⟨e, he, hbb⟩ := Array.any_eq_true'.1 h1
          simp only [Bool.and_eq_true, beq_iff_eq] at hbb
          exact absurd hbb.2 (hno e he hbb.1)
        · have hj' : all[j]? = some oj := by simpa using hj
          simp only [qOf, hj', Bool.or_eq_true]
          exact h1
      · rcases hx with ⟨h1, h2⟩ | ⟨h1, rfl⟩
        · exact .inl ⟨h1, h2⟩
        · exact .inr ⟨h1, rfl⟩
    · have hrd' : readsOp T o.op = false := by simpa using hrd
      simp only [hb', hrd', Bool.false_eq_true, if_false] at hcls
      have hready : Region.ready .any all.toArray listed = [i] := by simpa using hcls
      refine wpAnyM_forced hready ?_
      have hq : qOf T all i = false := by simp [qOf, ho, hb', hrd']
      unfold wpOp
      simp only [hi]
      rcases hE hb' hrd' with ⟨hw, h⟩ | ⟨hw, h⟩
      · rw [if_pos hw]
        exact .inl (Oper.wp_mono (fun a' w' h' => ⟨(fun h => by rw [hq] at h; cases h), h'⟩) h)
      · rw [if_neg (by rw [hw]; simp)]
        exact ⟨fun h => (by rw [hq] at h; cases h), h⟩

theorem chk_tail {ops : Array Oper} {listed : Array Bool} {i : Nat} {l : List Nat} (h : chk T ops listed (i :: l) = true) : chk T ops (listed.setIfInBounds i true) l = true := by
  unfold chk at h
  simp only [Bool.and_eq_true] at h
  exact h.2

theorem plan_any (hT : TOk P T) {all : List Oper} {Ψ : Env → Heap → Prop} {Q : Exit → Act → World → Prop} (hsel : Region.noSelect all.toArray = true) (hQ : ∀ c a w, ¬ Q (.panic c) a w)
    {β0 : Nat → Option Nat} {H0 : Heap} {w0 : World} (hend : ∀ σ H β w a, Ψ σ H → Inv β H w → Ext β0 H0 w0 β H w → FR β H w a σ → Q .normal a w) :
    ∀ {l : List Nat} {σ : Env} {H : Heap}, Plan P T all Ψ l σ H → ∀ (listed : Array Bool) (β : Nat → Option Nat) (w : World) (a : Act), chk T all.toArray listed l = true → Inv β H w → Ext β0 H0 w0 β H w → FR β H w a σ →
      wpAnyM P .any all.toArray Q (qOf T all) l.length listed a w := by
  intro l σ H hp
  induction hp with
  | done h =>
    intro listed β w a hc hI hE hF
    unfold chk at hc
    have hr : Region.ready .any all.toArray listed = [] := by simpa using hc
    exact ⟨hr, hend _ _ _ _ _ h hI hE hF⟩
  | @pass i l σ H o t want ho hg hb h ih =>
    intro listed β w a hc hI hE hF
    have hw := guard_no hF hg hb
    have hrec := ih (listed.setIfInBounds i true) β w (a.put o.dst undef) (chk_tail hc) hI hE (hF.put o.dst V.skip)
    exact take_one hsel hQ ho hc (fun _ => ⟨undef, .inr ⟨hw, rfl⟩, hrec⟩) (fun _ _ => ⟨undef, .inr ⟨hw, rfl⟩, hrec⟩) (fun _ _ => .inr ⟨hw, hrec⟩)
  | @val i l σ H H' o m v ho hg ha h ih =>
    intro listed β w a hc hI hE hF
    have hw := guard_yes hF hg
    refine take_one hsel hQ ho hc (fun hb => ?_) (fun hb hr => ?_) fun hb hr => .inl ⟨hw, ?_⟩
    · obtain ⟨⟨c, v'⟩, hp⟩ := blind_pure hb (opn σ)
      unfold aop at ha
      rw [hp] at ha
      simp only [R.val.injEq] at ha
      obtain ⟨rfl, rfl, rfl⟩ := ha
      obtain ⟨x, hx, hv⟩ := pure_ok hT hF.opn hp rfl
      exact ⟨x, .inl ⟨hw, hx⟩, ih _ β w _ (chk_tail hc) hI hE (hF.put o.dst hv)⟩
    · obtain ⟨hp, ⟨c, v'⟩, hrd⟩ := reads_read hr (opn σ) H
      unfold aop at ha
      rw [hp, hrd] at ha
      simp only [R.val.injEq] at ha
      obtain ⟨rfl, rfl, rfl⟩ := ha
      obtain ⟨x, hx, hv⟩ := read_ok hT hI hF.opn hrd rfl
      exact ⟨x, .inl ⟨hw, hx⟩, ih _ β w _ (chk_tail hc) hI hE (hF.put o.dst hv)⟩
    · exact op_step (aop_ok hT hI hF ha rfl) fun x w' β' h1 h2 h3 => ih _ β' w' _ (chk_tail hc) h1 (hE.trans h2) ((hF.mono h2).put o.dst h3)
  | @br i l σ H H1 H2 o m c v1 v2 ho hg ha h1 h2 ih1 ih2 =>
    intro listed β w a hc hI hE hF
    have hw := guard_yes hF hg
    refine take_one hsel hQ ho hc (fun hb => ?_) (fun hb hr => ?_) fun hb hr => .inl ⟨hw, ?_⟩
    · obtain ⟨r, hp⟩ := blind_pure hb (opn σ)
      unfold aop at ha
      rw [hp] at ha
      cases ha
    · obtain ⟨hp, r, hrd⟩ := reads_read hr (opn σ) H
      unfold aop at ha
      rw [hp, hrd] at ha
      cases ha
    · obtain ⟨hy1, hy2⟩ := aop_br (P := P) hT hI hF ha
      cases c with
      | true => exact op_step (hy1 rfl) fun x w' β' h1' h2' h3' => ih1 rfl _ β' w' _ (chk_tail hc) h1' (hE.trans h2') ((hF.mono h2').put o.dst h3')
      | false => exact op_step (hy2 rfl) fun x w' β' h1' h2' h3' => ih2 rfl _ β' w' _ (chk_tail hc) h1' (hE.trans h2') ((hF.mono h2').put o.dst h3')
  | @call i l σ H o m f args K ho hg ha hs h ih =>
    intro listed β w a hc hI hE hF
    have hw := guard_yes hF hg
    refine take_one hsel hQ ho hc (fun hb => ?_) (fun hb hr => ?_) fun hb hr => .inl ⟨hw, ?_⟩
    · obtain ⟨r, hp⟩ := blind_pure hb (opn σ)
      unfold aop at ha
      rw [hp] at ha
      cases ha
    · obtain ⟨hp, r, hrd⟩ := reads_read hr (opn σ) H
      unfold aop at ha
      rw [hp, hrd] at ha
      cases ha
    · exact aop_call hI hF ha hs fun v r w' β' H' h1 h2 h3 hK => ih r H' hK _ β' w' _ (chk_tail hc) h1 (hE.trans h2) ((hF.mono h2).put o.dst h3)


def ItOk (T : Nat → Option TD) (ord : Nat → List Nat) : It → Prop
  | .code c => codeOk T ord c = true
  | .loop c => codeOk T ord c = true
  | .ops all rest => ∃ pre, all = pre ++ rest
  | .op all o rest => ∃ pre, all = pre ++ o :: rest
  | _ => True

/-- An item that may stand behind another one. -/
def Calm : It → Prop
  | .code _ | .blk _ | .loop _ => True
  | _ => False

def ItsOk (T : Nat → Option TD) (ord : Nat → List Nat) (its : List It) : Prop := (∀ it ∈ its, ItOk T ord it) ∧ ∀ it ∈ its.tail, Calm it

/-- The items run; in the midst of a region whose order is drawn: what is left of it may be carried out in the order given. -/
def Runs (P : Program) (T : Nat → Option TD) (ord : Nat → List Nat) (H0 : Heap) (its : List It) (σ : Env) (H : Heap) (Φ : AEx → Env → Heap → Prop) : Prop :=
  ItsOk T ord its → match its with
    | .dr all l :: k => Plan P T all (fun σ' H' => Run P H0 k σ' H' Φ) l σ H
    | .dop all i o l :: k => all[i]? = some o → guardYes all o σ → Plan P T all (fun σ' H' => Run P H0 k σ' H' Φ) (i :: l) σ H
    | its => Run P H0 its σ H Φ

def ESem (P : Program) (T : Nat → Option TD) (ord : Nat → List Nat) (H0 : Heap) (Φ : AEx → Env → Heap → Prop) : Ev → Prop
  | .need b e => b = true ∧ ESem P T ord H0 Φ e
  | .call f args dst its σ H => SCall P f args H fun r H' => Runs P T ord H0 its (upd σ dst r) H' Φ
  | .loop c its σ H => Runs P T ord H0 (.loop c :: its) σ H Φ
  | .done x σ H => Φ x σ H
  | .more its σ H => Runs P T ord H0 its σ H Φ
  | .stuck => False

theorem set_same {σ : Env} {t : Nat} {p : PV} (h : σ.getD t .any = p) (hp : p ≠ .any) : σ.set t p = σ := by
  have hlt : t < σ.length := by
    rcases Nat.lt_or_ge t σ.length with h' | h'
    · exact h'
    · rw [List.getD_eq_getElem?_getD, List.getElem?_eq_none h'] at h; exact absurd h.symm hp
  apply List.ext_getElem?
  intro i
  by_cases e : i = t
  · subst e
    rw [List.getElem?_set_self hlt, List.getElem?_eq_getElem hlt]
    simp [List.getD_eq_getElem?_getD, hlt] at h
    rw [h]
  · rw [List.getElem?_set_ne (Ne.symm e)]

variable {mu : Nat → Bool} {ord : Nat → List Nat} {H0 : Heap} {Φ : AEx → Env → Heap → Prop}

theorem ESem_ite {c : Prop} [Decidable c] {e1 e2 : Ev} (h : ESem P T ord H0 Φ (if c then e1 else e2)) : (c → ESem P T ord H0 Φ e1) ∧ (¬ c → ESem P T ord H0 Φ e2) := by
  constructor
  · intro hc; rwa [if_pos hc] at h
  · intro hc; rwa [if_neg hc] at h

theorem runs_calm {its : List It} {σ : Env} {H : Heap} (hc : ∀ it ∈ its, Calm it) (hok : ItsOk T ord its) (h : Runs P T ord H0 its σ H Φ) : Run P H0 its σ H Φ := by
  have h := h hok
  cases its with
  | nil => exact h
  | cons it k =>
    have := hc it (by simp)
    cases it <;> simp only [Calm] at this <;> exact h

theorem range'_cons (s n : Nat) : List.range' s (n + 1) = s :: List.range' (s + 1) n := rfl

/-- The evaluator is sound. -/
theorem eval_ok (hT : TOk P T) (hP : P.follows .mixedOrders = true) : ∀ (n : Nat) (its : List It) (σ : Env) (H : Heap), ESem P T ord H0 Φ (eval T mu ord n its σ H) → Runs P T ord H0 its σ H Φ := by
  intro n
  induction n with
  | zero => intro its σ H h; exact h
  | succ n ih =>
    intro its σ H h hok
    cases its with
    | nil =>
      intro β0 w0 β w a hI hE hF
      simp only [eval, ESem] at h
      exact ⟨.normal, σ, H, β, trivial, hI, hE, hF, h⟩
    | cons it k =>
      have hcalm : ∀ x ∈ k, Calm x := fun x hx => hok.2 x hx
      have hkk : ItsOk T ord k := ⟨fun x hx => hok.1 x (List.mem_cons_of_mem _ hx), fun x hx => hcalm x (List.mem_of_mem_tail hx)⟩
      have hit := hok.1 it (by simp)
      have hcons : ∀ {it' : It}, ItOk T ord it' → ItsOk T ord (it' :: k) := fun {it'} hi => ⟨fun x hx => by
        rcases List.mem_cons.mp hx with rfl | hx
        · exact hi
        · exact hkk.1 x hx, hcalm⟩
      -- what goes on behind: as it runs
      have next : ∀ {σ' : Env} {H' : Heap}, ESem P T ord H0 Φ (eval T mu ord n k σ' H') → Run P H0 k σ' H' Φ := fun hh => runs_calm hcalm hkk (ih _ _ _ hh)
      cases it with
      | blk id =>
        simp only [eval] at h
        intro β0 w0 β w a hI hE hF
        exact next h β0 w0 β w a hI hE hF
      | loop c =>
        simp only [eval, ESem] at h
        exact h hok
      | ops all rest =>
        obtain ⟨pre, hpre⟩ := hit
        cases rest with
        | nil =>
          simp only [eval] at h
          intro β0 w0 β w a hI hE hF
          exact ⟨pre, hpre, next h β0 w0 β w a hI hE hF⟩
        | cons o rest =>
          have hrest : ItOk T ord (.ops all rest) := ⟨pre ++ [o], by rw [hpre]; simp⟩
          have hopi : ItOk T ord (.op all o rest) := ⟨pre, hpre⟩
          have hget : all.toArray[pre.length]? = some o := by rw [List.getElem?_toArray, hpre]; simp
          -- the operation is carried out
          have run1 : Run P H0 (.op all o rest :: k) σ H Φ → guardYes all o σ → Run P H0 (.ops all (o :: rest) :: k) σ H Φ := fun hr hg β0 w0 β w a hI hE hF => by
            obtain ⟨pre', hpre', hwp⟩ := hr β0 w0 β w a hI hE hF
            have hl : pre'.length = pre.length := by
              have := congrArg List.length (hpre'.symm.trans hpre)
              simp at this
              omega
            refine ⟨pre, hpre, ?_⟩
            rw [List.length_cons, range'_cons]
            simp only [wpOps, hget, guard_yes hF hg, if_true]
            rw [hl] at hwp
            exact .inl hwp
          -- it is passed by
          have run0 : Run P H0 (.ops all rest :: k) (upd σ o.dst (.tup [])) H Φ → ∀ {t : Nat} {want : Bool}, guardOf all o = some (some t, want) → guardNo σ t want → Run P H0 (.ops all (o :: rest) :: k) σ H Φ := fun hr t want hg hb β0 w0 β w a hI hE hF => by
            obtain ⟨pre', hpre', hwp⟩ := hr β0 w0 β w (a.put o.dst undef) hI hE (hF.put o.dst V.skip)
            have hl : pre'.length = pre.length + 1 := by
              have := congrArg List.length (hpre'.symm.trans hpre)
              simp at this
              omega
            refine ⟨pre, hpre, ?_⟩
            rw [List.length_cons, range'_cons]
            simp only [wpOps, hget, guard_no hF hg hb, Bool.false_eq_true, if_false]
            rw [hl] at hwp
            exact hwp
          simp only [eval] at h
          split at h
          · rename_i hg
            exact run1 (ih _ _ _ h (hcons hopi)) (.inl hg)
          · rename_i t want hg
            split at h
            · rename_i b hb
              obtain ⟨h1, h2⟩ := ESem_ite h
              by_cases hbw : b = want
              · subst hbw
                have := h1 rfl
                rw [set_same hb (by simp)] at this
                exact run1 (ih _ _ _ this (hcons hopi)) (.inr ⟨t, b, hg, hb⟩)
              · have hb' : b = !want := by cases b <;> cases want <;> simp_all
                subst hb'
                have := h2 hbw
                rw [set_same hb (by simp)] at this
                exact run0 (ih _ _ _ this (hcons hrest)) hg (.inl hb)
            · rename_i hb
              exact run0 (ih _ _ _ h (hcons hrest)) hg (.inr hb)
            · exact h.elim
          · exact h.elim
      | op all o rest =>
        obtain ⟨pre, hpre⟩ := hit
        have hrest : ItOk T ord (.ops all rest) := ⟨pre ++ [o], by rw [hpre]; simp⟩
        have cont : ∀ {σ' : Env} {H' : Heap}, Run P H0 (.ops all rest :: k) σ' H' Φ → ∀ {β0 w0 β w a}, Inv β H' w → Ext β0 H0 w0 β H' w → FR β H' w a σ' → wpOps P all.toArray (kontL P (Fin Φ β0 H0 w0) k) (List.range' (pre.length + 1) rest.length) a w := fun hr β0 w0 β w a hI hE hF => by
          obtain ⟨pre', hpre', hwp⟩ := hr β0 w0 β w a hI hE hF
          have hl : pre'.length = pre.length + 1 := by
            have := congrArg List.length (hpre'.symm.trans hpre)
            simp at this
            omega
          rw [hl] at hwp
          exact hwp
        intro β0 w0 β w a hI hE hF
        refine ⟨pre, hpre, ?_⟩
        simp only [eval] at h
        split at h
        · rename_i b v H' ha
          simp only [ESem] at h
          obtain ⟨rfl, h⟩ := h
          exact op_step (aop_ok hT hI hF ha rfl) fun x w' β' h1 h2 h3 => cont (ih _ _ _ h (hcons hrest)) h1 (hE.trans h2) ((hF.mono h2).put o.dst h3)
        · rename_i c v1 H1 v2 H2 ha
          obtain ⟨h1, h2⟩ := ESem_ite h
          obtain ⟨hy1, hy2⟩ := aop_br (P := P) hT hI hF ha
          cases c with
          | true => exact op_step (hy1 rfl) fun x w' β' h1' h2' h3' => cont (ih _ _ _ (h1 rfl) (hcons hrest)) h1' (hE.trans h2') ((hF.mono h2').put o.dst h3')
          | false => exact op_step (hy2 rfl) fun x w' β' h1' h2' h3' => cont (ih _ _ _ (h2 (by simp)) (hcons hrest)) h1' (hE.trans h2') ((hF.mono h2').put o.dst h3')
        · rename_i f l ha
          simp only [ESem] at h
          exact aop_call hI hF ha h fun v r w' β' H' h1 h2 h3 hK => cont (hK (hcons hrest)) h1 (hE.trans h2) ((hF.mono h2).put o.dst h3)
        · exact h.elim
      | dr all l =>
        cases l with
        | nil =>
          simp only [eval] at h
          exact .done (next h)
        | cons i l =>
          simp only [eval] at h
          split at h
          · exact h.elim
          · rename_i o ho
            split at h
            · rename_i hg
              exact ih _ _ _ h (hcons trivial) ho (.inl hg)
            · rename_i t want hg
              split at h
              · rename_i b hb
                obtain ⟨h1, h2⟩ := ESem_ite h
                by_cases hbw : b = want
                · subst hbw
                  have := h1 rfl
                  rw [set_same hb (by simp)] at this
                  exact ih _ _ _ this (hcons trivial) ho (.inr ⟨t, b, hg, hb⟩)
                · have hb' : b = !want := by cases b <;> cases want <;> simp_all
                  subst hb'
                  have := h2 hbw
                  rw [set_same hb (by simp)] at this
                  exact .pass ho hg (.inl hb) (ih _ _ _ this (hcons trivial))
              · rename_i hb
                exact .pass ho hg (.inr hb) (ih _ _ _ h (hcons trivial))
              · exact h.elim
            · exact h.elim
      | dop all i o l =>
        simp only [eval] at h
        intro ho hg
        split at h
        · rename_i b v H' ha
          simp only [ESem] at h
          obtain ⟨rfl, h⟩ := h
          exact .val ho hg ha (ih _ _ _ h (hcons trivial))
        · rename_i c v1 H1 v2 H2 ha
          obtain ⟨h1, h2⟩ := ESem_ite h
          exact .br ho hg ha (fun hc => ih _ _ _ (h1 hc) (hcons trivial)) (fun hc => ih _ _ _ (h2 (by simp [hc])) (hcons trivial))
        · rename_i f as_ ha
          simp only [ESem] at h
          exact .call ho hg ha h fun r H' hK => hK (hcons trivial)
        · exact h.elim
      | code c =>
        have hc : codeOk T ord c = true := hit
        cases c with
        | skip =>
          simp only [eval] at h
          intro β0 w0 β w a hI hE hF
          exact wp_skip (next h β0 w0 β w a hI hE hF)
        | seq x y =>
          simp only [eval] at h
          simp only [codeOk, Bool.and_eq_true] at hc
          have hr := runs_calm (P := P) (H0 := H0) (Φ := Φ) (its := .code x :: .code y :: k) (fun z hz => by
              rcases List.mem_cons.mp hz with rfl | hz
              · trivial
              · rcases List.mem_cons.mp hz with rfl | hz
                · trivial
                · exact hcalm z hz)
            ⟨fun z hz => by
              rcases List.mem_cons.mp hz with rfl | hz
              · exact hc.1
              · rcases List.mem_cons.mp hz with rfl | hz
                · exact hc.2
                · exact hkk.1 z hz, fun z hz => by
              rcases List.mem_cons.mp hz with rfl | hz
              · trivial
              · exact hcalm z hz⟩ (ih _ _ _ h)
          intro β0 w0 β w a hI hE hF
          refine wp_seq (wp_mono (hr β0 w0 β w a hI hE hF) fun e a w he => ?_)
          exact (kont_code y k e a w).mpr he
        | region id ops draw =>
          cases draw with
          | false =>
            simp only [eval] at h
            have hr : Run P H0 (.ops ops.toList ops.toList :: k) σ H Φ := ih _ _ _ h (hcons ⟨[], rfl⟩)
            intro β0 w0 β w a hI hE hF
            obtain ⟨pre, hpre, hwp⟩ := hr β0 w0 β w a hI hE hF
            have hl : pre = [] := by
              have := congrArg List.length hpre
              simp at this
              exact this
            subst hl
            refine wp_region ?_
            simp only [Array.toArray_toList, List.length_nil, Array.length_toList] at hwp
            rw [List.range_eq_range']
            exact hwp
          | true =>
            simp only [eval] at h
            simp only [codeOk, drawOk, Bool.and_eq_true, beq_iff_eq] at hc
            obtain ⟨hsel, hlen, hchk⟩ := hc
            have hr : Plan P T ops.toList (fun σ' H' => Run P H0 k σ' H' Φ) (ord id) σ H := ih _ _ _ h (hcons trivial)
            intro β0 w0 β w a hI hE hF
            have hsame : Same w { w with drawn := w.drawn + 1 } := ⟨rfl, rfl, rfl, Nat.le_refl _⟩
            have hqe := quiet_ext hI hsame (w' := { w with drawn := w.drawn + 1 }) (fun _ _ => rfl)
            have hqi := quiet_inv hI hsame (w' := { w with drawn := w.drawn + 1 }) (fun _ _ => rfl)
            refine wp_region_any hP (wpAny_of_m (q := qOf T ops.toList) _ _ _ _ ?_)
            have := plan_any hT (Q := kontL P (Fin Φ β0 H0 w0) k) (all := ops.toList) (by simpa using hsel) (fun c a w hp => by
                have := kont_panic k a w hp
                obtain ⟨x, _, _, _, hx, _⟩ := this
                cases x <;> exact hx.elim) (β0 := β0) (H0 := H0) (w0 := w0)
              (fun σ' H' β' w' a' hΨ h1 h2 h3 => hΨ β0 w0 β' w' a' h1 h2 h3) hr (Array.replicate ops.size false) β { w with drawn := w.drawn + 1 } a (by simpa using hchk) hqi (hE.trans hqe) (hF.mono hqe)
            rw [hlen] at this
            simpa using this
        | cond x y z =>
          simp only [eval] at h
          simp only [codeOk, Bool.and_eq_true] at hc
          split at h
          · rename_i t ht
            obtain ⟨h1, h2⟩ := ESem_ite h
            intro β0 w0 β w a hI hE hF
            have hx := hF.opn x
            rw [ht] at hx
            have hcal : ∀ c' : Code, ∀ it ∈ It.code c' :: k, Calm it := fun c' it hi => by
              rcases List.mem_cons.mp hi with rfl | hi
              · trivial
              · exact hcalm it hi
            cases t with
            | true => exact wp_cond_true hx.bool_inv (runs_calm (hcal y) (hcons hc.1) (ih _ _ _ (h1 rfl)) β0 w0 β w a hI hE hF)
            | false => exact wp_cond_false hx.bool_inv (runs_calm (hcal z) (hcons hc.2) (ih _ _ _ (h2 (by simp))) β0 w0 β w a hI hE hF)
          · exact h.elim
        | block id c =>
          simp only [eval] at h
          simp only [codeOk] at hc
          have hr := runs_calm (P := P) (H0 := H0) (Φ := Φ) (its := .code c :: .blk id :: k) (fun z hz => by
              rcases List.mem_cons.mp hz with rfl | hz
              · trivial
              · rcases List.mem_cons.mp hz with rfl | hz
                · trivial
                · exact hcalm z hz)
            ⟨fun z hz => by
              rcases List.mem_cons.mp hz with rfl | hz
              · exact hc
              · rcases List.mem_cons.mp hz with rfl | hz
                · trivial
                · exact hkk.1 z hz, fun z hz => by
              rcases List.mem_cons.mp hz with rfl | hz
              · trivial
              · exact hcalm z hz⟩ (ih _ _ _ h)
          intro β0 w0 β w a hI hE hF
          exact wp_block (wp_mono (hr β0 w0 β w a hI hE hF) fun e a w he => (kont_blk id k e a w).mp he)
        | loop c =>
          simp only [eval, ESem] at h
          simp only [codeOk] at hc
          have hr : Run P H0 (.loop c :: k) σ H Φ := h (hcons hc)
          intro β0 w0 β w a hI hE hF
          exact hr β0 w0 β w a hI hE hF
        | exit id =>
          simp only [eval] at h
          intro β0 w0 β w a hI hE hF
          refine wp_exit ((kont_exit id k a w).mpr ?_)
          split at h
          · rename_i k' hk'
            simp only [hk']
            have hsub : ∀ (k k' : List It), toBlk id k = some k' → ∀ x ∈ k', x ∈ k := by
              intro k
              induction k with
              | nil => intro k' h; cases h
              | cons it k ihk =>
                intro k' h x hx
                cases it <;> simp only [toBlk] at h
                case blk i =>
                  split at h
                  · cases h; exact List.mem_cons_of_mem _ hx
                  · exact List.mem_cons_of_mem _ (ihk k' h x hx)
                all_goals exact List.mem_cons_of_mem _ (ihk k' h x hx)
            have hs := hsub k k' hk'
            exact runs_calm (fun x hx => hcalm x (hs x hx)) ⟨fun x hx => hkk.1 x (hs x hx), fun x hx => hcalm x (hs x (List.mem_of_mem_tail hx))⟩ (ih _ _ _ h) β0 w0 β w a hI hE hF
          · rename_i hk'
            simp only [hk']
            simp only [ESem] at h
            exact ⟨.exit id, σ, H, β, rfl, hI, hE, hF, h⟩
        | ret =>
          simp only [eval, ESem] at h
          intro β0 w0 β w a hI hE hF
          exact wp_ret (kont_ret k a w ⟨.ret, σ, H, β, trivial, hI, hE, hF, h⟩)
        | rangeFunc f ps x y => simp only [eval, ESem] at h
        | scope c => simp only [eval, ESem] at h
        | label l => simp only [eval, ESem] at h
        | goto l => simp only [eval, ESem] at h
        | refuse s => simp only [eval, ESem] at h

end
end Go.Proofs.SL
