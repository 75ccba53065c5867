/-
  SL: what it means that code runs from an abstract state; calls. No claim by itself.
-/
import Derived.Test.YtdgikagnkbphoaaDoorSlDraw
namespace Go.Proofs.SL
open Go
set_option linter.unusedSimpArgs false
set_option linter.unusedVariables false

def kontL (P : Program) (Qf : Exit → Act → World → Prop) : List It → Exit → Act → World → Prop
  | [], e, a, w => Qf e a w
  | .blk id :: k, .exit id', a, w => if id' = id then kontL P Qf k .normal a w else kontL P Qf k (.exit id') a w
  | .blk _ :: k, e, a, w => kontL P Qf k e a w
  | .code c :: k, .normal, a, w => c.wp P (kontL P Qf k) a w
  | .code _ :: k, e, a, w => kontL P Qf k e a w
  | .loop c :: k, .normal, a, w => (Code.loop c).wp P (kontL P Qf k) a w
  | .loop _ :: k, e, a, w => kontL P Qf k e a w
  | .ops all rest :: k, .normal, a, w => ∃ pre, all = pre ++ rest ∧ wpOps P all.toArray (kontL P Qf k) (List.range' pre.length rest.length) a w
  | .ops _ _ :: k, e, a, w => kontL P Qf k e a w
  | .op all o rest :: k, .normal, a, w => ∃ pre, all = pre ++ o :: rest ∧ o.wp P a w (wpOps P all.toArray (kontL P Qf k) (List.range' (pre.length + 1) rest.length)) (kontL P Qf k)
  | .op _ _ _ :: k, e, a, w => kontL P Qf k e a w
  | .dr _ _ :: _, .normal, _, _ => False
  | .dr _ _ :: k, e, a, w => kontL P Qf k e a w
  | .dop _ _ _ _ :: _, .normal, _, _ => False
  | .dop _ _ _ _ :: k, e, a, w => kontL P Qf k e a w
  | .dq _ _ _ :: _, .normal, _, _ => False
  | .dq _ _ _ :: k, e, a, w => kontL P Qf k e a w
  | .dqop _ _ _ _ :: _, .normal, _, _ => False
  | .dqop _ _ _ _ :: k, e, a, w => kontL P Qf k e a w

def exOk : Exit → AEx → Prop
  | .normal, .normal => True
  | .exit i, .exit j => i = j
  | .ret, .ret => True
  | _, _ => False

/-- How the code may end. -/
def Fin (Φ : AEx → Env → Heap → Prop) (β0 : Nat → Option Nat) (H0 : Heap) (w0 : World) (e : Exit) (a : Act) (w : World) : Prop :=
  ∃ x σ H β, exOk e x ∧ Inv β H w ∧ Ext β0 H0 w0 β H w ∧ FR β H w a σ ∧ Φ x σ H

/-- The items run from this state, and end as Φ says. -/
def Run (P : Program) (H0 : Heap) (its : List It) (σ : Env) (H : Heap) (Φ : AEx → Env → Heap → Prop) : Prop :=
  ∀ β0 w0 β w a, Inv β H w → Ext β0 H0 w0 β H w → FR β H w a σ → kontL P (Fin Φ β0 H0 w0) its .normal a w

/-- A function that is called with these values, in this heap. -/
def SCall (P : Program) (f : FuncId) (args : List PV) (H : Heap) (Q : PV → Heap → Prop) : Prop :=
  (∀ vs w, (callFunc f vs).run P w = .ok (.enter f vs) w) ∧
  ∀ β w vs, Inv β H w → vs.size = args.length → (∀ (i : Nat) (v : Value) (p : PV), vs[i]? = some v → args[i]? = some p → V β H w v p) →
    Calls P f vs w fun e w' => ∃ v r β' H', e = .returned v ∧ Inv β' H' w' ∧ Ext β H w β' H' w' ∧ V β' H' w' v r ∧ Q r H'

theorem SCall.mono {P : Program} {f : FuncId} {args : List PV} {H : Heap} {Q Q' : PV → Heap → Prop} (h : SCall P f args H Q) (hq : ∀ r H', Q r H' → Q' r H') : SCall P f args H Q' :=
  ⟨h.1, fun β w vs hI hs hv => (h.2 β w vs hI hs hv).mono fun e w' ⟨v, r, β', H', h1, h2, h3, h4, h5⟩ => ⟨v, r, β', H', h1, h2, h3, h4, hq _ _ h5⟩⟩

section
variable {P : Program} {T : Nat → Option TD} {mu : Nat → Bool} {H0 : Heap} {Φ : AEx → Env → Heap → Prop}

theorem kont_code {Qf : Exit → Act → World → Prop} (c : Code) (k : List It) : ∀ e a w, Exit.then (c.wp P (kontL P Qf k)) (kontL P Qf k) e a w ↔ kontL P Qf (.code c :: k) e a w := by
  intro e a w; cases e <;> exact Iff.rfl

theorem kont_blk {Qf : Exit → Act → World → Prop} (id : Nat) (k : List It) : ∀ e a w, kontL P Qf (.blk id :: k) e a w ↔ Exit.inBlock id (kontL P Qf k) e a w := by
  intro e a w; cases e <;> exact Iff.rfl

theorem kont_exit {Qf : Exit → Act → World → Prop} (id : Nat) : ∀ (k : List It) a w, kontL P Qf k (.exit id) a w ↔ match toBlk id k with
    | some k' => kontL P Qf k' .normal a w
    | none => Qf (.exit id) a w
  | [], a, w => Iff.rfl
  | .blk i :: k, a, w => by
    by_cases h : i = id
    · subst h; simp [kontL, toBlk]
    · have h' : ¬ id = i := fun e => h e.symm
      simp only [kontL, toBlk, if_neg h, if_neg h']
      exact kont_exit id k a w
  | .code _ :: k, a, w => by simp only [kontL, toBlk]; exact kont_exit id k a w
  | .loop _ :: k, a, w => by simp only [kontL, toBlk]; exact kont_exit id k a w
  | .ops _ _ :: k, a, w => by simp only [kontL, toBlk]; exact kont_exit id k a w
  | .op _ _ _ :: k, a, w => by simp only [kontL, toBlk]; exact kont_exit id k a w
  | .dr _ _ :: k, a, w => by simp only [kontL, toBlk]; exact kont_exit id k a w
  | .dop _ _ _ _ :: k, a, w => by simp only [kontL, toBlk]; exact kont_exit id k a w
  | .dq _ _ _ :: k, a, w => by simp only [kontL, toBlk]; exact kont_exit id k a w
  | .dqop _ _ _ _ :: k, a, w => by simp only [kontL, toBlk]; exact kont_exit id k a w

theorem kont_panic {Qf : Exit → Act → World → Prop} {c : List PanicEntry} : ∀ (k : List It) a w, kontL P Qf k (.panic c) a w → Qf (.panic c) a w
  | [], _, _, h => h
  | .blk _ :: k, a, w, h => kont_panic k a w h
  | .code _ :: k, a, w, h => kont_panic k a w h
  | .loop _ :: k, a, w, h => kont_panic k a w h
  | .ops _ _ :: k, a, w, h => kont_panic k a w h
  | .op _ _ _ :: k, a, w, h => kont_panic k a w h
  | .dr _ _ :: k, a, w, h => kont_panic k a w h
  | .dop _ _ _ _ :: k, a, w, h => kont_panic k a w h
  | .dq _ _ _ :: k, a, w, h => kont_panic k a w h
  | .dqop _ _ _ _ :: k, a, w, h => kont_panic k a w h

theorem kont_ret {Qf : Exit → Act → World → Prop} : ∀ (k : List It) a w, Qf .ret a w → kontL P Qf k .ret a w
  | [], _, _, h => h
  | .blk _ :: k, a, w, h => kont_ret k a w h
  | .code _ :: k, a, w, h => kont_ret k a w h
  | .loop _ :: k, a, w, h => kont_ret k a w h
  | .ops _ _ :: k, a, w, h => kont_ret k a w h
  | .op _ _ _ :: k, a, w, h => kont_ret k a w h
  | .dr _ _ :: k, a, w, h => kont_ret k a w h
  | .dop _ _ _ _ :: k, a, w, h => kont_ret k a w h
  | .dq _ _ _ :: k, a, w, h => kont_ret k a w h
  | .dqop _ _ _ _ :: k, a, w, h => kont_ret k a w h

/-- An operation that may change the world, met in the row of a region. -/
theorem op_step {o : Oper} {a : Act} {w : World} {next : Act → World → Prop} {Q : Exit → Act → World → Prop} {β : Nat → Option Nat} {H : Heap} {v : PV} {H' : Heap} (h : YesE P a.eval o β H w v H')
    (hn : ∀ x w' β', Inv β' H' w' → Ext β H w β' H' w' → V β' H' w' x v → next (a.put o.dst x) w') : o.wp P a w next Q := by
  obtain ⟨nx, x, w', β', hr, hx, h1, h2, h3⟩ := h
  unfold Oper.wp
  rw [hr]
  rcases hx with rfl | ⟨rfl, rfl⟩
  · exact hn x w' β' h1 h2 h3
  · exact hn undef w' β' h1 h2 h3

theorem Yes.toE {ρ : Operand → Value} {o : Oper} {β : Nat → Option Nat} {H : Heap} {w : World} {v : PV} (hI : Inv β H w) (h : Yes P ρ o β H w v) : YesE P ρ o β H w v H := by
  obtain ⟨x, hr, hv⟩ := h
  exact ⟨_, x, w, β, hr w, .inl rfl, hI, Ext.refl .., hv⟩

theorem YesR.toE {ρ : Operand → Value} {o : Oper} {β : Nat → Option Nat} {H : Heap} {w : World} {v : PV} (hI : Inv β H w) (h : YesR P ρ o β H w v) : YesE P ρ o β H w v H := by
  obtain ⟨x, hr, hv⟩ := h
  exact ⟨_, x, w, β, hr w rfl, .inl rfl, hI, Ext.refl .., hv⟩

theorem aop_ok (hT : TOk P T) {β : Nat → Option Nat} {H : Heap} {w : World} (hI : Inv β H w) {a : Act} {σ : Env} (hF : FR β H w a σ) {o : Oper} {m b : Bool} {v : PV} {H' : Heap}
    (h : aop T m (opn σ) H o.op = .val b v H') (hb : b = true) : YesE P a.eval o β H w v H' := by
  unfold aop at h
  split at h
  · rename_i c v' hp
    simp only [R.val.injEq] at h
    obtain ⟨rfl, rfl, rfl⟩ := h
    exact (pure_ok hT hF.opn hp hb).toE hI
  · rename_i hp
    split at h
    · rename_i c v' hr
      simp only [R.val.injEq] at h
      obtain ⟨rfl, rfl, rfl⟩ := h
      exact (read_ok hT hI hF.opn hr hb).toE hI
    · exact eff_ok hT hI hF.opn hp h hb

theorem aop_br (hT : TOk P T) {β : Nat → Option Nat} {H : Heap} {w : World} (hI : Inv β H w) {a : Act} {σ : Env} (hF : FR β H w a σ) {o : Oper} {m c : Bool} {v1 v2 : PV} {H1 H2 : Heap}
    (h : aop T m (opn σ) H o.op = .br c v1 H1 v2 H2) : (c = true → YesE P a.eval o β H w v1 H1) ∧ (c = false → YesE P a.eval o β H w v2 H2) := by
  unfold aop at h
  split at h
  · cases h
  rename_i hpure
  split at h
  · cases h
  rename_i hread
  clear hpure hread
  obtain ⟨dst, op, ty, pos, after, guard⟩ := o
  cases op <;> simp only [effOp] at h <;> try (cases h; done)
  case next it isStr =>
    unfold nextE at h
    split at h
    · rename_i i hp
      split at h
      · rename_i s pos ho
        simp only [R.br.injEq] at h
        obtain ⟨rfl, rfl, rfl, rfl, rfl⟩ := h
        have hx := hF.opn it
        rw [hp] at hx
        obtain ⟨h1, h2⟩ := next_ok (P := P) hI ho hx ty
        exact ⟨fun hc => yes_does rfl (h1 (of_decide_eq_true hc)), fun hc => yes_does rfl (h2 (of_decide_eq_false hc))⟩
      · cases h
    · cases h
  case store t a x => unfold storeE at h; (repeat' split at h) <;> cases h
  case box t x => unfold boxE at h; (repeat' split at h) <;> cases h
  case alloc t => unfold boxE at h; (repeat' split at h) <;> cases h
  case buildSlice t n ps => unfold buildSliceE newSlice at h; (repeat' split at h) <;> cases h
  case convert s t x => unfold bytesE newSlice at h; (repeat' split at h) <;> cases h
  case range t x => unfold rangeE at h; (repeat' split at h) <;> cases h
  case call c => unfold appendE copyE callE newSlice at h; (repeat' split at h) <;> cases h
  case makeSlice t l c => unfold makeSliceE newSlice at h; (repeat' split at h) <;> cases h

theorem args_ok {β : Nat → Option Nat} {H : Heap} {w : World} {vs ws : Array Value} {ps qs : List PV} (h1 : vs.size = ps.length) (h2 : ws.size = qs.length)
    (h3 : ∀ (i : Nat) (v : Value) (p : PV), vs[i]? = some v → ps[i]? = some p → V β H w v p) (h4 : ∀ (i : Nat) (v : Value) (p : PV), ws[i]? = some v → qs[i]? = some p → V β H w v p) :
    (vs ++ ws).size = (ps ++ qs).length ∧ ∀ (i : Nat) (v : Value) (p : PV), (vs ++ ws)[i]? = some v → (ps ++ qs)[i]? = some p → V β H w v p := by
  refine ⟨by simp [h1, h2], fun i v p hv hp => ?_⟩
  rw [Array.getElem?_append] at hv
  rw [List.getElem?_append] at hp
  rw [h1] at hv
  split at hv
  · rename_i hlt; rw [if_pos hlt] at hp; exact h3 i v p hv hp
  · rename_i hlt; rw [if_neg hlt] at hp; exact h4 _ v p hv hp

theorem aop_call {β : Nat → Option Nat} {H : Heap} {w : World} (hI : Inv β H w) {a : Act} {σ : Env} (hF : FR β H w a σ) {o : Oper} {m : Bool} {f : Nat} {args : List PV}
    (h : aop T m (opn σ) H o.op = .call f args) {K : PV → Heap → Prop} (hs : SCall P f args H K) {next : Act → World → Prop} {Q : Exit → Act → World → Prop}
    (hn : ∀ v r w' β' H', Inv β' H' w' → Ext β H w β' H' w' → V β' H' w' v r → K r H' → next (a.put o.dst v) w') : o.wp P a w next Q := by
  unfold aop at h
  split at h
  · cases h
  rename_i hpure
  split at h
  · cases h
  rename_i hread
  clear hpure hread
  obtain ⟨dst, op, ty, pos, after, guard⟩ := o
  cases op <;> simp only [effOp] at h <;> try (cases h; done)
  case store t a x => unfold storeE at h; (repeat' split at h) <;> cases h
  case box t x => unfold boxE at h; (repeat' split at h) <;> cases h
  case alloc t => unfold boxE at h; (repeat' split at h) <;> cases h
  case buildSlice t n ps => unfold buildSliceE newSlice at h; (repeat' split at h) <;> cases h
  case convert s t x => unfold bytesE newSlice at h; (repeat' split at h) <;> cases h
  case range t x => unfold rangeE at h; (repeat' split at h) <;> cases h
  case next it isStr => unfold nextE at h; (repeat' split at h) <;> cases h
  case call c =>
    obtain ⟨callee, cargs, ts⟩ := c
    simp only at h
    split at h
    · rename_i fo
      unfold callE at h
      split at h
      · rename_i n pa pb hfo
        simp only [R.call.injEq] at h
        obtain ⟨rfl, rfl⟩ := h
        have hfv := hF.opn fo
        rw [hfo] at hfv
        obtain ⟨va, vb, hfe, h1, h2, h3, h4⟩ := hfv.func_inv
        obtain ⟨m1, m2⟩ := map_args hF.opn cargs
        obtain ⟨a1, a2⟩ := args_ok h1 m1 h3 m2
        obtain ⟨b1, b2⟩ := args_ok a1 h2 a2 h4
        have hrun : (execOp a.eval { dst := dst, op := Op.call { callee := Callee.value fo, args := cargs, argTypes := ts }, type := ty, pos := pos, after := after, guard := guard : Oper }).run P w
            = .ok (.enter n (va ++ cargs.map a.eval ++ vb)) w := by
          simp only [execOp, resolve, Deferred.ofValue, hfe, Sem.run_bind, Sem.run_pure, Result.andThen_ok, invoke]
          exact hs.1 _ _
        unfold Oper.wp
        rw [hrun, Oper.upon_enter]
        refine (hs.2 β w _ hI b1 b2).mono fun e w' ⟨v, r, β', H', h5, h6, h7, h8, h9⟩ => ?_
        subst h5
        exact hn v r w' β' H' h6 h7 h8 h9
      · cases h
    · unfold appendE newSlice at h; (repeat' split at h) <;> cases h
    · unfold copyE at h; (repeat' split at h) <;> cases h
    · cases h
  case makeSlice t l c => unfold makeSliceE newSlice at h; (repeat' split at h) <;> cases h

end
end Go.Proofs.SL
