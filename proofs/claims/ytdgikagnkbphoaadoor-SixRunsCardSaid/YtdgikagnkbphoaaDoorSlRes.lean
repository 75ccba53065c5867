/-
  SL: functions that give what lies in a variable's cells. No claim by itself.
-/
import Derived.Test.YtdgikagnkbphoaaDoorSlTab
namespace Go.Proofs.SL
open Go
set_option linter.unusedSimpArgs false
set_option linter.unusedVariables false

def resOne (T : Nat → Option TD) (σ : Env) (H : Heap) : ResultVar → Bool × PV
  | .tmp t => (true, σ.getD t .any)
  | .cell t ty => match T ty with
    | some d => loadV d H (σ.getD t .any)
    | none => no
def resAll (T : Nat → Option TD) (σ : Env) (H : Heap) : List ResultVar → Bool × PV
  | [r] => resOne T σ H r
  | rs => (rs.all fun r => (resOne T σ H r).1, .tup (rs.map fun r => (resOne T σ H r).2))

section
variable {P : Program} {T : Nat → Option TD} {ord : Nat → List Nat} {β : Nat → Option Nat} {H H0 : Heap} {w : World} {σ : Env} {a : Act}

def resRun (tmps : Array Value) : ResultVar → Sem Value
  | .tmp t => pure (tmps.getD t undef)
  | .cell a t => do loadVar t (← asAddr (tmps.getD a undef))

theorem resOne_ok (hT : TOk P T) (hI : Inv β H w) (hF : FR β H w a σ) {r : ResultVar} (h : (resOne T σ H r).1 = true) :
    ∃ v, (resRun a.tmps r).run P w = .ok v w ∧ V β H w v (resOne T σ H r).2 := by
  cases r with
  | tmp t => exact ⟨_, rfl, slot hF t⟩
  | cell t ty =>
    simp only [resOne] at h ⊢
    cases hd : T ty with
    | none => rw [hd] at h; simp [no] at h
    | some d =>
      rw [hd] at h
      simp only at h ⊢
      have hx := slot hF t
      obtain ⟨v, hv, hvV⟩ := load_ok hT hI hd hx rfl h
      refine ⟨v, ?_, hvV⟩
      rw [← hv w rfl]
      have : ∃ ad, a.tmps.getD t undef = .pointer (some ad) := by
        generalize σ.getD t .any = p at hx h
        cases p <;> simp only [loadV, no, Bool.false_eq_true] at h
        · obtain ⟨b, hb, _⟩ := hx.ptr_inv; exact ⟨_, hb⟩
        · obtain ⟨b, off, f, hb, _⟩ := hx.cptr_inv; exact ⟨_, hb⟩
      obtain ⟨ad, had⟩ := this
      show Sem.run P (do loadVar ty (← asAddr (a.tmps.getD t undef))) w = Sem.run P (do loadVar ty (← Instr.sureAddr (a.tmps.getD t undef))) w
      rw [had]
      rfl

theorem resAll_ok (hT : TOk P T) {fn : Func} {rs : List ResultVar} (hr : fn.results = rs.toArray) (hI : Inv β H w) (hF : FR β H w a σ) (h : (resAll T σ H rs).1 = true) :
    ∃ v, (results fn a.tmps).run P w = .ok v w ∧ V β H w v (resAll T σ H rs).2 := by
  have hall : ∀ r ∈ rs, (resOne T σ H r).1 = true := by
    intro r hm
    unfold resAll at h
    split at h
    · simp only [List.mem_singleton] at hm; subst hm; exact h
    · exact List.all_eq_true.mp h r hm
  have key : ∀ l : List ResultVar, (∀ r ∈ l, (resOne T σ H r).1 = true) → ∃ vs : List Value, (l.mapM (resRun a.tmps)).run P w = .ok vs w ∧ vs.length = l.length ∧
      ∀ (i : Nat) (v : Value) (r : ResultVar), vs[i]? = some v → l[i]? = some r → V β H w v (resOne T σ H r).2 := by
    intro l
    induction l with
    | nil => intro _; exact ⟨[], rfl, rfl, by simp⟩
    | cons r l ih =>
      intro hl
      obtain ⟨v, hv, hvV⟩ := resOne_ok hT hI hF (hl r (by simp))
      obtain ⟨vs, h1, h2, h3⟩ := ih fun r hr => hl r (List.mem_cons_of_mem _ hr)
      refine ⟨v :: vs, ?_, by simp [h2], fun i x y hx hy => ?_⟩
      · simp only [List.mapM_cons, Sem.run_bind, hv, Result.andThen_ok, h1]; rfl
      · cases i with
        | zero => simp at hx hy; subst hx; subst hy; exact hvV
        | succ i => exact h3 i x y (by simpa using hx) (by simpa using hy)
  obtain ⟨vs, h1, h2, h3⟩ := key rs hall
  have hm : (rs.toArray.mapM (resRun a.tmps)).run P w = .ok vs.toArray w := by
    rw [List.mapM_toArray, map_eq_pure_bind, Sem.run_bind, h1]
    rfl
  have hfun : resRun a.tmps = (fun x : ResultVar => (match x with
      | .tmp t => pure (a.tmps.getD t undef)
      | .cell a_1 t => (do loadVar t (← asAddr (a.tmps.getD a_1 undef)) : Sem Value))) := by
    funext x
    cases x <;> rfl
  have hrun : (results fn a.tmps).run P w = .ok (if h : vs.toArray.size = 1 then vs.toArray[0] else .tuple vs.toArray) w := by
    rw [hfun] at hm
    unfold results
    rw [hr, Sem.run_bind]
    refine (congrArg (fun r => Result.andThen r _) hm).trans ?_
    rfl
  refine ⟨_, hrun, ?_⟩
  by_cases h1' : rs.length = 1
  · obtain ⟨r, rfl⟩ := List.length_eq_one_iff.mp h1'
    obtain ⟨v, rfl⟩ := List.length_eq_one_iff.mp (h2.trans h1')
    exact h3 0 v r rfl rfl
  · have e : (resAll T σ H rs).2 = .tup (rs.map fun r => (resOne T σ H r).2) := by
      unfold resAll
      split
      · simp at h1'
      · rfl
    rw [e, dif_neg (by simp; omega)]
    refine .tup _ _ (by simp [h2]) fun i v p hv hp => ?_
    simp only [List.getElem?_toArray, List.getElem?_map] at hv hp
    cases ht : rs[i]? with
    | none => rw [ht] at hp; cases hp
    | some r =>
      rw [ht] at hp
      simp only [Option.map_some, Option.some.injEq] at hp
      subst hp
      exact h3 i v r hv ht

/-- What a function's body is to show, where its results lie in cells. -/
def EndsC (T : Nat → Option TD) (H0 : Heap) (rs : List ResultVar) (Q : PV → Heap → Prop) (x : AEx) (σ : Env) (H : Heap) : Prop :=
  (match x with
  | .exit _ => False
  | _ => True) ∧ ∃ σ' H', Ghost H0 σ H σ' H' ∧ (resAll T σ' H' rs).1 = true ∧ ∃ K L, H' = K ++ L ∧ HB K.length K ∧ H0.length ≤ K.length ∧ Bdd K.length (resAll T σ' H' rs).2 ∧ Q (resAll T σ' H' rs).2 K

theorem scall_ofc (hT : TOk P T) {f : FuncId} {fn : Func} {c : Code} {rs : List ResultVar} {args : List PV} {Q : PV → Heap → Prop} (hf : P.funcs[f]? = some fn) (hb : fn.body = some c) (hn : (fn.name == "runtime.NumGoroutine") = false)
    (hr : fn.results = rs.toArray) (hc : codeOk T ord c = true) {nt : Nat} (hnt : fn.ntmps = nt)
    (h : HB H.length H → (∀ p ∈ args, Bdd H.length p) → Runs P T ord H [.code c] (slots nt args) H (EndsC T H rs Q)) : SCall P f args H Q := by
  subst hnt
  refine ⟨fun vs w => ?_, fun β w vs hI hs hv => calls_of_wp hf hb ?_⟩
  · have hn' : fn.name ≠ "runtime.NumGoroutine" := by simpa using hn
    simp [callFunc, hf, hb, hn']
  · have hbd : ∀ p ∈ args, Bdd H.length p := fun p hp => by
      obtain ⟨i, hi, rfl⟩ := List.getElem_of_mem hp
      exact (hv i (vs[i]'(by omega)) _ (Array.getElem?_eq_getElem _) (List.getElem?_eq_getElem _)).bdd
    have hrun : Run P H [.code c] (slots fn.ntmps args) H (EndsC T H rs Q) := h hI.hb hbd ⟨fun it hit => by
      simp only [List.mem_singleton] at hit; subst hit; exact hc, by simp⟩
    have hF : FR β H w { tmps := vs ++ Array.replicate (fn.ntmps - vs.size) undef, defers := [] } (slots fn.ntmps args) := by
      refine ⟨by simp [slots, hs], fun t p hp => ?_, rfl⟩
      unfold slots at hp
      rcases Nat.lt_or_ge t args.length with ht | ht
      · rw [List.getElem?_append_left ht] at hp
        have : t < vs.size := by omega
        simp only [Array.getD_eq_getD_getElem?, Array.getElem?_append_left this, Array.getElem?_eq_getElem this, Option.getD_some]
        exact hv t _ _ (Array.getElem?_eq_getElem this) hp
      · rw [List.getElem?_append_right ht] at hp
        have := List.mem_of_getElem? hp
        rw [List.mem_replicate] at this
        rw [this.2]
        exact .any _
    refine wp_mono (hrun β w β w _ hI (Ext.refl ..) hF) fun e a' w' he => ?_
    obtain ⟨x, σ', H', β', hx, h1, h2, h3, h4, σ2, H2, g, hq1, K, L, rfl, hK, hl, hbK, hq⟩ := he
    obtain ⟨β2, g1, g2, g3⟩ := g β w β' w' a' h1 h2 h3
    obtain ⟨v, hv1, hv2⟩ := resAll_ok hT hr g1 g3 hq1
    have fin : a'.defers = [] ∧ ∃ v, (results fn a'.tmps).run P w' = .ok v w' ∧ ∃ v' r β' H', Ending.returned v = .returned v' ∧ Inv β' H' w' ∧ Ext β H w β' H' w' ∧ V β' H' w' v' r ∧ Q r H' :=
      ⟨g3.defers, v, hv1, v, _, β2, K, rfl, trim_inv hK g1, trim_ext hl g2, hv2.trim hbK, hq⟩
    cases e <;> cases x <;> simp only [exOk] at hx
    · exact fin
    · exact h4.elim
    · exact fin

/-- The end of such a function: what it made is dropped. -/
theorem fin_c {rs : List ResultVar} {r : PV} {L : Heap} {x : AEx} (hx : x = .normal ∨ x = .ret) (hb : HB H0.length H0) (h : resAll T σ (H0 ++ L) rs = (true, r)) (hr : Bdd H0.length r) :
    EndsC T H0 rs (fun r' H' => r' = r ∧ H' = H0) x σ (H0 ++ L) :=
  ⟨by rcases hx with rfl | rfl <;> trivial, σ, H0 ++ L, Ghost.refl, by rw [h], H0, L, rfl, hb, Nat.le_refl _, by rw [h]; exact hr, by rw [h]; exact ⟨rfl, rfl⟩⟩
end

end Go.Proofs.SL
