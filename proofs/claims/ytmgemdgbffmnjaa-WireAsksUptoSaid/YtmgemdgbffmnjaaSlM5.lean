/-
  SL: functions that give what lies in a variable's cells. No claim by itself.
-/
import Derived.Test.YtmgemdgbffmnjaaSlM4
import Derived.Below
import Derived.Lib.Join
import Derived.Lib.LaidTab
import Derived.LoopNIn
import Derived.OpenShut
import Derived.ChangeReads
import Derived.WideKeyArgs
import Derived.LaidLaws
import Derived.Lay
import Derived.LaidSub
import Derived.Shelf.Vars
import Derived.SizedLaws
namespace Go.Proofs.SL
open Go
set_option linter.unusedSimpArgs false
set_option linter.unusedVariables false

def resOne (T : Nat → Option TD) (σ : Env) (H : Heap) : ResultVar → Bool × PV
  | .tmp t => (true, σ.getD t .any)
  | .cell t ty => match T ty with
    | some d => loadV d H (σ.getD t .any)
    | none => no
def resAll (T : Nat → Option TD) (σ : Env) (H : Heap) : List ResultVar → Bool × PV
  | [r] => resOne T σ H r
  | rs => (rs.all fun r => (resOne T σ H r).1, .tup (rs.map fun r => (resOne T σ H r).2))

section
variable {P : Program} {T : Nat → Option TD} {ord : Nat → List Nat} {β : Nat → Option Nat} {H H0 : Heap} {w : World} {σ : Env} {a : Act}

def resRun (tmps : Array Value) : ResultVar → Sem Value
  | .tmp t => pure (tmps.getD t undef)
  | .cell a t => do loadVar t (← asAddr (tmps.getD a undef))

theorem resOne_ok (hT : TOk P T) (hI : Inv β H w) {n : Nat} (hF : FR n β H w a σ) {r : ResultVar} (h : (resOne T σ H r).1 = true) :
    ∃ v, (resRun a.tmps r).run P w = .ok v w ∧ V β H w v (resOne T σ H r).2 := by
  cases r with
  | tmp t => exact ⟨_, rfl, slot hF t⟩
  | cell t ty =>
    simp only [resOne] at h ⊢
    cases hd : T ty with
    | none => rw [hd] at h; simp [no] at h
    | some d =>
      rw [hd] at h
      simp only at h ⊢
      have hx := slot hF t
      obtain ⟨v, hv, hvV⟩ := load_ok hT hI hd hx rfl h
      refine ⟨v, ?_, hvV⟩
      rw [← hv w rfl]
      have : ∃ ad, a.tmps.getD t undef = .pointer (some ad) := by
        generalize σ.getD t .any = p at hx h
        cases p <;> simp only [loadV, no, Bool.false_eq_true] at h
        · obtain ⟨b, hb, _⟩ := hx.ptr_inv; exact ⟨_, hb⟩
        · obtain ⟨b, off, f, hb, _⟩ := hx.cptr_inv; exact ⟨_, hb⟩
      obtain ⟨ad, had⟩ := this
      show Sem.run P (do loadVar ty (← asAddr (a.tmps.getD t undef))) w = Sem.run P (do loadVar ty (← Instr.sureAddr (a.tmps.getD t undef))) w
      rw [had]
      rfl

theorem resAll_ok (hT : TOk P T) {fn : Func} {rs : List ResultVar} (hr : fn.results = rs.toArray) (hI : Inv β H w) {n : Nat} (hF : FR n β H w a σ) (h : (resAll T σ H rs).1 = true) :
    ∃ v, (results fn a.tmps).run P w = .ok v w ∧ V β H w v (resAll T σ H rs).2 := by
  have hall : ∀ r ∈ rs, (resOne T σ H r).1 = true := by
    intro r hm
    unfold resAll at h
    split at h
    · simp only [List.mem_singleton] at hm; subst hm; exact h
    · exact List.all_eq_true.mp h r hm
  have key : ∀ l : List ResultVar, (∀ r ∈ l, (resOne T σ H r).1 = true) → ∃ vs : List Value, (l.mapM (resRun a.tmps)).run P w = .ok vs w ∧ vs.length = l.length ∧
      ∀ (i : Nat) (v : Value) (r : ResultVar), vs[i]? = some v → l[i]? = some r → V β H w v (resOne T σ H r).2 := by
    intro l
    induction l with
    | nil => intro _; exact ⟨[], rfl, rfl, by simp⟩
    | cons r l ih =>
      intro hl
      obtain ⟨v, hv, hvV⟩ := resOne_ok hT hI hF (hl r (by simp))
      obtain ⟨vs, h1, h2, h3⟩ := ih fun r hr => hl r (List.mem_cons_of_mem _ hr)
      refine ⟨v :: vs, ?_, by simp [h2], fun i x y hx hy => ?_⟩
      · simp only [List.mapM_cons, Sem.run_bind, hv, Result.andThen_ok, h1]; rfl
      · cases i with
        | zero => simp at hx hy; subst hx; subst hy; exact hvV
        | succ i => exact h3 i x y (by simpa using hx) (by simpa using hy)
  obtain ⟨vs, h1, h2, h3⟩ := key rs hall
  have hm : (rs.toArray.mapM (resRun a.tmps)).run P w = .ok vs.toArray w := by
    rw [List.mapM_toArray, map_eq_pure_bind, Sem.run_bind, h1]
    rfl
  have hfun : resRun a.tmps = (fun x : ResultVar => (match x with
      | .tmp t => pure (a.tmps.getD t undef)
      | .cell a_1 t => (do loadVar t (← asAddr (a.tmps.getD a_1 undef)) : Sem Value))) := by
    funext x
    cases x <;> rfl
  have hrun : (results fn a.tmps).run P w = .ok (if h : vs.toArray.size = 1 then vs.toArray[0] else .tuple vs.toArray) w := by
    rw [hfun] at hm
    unfold results
    rw [hr, Sem.run_bind]
    refine (congrArg (fun r => Result.andThen r _) hm).trans ?_
    rfl
  refine ⟨_, hrun, ?_⟩
  by_cases h1' : rs.length = 1
  · obtain ⟨r, rfl⟩ := List.length_eq_one_iff.mp h1'
    obtain ⟨v, rfl⟩ := List.length_eq_one_iff.mp (h2.trans h1')
    exact h3 0 v r rfl rfl
  · have e : (resAll T σ H rs).2 = .tup (rs.map fun r => (resOne T σ H r).2) := by
      unfold resAll
      split
      · simp at h1'
      · rfl
    rw [e, dif_neg (by simp; omega)]
    refine .tup _ _ (by simp [h2]) fun i v p hv hp => ?_
    simp only [List.getElem?_toArray, List.getElem?_map] at hv hp
    cases ht : rs[i]? with
    | none => rw [ht] at hp; cases hp
    | some r =>
      rw [ht] at hp
      simp only [Option.map_some, Option.some.injEq] at hp
      subst hp
      exact h3 i v r hv ht

/-- What a function's body is to show, where its results lie in cells. -/
def EndsC (T : Nat → Option TD) (H0 : Heap) (rs : List ResultVar) (Q : PV → Heap → Prop) (x : AEx) (σ : Env) (H : Heap) : Prop :=
  (match x with
  | .exit _ => False
  | _ => True) ∧ ∃ σ' H', Ghost H0 σ H σ' H' ∧ (resAll T σ' H' rs).1 = true ∧ ∃ K L, H' = K ++ L ∧ HB K.length K ∧ H0.length ≤ K.length ∧ Bdd K.length (resAll T σ' H' rs).2 ∧ Q (resAll T σ' H' rs).2 K

theorem scall_ofc (hT : TOk P T) {f : FuncId} {fn : Func} {c : Code} {rs : List ResultVar} {args : List PV} {Q : PV → Heap → Prop} (hf : P.funcs[f]? = some fn) (hb : fn.body = some c) (hn : (fn.name == "runtime.NumGoroutine") = false)
    (hr : fn.results = rs.toArray) (hc : codeOk T ord c = true) {nt : Nat} (hnt : fn.ntmps = nt)
    (h : HB H.length H → (∀ p ∈ args, Bdd H.length p) → Runs P T ord H [.code c] (slots nt args) H (EndsC T H rs Q)) : SCall P f args H Q := by
  subst hnt
  refine ⟨fun vs w => ?_, fun β w vs hI hs hv => callsIn_wide.1 (callsIn_of_wp_marks (F := Fence.wide) (n := 0) hf hb trivial ?_ rfl)⟩
  · have hn' : fn.name ≠ "runtime.NumGoroutine" := by simpa using hn
    simp [callFunc, hf, hb, hn']
  · have hbd : ∀ p ∈ args, Bdd H.length p := fun p hp => by
      obtain ⟨i, hi, rfl⟩ := List.getElem_of_mem hp
      exact (hv i (vs[i]'(by omega)) _ (Array.getElem?_eq_getElem _) (List.getElem?_eq_getElem _)).bdd
    have hrun : Run P (inR ord) H [.code c] (slots fn.ntmps args) H (EndsC T H rs Q) := h hI.hb hbd ⟨fun it hit => by
      simp only [List.mem_singleton] at hit; subst hit; exact hc, by simp⟩
    have hF : FR w.heap.size β H w { tmps := vs ++ Array.replicate (fn.ntmps - vs.size) undef, defers := [] } (slots fn.ntmps args) := by
      refine ⟨by simp [slots, hs], fun t p hp => ?_, .nil⟩
      unfold slots at hp
      rcases Nat.lt_or_ge t args.length with ht | ht
      · rw [List.getElem?_append_left ht] at hp
        have : t < vs.size := by omega
        simp only [Array.getD_eq_getD_getElem?, Array.getElem?_append_left this, Array.getElem?_eq_getElem this, Option.getD_some]
        exact hv t _ _ (Array.getElem?_eq_getElem this) hp
      · rw [List.getElem?_append_right ht] at hp
        have := List.mem_of_getElem? hp
        rw [List.mem_replicate] at this
        rw [this.2]
        exact .any _
    refine wpIn_mono (hrun β w β w _ hI (Ext.refl ..) hF none (fun _ => rfl)) fun e a' w' he => ?_
    obtain ⟨x, σ', H', β', hx, h1, h2, h3, h4, σ2, H2, g, hq1, K, L, rfl, hK, hl, hbK, hq⟩ := he
    obtain ⟨β2, g1, g2, g3⟩ := g β w β' w' a' h1 h2 h3
    have fin : LeavesInM Fence.wide 0 P fn a'.tmps (fun e w' => ∃ v r β' H', e = .returned v ∧ Inv β' H' w' ∧ Ext β H w β' H' w' ∧ V β' H' w' v r ∧ Q r H') a'.defers .returning w' :=
      leave_marks a'.defers w' g3.defers fun w2 hw2 => by
        have g4 : FR w.heap.size β2 _ w2 { a' with defers := [] } σ2 := ⟨g3.size, fun t p hp => (g3.v t p hp).off hw2, .nil⟩
        obtain ⟨v, hv1, hv2⟩ := resAll_ok hT hr (g1.off hw2) g4 hq1
        exact ⟨v, hv1, v, _, β2, K, rfl, (trim_inv hK g1).off hw2, (trim_ext hl g2).off hw2, hv2.trim hbK, hq⟩
    cases e <;> cases x <;> simp only [exOk] at hx
    · exact fin
    · exact h4.elim
    · exact fin

/-- The end of such a function: what it made is dropped. -/
theorem fin_c {rs : List ResultVar} {r : PV} {L : Heap} {x : AEx} (hx : x = .normal ∨ x = .ret) (hb : HB H0.length H0) (h : resAll T σ (H0 ++ L) rs = (true, r)) (hr : Bdd H0.length r) :
    EndsC T H0 rs (fun r' H' => r' = r ∧ H' = H0) x σ (H0 ++ L) :=
  ⟨by rcases hx with rfl | rfl <;> trivial, σ, H0 ++ L, Ghost.refl, by rw [h], H0, L, rfl, hb, Nat.le_refl _, by rw [h]; exact hr, by rw [h]; exact ⟨rfl, rfl⟩⟩
end

end Go.Proofs.SL

/-
  SL: rules on numbers for the evaluator, of which some ask for a bound: for 'simp only (disch := omega)'. No claim by itself.
-/
namespace Go.Proofs.SL
open Go
set_option linter.unusedSimpArgs false
set_option linter.unusedVariables false

section
variable {a b n : Nat} {x y : Int}
/-! A number that its kind holds. -/
@[go_sem] theorem nw_i64 (h1 : -9223372036854775808 ≤ x) (h2 : x ≤ 9223372036854775807) : IntKind.i64.wrap x = x := IntWalk.i64_in x ⟨h1, h2⟩
@[go_sem] theorem nw_i32 (h1 : -2147483648 ≤ x) (h2 : x ≤ 2147483647) : IntKind.i32.wrap x = x := IntWalk.i32_in x ⟨h1, h2⟩
@[go_sem] theorem nw_u8 (h1 : 0 ≤ x) (h2 : x ≤ 255) : IntKind.u8.wrap x = x := IntWalk.u8_in x ⟨h1, h2⟩
@[go_sem] theorem nw_u16 (h1 : 0 ≤ x) (h2 : x ≤ 65535) : IntKind.u16.wrap x = x := IntWalk.u16_in x ⟨h1, h2⟩
@[go_sem] theorem nw_u32 (h1 : 0 ≤ x) (h2 : x ≤ 4294967295) : IntKind.u32.wrap x = x := IntWalk.u32_in x ⟨h1, h2⟩
@[go_sem] theorem nw_u64 (h1 : 0 ≤ x) (h2 : x ≤ 18446744073709551615) : IntKind.u64.wrap x = x := IntWalk.u64_in x ⟨h1, h2⟩
theorem mw_u8 : IntKind.u8.wrap (a : Int) = ((a % 256 : Nat) : Int) := by rw [IntKind.wrap_u8]; omega
theorem mw_u16 : IntKind.u16.wrap (a : Int) = ((a % 65536 : Nat) : Int) := by simp [IntKind.wrap, IntKind.bits, IntKind.signed]
theorem mw_u32 : IntKind.u32.wrap (a : Int) = ((a % 4294967296 : Nat) : Int) := by rw [IntKind.wrap_u32]; omega

/-! Casts go outwards. -/
@[go_sem] theorem up_add : (a : Int) + (b : Int) = ((a + b : Nat) : Int) := rfl
@[go_sem] theorem up_add1 : (a : Int) + no_index (OfNat.ofNat n) = ((a + OfNat.ofNat n : Nat) : Int) := rfl
@[go_sem] theorem up_add2 : no_index (OfNat.ofNat n) + (a : Int) = ((OfNat.ofNat n + a : Nat) : Int) := rfl
@[go_sem] theorem up_mul : (a : Int) * (b : Int) = ((a * b : Nat) : Int) := rfl
@[go_sem] theorem up_mul1 : (a : Int) * no_index (OfNat.ofNat n) = ((a * OfNat.ofNat n : Nat) : Int) := rfl
@[go_sem] theorem up_mul2 : no_index (OfNat.ofNat n) * (a : Int) = ((OfNat.ofNat n * a : Nat) : Int) := rfl
@[go_sem] theorem up_sub (h : b ≤ a) : (a : Int) - (b : Int) = ((a - b : Nat) : Int) := by omega
@[go_sem] theorem up_sub1 (h : OfNat.ofNat n ≤ a) : (a : Int) - no_index (OfNat.ofNat n) = ((a - OfNat.ofNat n : Nat) : Int) := by
  have : (no_index (OfNat.ofNat n) : Int) = ((OfNat.ofNat n : Nat) : Int) := rfl
  rw [this]; exact up_sub h
@[go_sem] theorem up_sub2 (h : a ≤ OfNat.ofNat n) : no_index (OfNat.ofNat n) - (a : Int) = ((OfNat.ofNat n - a : Nat) : Int) := by
  have : (no_index (OfNat.ofNat n) : Int) = ((OfNat.ofNat n : Nat) : Int) := rfl
  rw [this]; exact up_sub h
@[go_sem] theorem up_tmod : (a : Int).tmod (b : Int) = ((a % b : Nat) : Int) := rfl
@[go_sem] theorem up_tmod1 : (a : Int).tmod (no_index (OfNat.ofNat n)) = ((a % OfNat.ofNat n : Nat) : Int) := rfl
@[go_sem] theorem up_tdiv : (a : Int).tdiv (b : Int) = ((a / b : Nat) : Int) := rfl
@[go_sem] theorem up_tdiv1 : (a : Int).tdiv (no_index (OfNat.ofNat n)) = ((a / OfNat.ofNat n : Nat) : Int) := rfl
@[go_sem] theorem up_fdiv1 : (a : Int).fdiv (no_index (OfNat.ofNat n)) = ((a / OfNat.ofNat n : Nat) : Int) := by
  have : (no_index (OfNat.ofNat n) : Int) = ((OfNat.ofNat n : Nat) : Int) := rfl
  rw [this, Int.fdiv_eq_ediv_of_nonneg _ (Int.natCast_nonneg _)]; rfl

/-! Comparisons of casts. -/
@[go_sem] theorem up_lt1 : ((a : Int) < no_index (OfNat.ofNat n)) ↔ a < OfNat.ofNat n := Int.ofNat_lt
@[go_sem] theorem up_lt2 : (no_index (OfNat.ofNat n) < (a : Int)) ↔ OfNat.ofNat n < a := Int.ofNat_lt
@[go_sem] theorem up_le1 : ((a : Int) ≤ no_index (OfNat.ofNat n)) ↔ a ≤ OfNat.ofNat n := Int.ofNat_le
@[go_sem] theorem up_le2 : (no_index (OfNat.ofNat n) ≤ (a : Int)) ↔ OfNat.ofNat n ≤ a := Int.ofNat_le
@[go_sem] theorem up_eq : ((a : Int) = (b : Int)) ↔ a = b := Int.ofNat_inj
@[go_sem] theorem up_eq1 : ((a : Int) = no_index (OfNat.ofNat n)) ↔ a = OfNat.ofNat n := Int.ofNat_inj
@[go_sem] theorem up_eq2 : (no_index (OfNat.ofNat n) = (a : Int)) ↔ OfNat.ofNat n = a := Int.ofNat_inj
@[go_sem] theorem up_neg : ((a : Int) < 0) ↔ False := ⟨fun h => by omega, False.elim⟩
@[go_sem] theorem up_neg1 : ((a : Int) = -1) ↔ False := ⟨fun h => by omega, False.elim⟩
@[go_sem] theorem min_64 (h : a ≤ 64) : min a 64 = a := Nat.min_eq_left h
@[go_sem] theorem min_32 (h : a ≤ 32) : min a 32 = a := Nat.min_eq_left h
@[go_sem] theorem min_16 (h : a ≤ 16) : min a 16 = a := Nat.min_eq_left h
@[go_sem] theorem min_8 (h : a ≤ 8) : min a 8 = a := Nat.min_eq_left h
@[go_sem] theorem cast_lit : ((no_index (OfNat.ofNat n) : Nat) : Int) = no_index (OfNat.ofNat n) := rfl
theorem sub_lit (h : OfNat.ofNat n ≤ a) : a - OfNat.ofNat n + OfNat.ofNat n = a := Nat.sub_add_cancel h
attribute [go_sem] Nat.add_sub_cancel Nat.zero_le Nat.not_lt_zero Nat.zero_add Nat.add_zero Nat.mul_one Nat.one_mul
end

end Go.Proofs.SL

/-
  SL: contracts of the kit's shelf as contracts of SL; package-level variables as objects that stay. No claim by itself.
-/
namespace Go.Proofs.SL
open Go Go.RowKit
set_option linter.unusedSimpArgs false
set_option linter.unusedVariables false

section
variable {P : Program} {H : Heap}

/-- A package-level variable's block stands in the heap. -/
def HasG (H : Heap) (b : Nat) (o : Obj) : Prop := ∃ i : Nat, H[i]? = some (some (OB.glob b o))

theorem HasG.app {b : Nat} {o : Obj} (h : HasG H b o) {L : Heap} : HasG (H ++ L) b o := by
  obtain ⟨i, hi⟩ := h
  exact ⟨i, (List.getElem?_append_left (Alive.lt ⟨_, hi⟩)).trans hi⟩

theorem HasG.block {b : Nat} {o : Obj} (h : HasG H b o) {β : Nat → Option Nat} {w : World} (hI : Inv β H w) : w.heap[b]? = some o := by
  obtain ⟨i, hi⟩ := h
  exact (hI.ok i _ hi).2.1

/-- A contract of the shelf, lifted: its call leaves what was there. -/
theorem scall_lift {f : FuncId} {fn : Func} {c : Code} (hf : P.funcs[f]? = some fn) (hb : fn.body = some c) (hn : (fn.name == "runtime.NumGoroutine") = false) {args : List PV} {r : PV}
    (h : ∀ β w vs, Inv β H w → vs.size = args.length → (∀ (i : Nat) (v : Value) (p : PV), vs[i]? = some v → args[i]? = some p → V β H w v p) →
      Calls P f vs w fun e w' => ∃ v, e = .returned v ∧ Below w.heap.size w w' ∧ ∀ (β' : Nat → Option Nat) (w2 : World), V β' H w2 v r) : SCall P f args H fun r' H' => r' = r ∧ H' = H := by
  refine ⟨fun vs w => ?_, fun β w vs hI hs hv => (h β w vs hI hs hv).mono fun e w' ⟨v, he, hbl, hV⟩ => ?_⟩
  · have hn' : fn.name ≠ "runtime.NumGoroutine" := by simpa using hn
    simp [callFunc, hf, hb, hn']
  · have hsame : Same w w' := ⟨hbl.os, hbl.tape, hbl.output, hbl.size⟩
    exact ⟨v, r, β, H, he, quiet_inv hI hsame fun k hk => hbl.block k hk, quiet_ext hI hsame fun k hk => hbl.block k hk, hV β w', rfl, rfl⟩

theorem vals1 {β : Nat → Option Nat} {w : World} {vs : Array Value} {p : PV} (hs : vs.size = [p].length) (hv : ∀ (i : Nat) (v : Value) (q : PV), vs[i]? = some v → [p][i]? = some q → V β H w v q) :
    ∃ v, vs = #[v] ∧ V β H w v p := by
  have hs' : vs.size = 1 := hs
  refine ⟨vs[0]'(by omega), ?_, hv 0 _ _ (Array.getElem?_eq_getElem _) rfl⟩
  apply Array.ext
  · simpa using hs'
  · intro i h1 h2
    have : i = 0 := by simp at h2; omega
    subst this; rfl

theorem vals2 {β : Nat → Option Nat} {w : World} {vs : Array Value} {p q : PV} (hs : vs.size = [p, q].length) (hv : ∀ (i : Nat) (v : Value) (x : PV), vs[i]? = some v → [p, q][i]? = some x → V β H w v x) :
    ∃ v u, vs = #[v, u] ∧ V β H w v p ∧ V β H w u q := by
  have hs' : vs.size = 2 := hs
  refine ⟨vs[0]'(by omega), vs[1]'(by omega), ?_, hv 0 _ _ (Array.getElem?_eq_getElem _) rfl, hv 1 _ _ (Array.getElem?_eq_getElem _) rfl⟩
  apply Array.ext
  · simpa using hs'
  · intro i h1 h2
    have : i = 0 ∨ i = 1 := by simp at h2; omega
    rcases this with rfl | rfl <;> rfl

theorem Below.same {w : World} : Below w.heap.size w w := ⟨rfl, rfl, rfl, Nat.le_refl _, fun _ _ => rfl⟩

def joinL (sep : List UInt8) (l : List (List UInt8)) : List UInt8 := sep.intercalate l

theorem join_map {l : List (List UInt8)} : (l.map bs).map (fun x : ByteArray => x.data.toList) = l := by
  rw [List.map_map]
  have : ((fun x : ByteArray => x.data.toList) ∘ bs) = id := by funext x; simp [bs]
  rw [this, List.map_id]

/-- What the shelf says of Join, at any program. -/
def JoinSays (P : Program) (f : FuncId) : Prop :=
  (∀ (a : Option Addr) (c : Nat) (sep : ByteArray) (w : World), Calls P f #[.slice a 0 c, .string sep] w fun e w' => e = .returned (.string ⟨#[]⟩) ∧ w' = w) ∧
  ∀ (bk o c : Nat) (xs : List ByteArray) (sep : ByteArray) (w : World), (∀ (j : Nat) x, xs[j]? = some x → w.cell? ⟨bk, o + j, none⟩ = some (.string x)) → bk < w.heap.size → xs.length ≤ 140737488355328 → xs.length ≤ c →
    (Lib.join (xs.map (·.data.toList)) sep.data.toList).length ≤ 140737488355328 →
    Calls P f #[.slice (some ⟨bk, o, none⟩) xs.length c, .string sep] w fun e w' => e = .returned (.string ⟨(Lib.join (xs.map (·.data.toList)) sep.data.toList).toArray⟩) ∧ Below w.heap.size w w'

theorem join_args {β : Nat → Option Nat} {w : World} {x : Value} {p : PV} {l : List (List UInt8)} (hI : Inv β H w) (hx : V β H w x p)
    (hp : (p = .nils ∧ l = []) ∨ p = .sl 1 (strs l) ∨ ∃ i ver tip, p = .buf i ver 0 l.length 1 tip ∧ H[i]? = some (some (.cells ver (strs l)))) :
    ∃ a c, x = .slice a l.length c ∧ l.length ≤ c ∧ (l ≠ [] → ∃ bk o, a = some ⟨bk, o, none⟩ ∧ bk < w.heap.size ∧ ∀ (j : Nat) s, l[j]? = some s → w.cell? ⟨bk, o + j, none⟩ = some (.string (bs s))) := by
  rcases hp with ⟨rfl, rfl⟩ | rfl | ⟨i, ver, tip, rfl, ho⟩
  · rw [hx.nils_inv]
    exact ⟨none, 0, rfl, Nat.le_refl _, fun h => absurd rfl h⟩
  · obtain ⟨a, cap, rfl, hc, hsl⟩ := hx.sl_inv
    refine ⟨a, cap, by rw [strs_len], by rw [strs_len] at hc; exact hc, fun hne => ?_⟩
    obtain ⟨b, off, rfl, hb, hm, f, h1, h2, h3⟩ := hsl (by
      intro h
      apply hne
      cases l with
      | nil => rfl
      | cons s l => simp [strs] at h)
    refine ⟨b, off, rfl, hb.1, fun j s hj => ?_⟩
    have hjl : j < l.length := by
      rcases Nat.lt_or_ge j l.length with h | h
      · exact h
      · rw [List.getElem?_eq_none h] at hj; cases hj
    have hv := h2 j (.str (bs s)) (by rw [flat_strs]; simp [strs, hj])
    rw [h1 j (by rw [flat_strs, strs_len]; exact hjl), hv.str_inv]
  · obtain ⟨a, cap, rfl, hc, ha, hi, hl⟩ := hx.buf_inv
    refine ⟨a, cap, rfl, hc, fun hne => ?_⟩
    have hz : l.length ≠ 0 := by
      intro h
      exact hne (List.eq_nil_of_length_eq_zero h)
    obtain ⟨b, rfl⟩ := ha hz
    obtain ⟨hn, hs⟩ := hl ⟨_, ho, rfl⟩
    cases hb : β i with
    | none => have := (hn hb).1; omega
    | some b' =>
      have hb' : b = b' := by
        rcases hs b' hb with ⟨h, _⟩ | ⟨h, _⟩
        · exact absurd h hz
        · cases h; rfl
      subst hb'
      obtain ⟨_, hbb⟩ := hI.cells ho
      obtain ⟨c, t, fz, f, hh, hsz, hf, hV, _⟩ := hbb b hb
      refine ⟨b, 0, rfl, hI.block ⟨_, ho⟩ hb, fun j s hj => ?_⟩
      have hjl : j < (strs l).length := by
        rw [strs_len]
        rcases Nat.lt_or_ge j l.length with h | h
        · exact h
        · rw [List.getElem?_eq_none h] at hj; cases hj
      have hv := hV j (.str (bs s)) (by simp [strs, hj])
      rw [Nat.zero_add, cell_of hh, hf j hjl, hv.str_inv]

/-- strings.Join, of a slice that is read or that was grown. -/
theorem join_call {f : FuncId} {fn : Func} {c : Code} (hf : P.funcs[f]? = some fn) (hb : fn.body = some c) (hn : (fn.name == "runtime.NumGoroutine") = false) (hJ : JoinSays P f) (l : List (List UInt8)) (sep : List UInt8) (p : PV)
    (hp : (p = .nils ∧ l = []) ∨ p = .sl 1 (strs l) ∨ ∃ i ver tip, p = .buf i ver 0 l.length 1 tip ∧ H[i]? = some (some (.cells ver (strs l)))) (hl : l.length ≤ 1000000000) (hlen : (joinL sep l).length ≤ 140737488355328) :
    SCall P f [p, .str (bs sep)] H fun r' H' => r' = .str (bs (joinL sep l)) ∧ H' = H := by
  refine scall_lift hf hb hn fun β w vs hI hs hv => ?_
  obtain ⟨x, y, rfl, hx, hy⟩ := vals2 hs hv
  rw [hy.str_inv]
  obtain ⟨a, cap, rfl, hc, hsl⟩ := join_args hI hx hp
  by_cases hne : l = []
  · subst hne
    refine (hJ.1 a cap (bs sep) w).mono fun e w' ⟨he, hw⟩ => ⟨_, he, hw ▸ Below.same, fun β' w2 => ?_⟩
    exact .str _
  · obtain ⟨bk, o, rfl, h1, h2⟩ := hsl hne
    have h3 := hJ.2 bk o cap (l.map bs) (bs sep) w (fun j s hj => by
      rw [List.getElem?_map] at hj
      cases hlj : l[j]? with
      | none => rw [hlj] at hj; cases hj
      | some z => rw [hlj] at hj; cases hj; exact h2 j z hlj) h1 (by rw [List.length_map]; omega) (by rw [List.length_map]; exact hc) (by rw [join_map]; simpa [bs, Lib.join, joinL] using hlen)
    rw [List.length_map] at h3
    refine h3.mono fun e w' ⟨he, hw⟩ => ⟨_, he, hw, fun β' w2 => ?_⟩
    rw [join_map]
    have : (bs sep).data.toList = sep := by simp [bs]
    rw [this]
    exact .str _
end

end Go.Proofs.SL

/-
  SL: loops round by round. No claim by itself.
-/
namespace Go.Proofs.SL
open Go
set_option linter.unusedSimpArgs false
set_option linter.unusedVariables false

/-- What is to show where so many rounds are left. -/
def RU (P : Program) (T : Nat → Option TD) (ord : Nat → List Nat) (H0 : Heap) (Φ : AEx → Env → Heap → Prop) (c : Code) (its : List It) : Nat → AEx → Env → Heap → Prop
  | 0, .normal, _, _ => False
  | n + 1, .normal, σ, H => ∃ σ' H', Ghost H0 σ H σ' H' ∧ Runs P T ord H0 [.code c] σ' H' (RU P T ord H0 Φ c its n)
  | _, .exit id, σ, H => match toBlk id its with
    | some k => Runs P T ord H0 k σ H Φ
    | none => Φ (.exit id) σ H
  | _, .ret, σ, H => Φ .ret σ H

section
variable {P : Program} {T : Nat → Option TD} {ord : Nat → List Nat} {H0 : Heap} {Φ : AEx → Env → Heap → Prop} {c : Code} {its : List It}

@[go_sem] theorem ru_exit {n id : Nat} {σ : Env} {H : Heap} : RU P T ord H0 Φ c its n (.exit id) σ H ↔ match toBlk id its with
    | some k => Runs P T ord H0 k σ H Φ
    | none => Φ (.exit id) σ H := by cases n <;> exact Iff.rfl
@[go_sem] theorem ru_ret {n : Nat} {σ : Env} {H : Heap} : RU P T ord H0 Φ c its n .ret σ H ↔ Φ .ret σ H := by cases n <;> exact Iff.rfl

theorem runs_rounds (n : Nat) (hc : its.all calmB = true) {σ : Env} {H : Heap} (h : RU P T ord H0 Φ c its n .normal σ H) : Runs P T ord H0 (.loop c :: its) σ H Φ := by
  have hcalm := calm_of hc
  intro hok
  have hcc : codeOk T ord c = true := hok.1 (.loop c) (by simp)
  intro β0 w0 β w a hI hE hF r hro
  show (Code.loop c).wpIn (wideR r) 0 P (kontL P r (Fin Φ β0 H0 w0) its) a w
  refine wpIn_loop_rounds n ?_
  induction n generalizing σ H β w a with
  | zero => exact h.elim
  | succ n ih =>
    obtain ⟨σ1, H1, g, hr⟩ := h
    obtain ⟨β1, g1, g2, g3⟩ := g β0 w0 β w a hI hE hF
    have hr' : Run P (inR ord) H0 [.code c] σ1 H1 (RU P T ord H0 Φ c its n) := hr ⟨fun it hit => (by simp only [List.mem_singleton] at hit; subst hit; exact hcc), by simp⟩
    have h1 : c.wpIn (wideR r) 0 P (Fin (RU P T ord H0 Φ c its n) β0 H0 w0) a w := hr' β0 w0 β1 w a g1 g2 g3 r hro
    show c.wpIn (wideR r) 0 P _ a w
    refine wpIn_mono h1 fun e a' w' he => ?_
    obtain ⟨x, σ2, H2, β2, hx, k1, k2, k3, k4⟩ := he
    cases e <;> cases x <;> simp only [exOk] at hx
    · exact ih k4 β2 w' a' k1 k2 k3
    · subst hx
      rename_i id
      rw [ru_exit] at k4
      refine (kont_exit id its a' w').mpr ?_
      split at k4
      · rename_i k hk
        simp only [hk]
        have hs := toBlk_sub its k hk
        exact runs_calm (fun x hx => hcalm x (hs x hx)) ⟨fun x hx => hok.1 x (List.mem_cons_of_mem _ (hs x hx)), fun x hx => hcalm x (hs x (List.mem_of_mem_tail hx))⟩ k4 β0 w0 β2 w' a' k1 k2 k3 r hro
      · rename_i hk
        simp only [hk]
        exact ⟨.exit id, σ2, H2, β2, rfl, k1, k2, k3, k4⟩
    · rw [ru_ret] at k4
      exact kont_ret its a' w' ⟨.ret, σ2, H2, β2, trivial, k1, k2, k3, k4⟩

/-- One round more: with the slots that the mask keeps. -/
theorem ru_go (mask : List Bool) {n : Nat} {σ : Env} {H : Heap} (h : Runs P T ord H0 [.code c] (keepB mask σ) H (RU P T ord H0 Φ c its n)) : RU P T ord H0 Φ c its (n + 1) .normal σ H :=
  ⟨keepB mask σ, H, Ghost.keep mask, h⟩
@[go_sem] theorem resAll_1 {σ : Env} {H : Heap} {r : ResultVar} : resAll T σ H [r] = resOne T σ H r := rfl
@[go_sem] theorem resAll_2 {σ : Env} {H : Heap} {r r' : ResultVar} : resAll T σ H [r, r'] = ((resOne T σ H r).1 && ((resOne T σ H r').1 && true), .tup [(resOne T σ H r).2, (resOne T σ H r').2]) := rfl
@[go_sem] theorem resOne_t {σ : Env} {H : Heap} {t : Nat} : resOne T σ H (.tmp t) = (true, σ.getD t .any) := rfl
@[go_sem] theorem resOne_c {σ : Env} {H : Heap} {t ty : Nat} : resOne T σ H (.cell t ty) = match T ty with
    | some d => loadV d H (σ.getD t .any)
    | none => no := rfl
attribute [go_sem] Prod.mk.injEq
end

/-- A region's mark: both orders. -/
theorem runs_fork {P : Program} {T : Nat → Option TD} {ord : Nat → List Nat} {H0 : Heap} {Φ : AEx → Env → Heap → Prop} {all : List Oper} {m n : Nat} {l1 l2 : List Nat} {k : List It} {σ : Env} {H : Heap} (hm : all[m]? = none) (hn : n = l1.length)
    (h1 : Runs P T ord H0 (.dr all l1 :: k) σ H Φ) (h2 : Runs P T ord H0 (.dr all l2 :: k) σ H Φ) : Runs P T ord H0 (.dr all (m :: n :: (l1 ++ l2)) :: k) σ H Φ := by
  intro hok
  have hk : ∀ l : List Nat, ItsOk T ord (.dr all l :: k) := fun l => ⟨fun it hit => by
    rcases List.mem_cons.mp hit with rfl | h
    · trivial
    · exact hok.1 it (List.mem_cons_of_mem _ h), hok.2⟩
  exact .fork hm hn (h1 (hk l1)) (h2 (hk l2))

end Go.Proofs.SL

/-
  SL: from a contract in the empty heap to what a row asks for. No claim by itself.
-/
namespace Go.Proofs.SL
open Go Go.RowKit

/-- A law that gives true, whatever the world: its call returns true, and all that was there stays. -/
theorem law_walk {P : Program} {f : FuncId} {args : List PV} (h : PCall P f args (.bool true)) {vs : Array Value} {w : World} (hs : vs.size = args.length)
    (hv : ∀ (i : Nat) (v : Value) (p : PV), vs[i]? = some v → args[i]? = some p → V (fun _ => none) [] w v p) :
    Calls P f vs w fun e w' => e = .returned (.bool true) ∧ Below w.heap.size w w' := by
  refine ((h []).2 (fun _ => none) w vs ⟨fun i o ho => by simp at ho, fun i j b hi _ => by obtain ⟨o, ho⟩ := hi; simp at ho⟩ hs hv).mono ?_
  rintro e w' ⟨v, r, β', H', rfl, h1, h2, h3, rfl, h5⟩
  rw [h3.bool_inv]
  refine ⟨rfl, h2.os, h2.tape, h2.output, h2.size, fun k hk => (h2.imm k ⟨hk, fun i hi => ?_⟩).1⟩
  obtain ⟨o, ho, _⟩ := hi
  simp at ho

theorem wf_in {k : IntKind} {n : Int} (h : (Lit.int k n).wf = true) : k.min ≤ n ∧ n ≤ k.max := by
  simpa only [Lit.wf, Bool.and_eq_true, decide_eq_true_eq] using h
theorem i64_of {n : Int} (h : (Lit.int .i64 n).wf = true) : -9223372036854775808 ≤ n ∧ n ≤ 9223372036854775807 := wf_in h
theorem nat_of {n m : Int} (h : 0 ≤ n ∧ n ≤ m) : ∃ k : Nat, n = k ∧ k ≤ m.toNat := ⟨n.toNat, by omega, by omega⟩
theorem u8_of {n : Int} (h : (Lit.int .u8 n).wf = true) : ∃ m : Nat, n = m ∧ m ≤ 255 := nat_of (m := 255) (wf_in h)
theorem u16_of {n : Int} (h : (Lit.int .u16 n).wf = true) : ∃ m : Nat, n = m ∧ m ≤ 65535 := nat_of (m := 65535) (wf_in h)
theorem u32_of {n : Int} (h : (Lit.int .u32 n).wf = true) : ∃ m : Nat, n = m ∧ m ≤ 4294967295 := nat_of (m := 4294967295) (wf_in h)
theorem u64_of {n : Int} (h : (Lit.int .u64 n).wf = true) : ∃ m : Nat, n = m ∧ m ≤ 18446744073709551615 := nat_of (m := 18446744073709551615) (wf_in h)

end Go.Proofs.SL

/-
  SL: what a law is handed, as abstract values: structs and arrays of numbers, texts and truths. No claim by itself.
-/
namespace Go.Proofs.SL
open Go Go.RowKit
set_option linter.unusedSimpArgs false
set_option linter.unusedVariables false

section
variable {H : Type} {enc : TypeId × Value → H} {P : Program} {w w' : World} {base : Nat} {sp : Nat → Bool} {held : Bool}

theorem trod_up (hB : Below w.heap.size w w') {t : TypeId} {v : Value} {d : DataW H} {ps : List MemPlace} (h : DataW.Trod enc P w base sp held t v d ps) : DataW.Trod enc P w' base sp held t v d ps := by
  obtain ⟨n, hn⟩ := h
  exact ⟨n, DataW.trod_carry n _ _ _ hn (fun p hp => hB.same (DataW.trod_lt n _ _ _ hn p hp))⟩

/-- A number that its kind holds; a text that is not too long. -/
def wfP : PV → Prop
  | .int k n => k.min ≤ n ∧ n ≤ k.max
  | .str s => s.size ≤ maxLen
  | _ => True

theorem take_split {cs : List Value} {a b : Nat} (h : cs.length = a + b) : cs = cs.take a ++ (cs.drop a).take b := by
  have : (cs.drop a).take b = cs.drop a := List.take_of_length_le (by rw [List.length_drop]; omega)
  rw [this, List.take_append_drop]

theorem trod_flds {g : TypeId → Option (List Tag)} {n : Nat} {cs : List Value} (IH : ∀ t l, g t = some l → l.length = P.cellsOf t → ∀ (cs : List Value) (x : DataW H × List MemPlace), DataW.trod enc P w base sp held n t cs = some x →
    ∃ ps : List PV, cs = ps.map valP ∧ ps.map tagP = l.map some ∧ (∀ p ∈ ps, wfP p) ∧ x.2 = []) :
    ∀ (fs : List Field) (xs : List (DataW H × List MemPlace)) (o : Nat) (l : List Tag), tagsFs P g fs o = some l → xs.length = fs.length →
      (∀ (i : Nat) (f : Field), fs[i]? = some f → DataW.trod enc P w base sp held n f.type ((cs.drop f.offset).take (P.cellsOf f.type)) = xs[i]?) →
      ∃ ps : List PV, (cs.drop o).take l.length = ps.map valP ∧ ps.map tagP = l.map some ∧ (∀ p ∈ ps, wfP p) ∧ xs.flatMap (·.2) = []
  | [], xs, o, l, hl, hxl, hx => by
    simp only [tagsFs, Option.some.injEq] at hl
    subst hl
    have : xs = [] := List.eq_nil_of_length_eq_zero hxl
    subst this
    exact ⟨[], by simp, by simp, by simp, by simp⟩
  | f :: fs, xs, o, l, hl, hxl, hx => by
    simp only [tagsFs] at hl
    split at hl
    · rename_i hf
      split at hl
      · rename_i lf hlf
        split at hl
        · rename_i hn
          split at hl
          · rename_i r hr
            cases hl
            cases xs with
            | nil => simp at hxl
            | cons y xs =>
              have h0 := hx 0 f rfl
              simp only [List.getElem?_cons_zero] at h0
              obtain ⟨qs, q1, q2, q3, q4⟩ := IH _ _ hlf hn _ _ h0
              obtain ⟨ps, p1, p2, p3, p4⟩ := trod_flds IH fs xs (o + lf.length) r hr (by simpa using hxl) (fun i f hf => by simpa using hx (i + 1) f (by simpa using hf))
              refine ⟨qs ++ ps, ?_, ?_, ?_, ?_⟩
              · rw [List.length_append, List.take_add, List.map_append, ← p1, ← q1, List.drop_drop, hf.1, hn]
              · rw [List.map_append, q2, p2, List.map_append]
              · intro p hp
                rcases List.mem_append.mp hp with h | h
                · exact q3 p h
                · exact p3 p h
              · rw [List.flatMap_cons, p4, q4]; rfl
          · cases hl
        · cases hl
      · cases hl
    · cases hl

theorem trod_flat : ∀ (m : Nat) (t : TypeId) (l : List Tag), tagsOf P m t = some l → l.length = P.cellsOf t → ∀ (n : Nat) (cs : List Value) (x : DataW H × List MemPlace), DataW.trod enc P w base sp held n t cs = some x →
    ∃ ps : List PV, cs = ps.map valP ∧ ps.map tagP = l.map some ∧ (∀ p ∈ ps, wfP p) ∧ x.2 = []
  | 0, _, _, h => by simp [tagsOf] at h
  | m + 1, t, l, hl => by
    intro hlt n cs x h
    unfold tagsOf at hl
    cases hu : P.underlying t with
    | none => simp [hu] at hl
    | some u =>
      rw [hu] at hl
      cases u <;> simp only at hl <;> try (cases hl; done)
      case bool =>
        cases hl
        obtain ⟨b, rfl, rfl⟩ := DataW.trod_bool hu h
        exact ⟨[.bool b], rfl, rfl, by simp [wfP], rfl⟩
      case string =>
        cases hl
        obtain ⟨s, rfl, rfl, hs⟩ := DataW.trod_string hu h
        exact ⟨[.str s], rfl, rfl, by simpa [wfP] using hs, rfl⟩
      case int k =>
        cases hl
        obtain ⟨b, rfl, rfl, hw⟩ := DataW.trod_int hu h
        exact ⟨[.int k b], rfl, rfl, by simpa [wfP] using wf_in hw, rfl⟩
      case array k e =>
        split at hl
        · rename_i l' hl'
          split at hl
          · rename_i hn
            cases hl
            obtain ⟨xs, q, rfl, rfl, hlen, hxl, hx⟩ := DataW.trod_array hu h
            have hcell : cs.length = k * P.cellsOf e := by
              rw [hlen, ← hlt, List.length_flatten, List.map_replicate, List.sum_replicate_nat, hn]
            have key : ∀ j, j ≤ k → ∃ ps : List PV, cs.take (j * P.cellsOf e) = ps.map valP ∧ ps.map tagP = (List.replicate j l').flatten.map some ∧ (∀ p ∈ ps, wfP p) ∧ ((xs.take j).flatMap (·.2)) = [] := by
              intro j
              induction j with
              | zero => intro _; exact ⟨[], by simp, by simp, by simp, by simp⟩
              | succ j ih =>
                intro hj
                obtain ⟨ps, p1, p2, p3, p4⟩ := ih (by omega)
                have hxj : xs[j]? = some xs[j] := List.getElem?_eq_getElem (by omega)
                have h1 := hx j (by omega)
                rw [hxj] at h1
                obtain ⟨qs, q1, q2, q3, q4⟩ := trod_flat m e l' hl' hn q _ _ h1
                refine ⟨ps ++ qs, ?_, ?_, ?_, ?_⟩
                · rw [Nat.succ_mul, List.take_add, p1, q1, List.map_append]
                · rw [List.map_append, p2, q2, List.replicate_succ', List.flatten_append, List.map_append]; simp
                · intro p hp
                  rcases List.mem_append.mp hp with h | h
                  · exact p3 p h
                  · exact q3 p h
                · rw [List.take_add_one, hxj, List.flatMap_append, p4]; simpa using q4
            obtain ⟨ps, p1, p2, p3, p4⟩ := key k (Nat.le_refl _)
            refine ⟨ps, ?_, p2, p3, ?_⟩
            · rw [← p1, List.take_of_length_le (by omega)]
            · rw [List.take_of_length_le (by omega)] at p4; exact p4
          · cases hl
        · cases hl
      case struct fs =>
        split at hl
        · obtain ⟨xs, q, rfl, rfl, hlen, hxl, hx⟩ := DataW.trod_struct hu h
          obtain ⟨ps, p1, p2, p3, p4⟩ := trod_flds (cs := cs) (fun t l h1 h2 cs x h3 => trod_flat m t l h1 h2 q cs x h3) fs.toList xs 0 l hl (by simpa using hxl) (fun i f hf => hx i f (by simpa using hf))
          refine ⟨ps, ?_, p2, p3, p4⟩
          rw [← p1, List.drop_zero, List.take_of_length_le (by omega)]
        · cases hl

theorem mapM_same {α β : Type} {f g : α → Option β} : ∀ {l : List α}, (∀ x ∈ l, f x = g x) → l.mapM f = l.mapM g
  | [], _ => rfl
  | a :: l, h => by rw [List.mapM_cons, List.mapM_cons, h a (by simp), mapM_same fun x hx => h x (List.mem_cons_of_mem _ hx)]

theorem tagsFs_mem {g : TypeId → Option (List Tag)} : ∀ {fs : List Field} {o : Nat} {l : List Tag}, tagsFs P g fs o = some l → ∀ f ∈ fs, ∃ lf, g f.type = some lf
  | [], _, _, _ => by simp
  | f :: fs, o, l, hl => by
    simp only [tagsFs] at hl
    split at hl
    · split at hl
      · rename_i lf hlf
        split at hl
        · split at hl
          · rename_i r hr
            intro f' hf'
            rcases List.mem_cons.mp hf' with rfl | h
            · exact ⟨lf, hlf⟩
            · exact tagsFs_mem hr f' h
          · cases hl
        · cases hl
      · cases hl
    · cases hl

/-- What holds numbers, texts and truths alone reads the same in every memory. -/
theorem trod_free (w' : World) (b' : Nat) (sp' : Nat → Bool) : ∀ (m : Nat) (t : TypeId) (l : List Tag), tagsOf P m t = some l → ∀ (n : Nat) (cs : List Value), DataW.trod enc P w base sp held n t cs = DataW.trod enc P w' b' sp' held n t cs
  | 0, _, _, h => by simp [tagsOf] at h
  | m + 1, t, l, hl => by
    intro n cs
    cases n with
    | zero => rfl
    | succ n =>
    unfold tagsOf at hl
    rw [DataW.trod.eq_def, DataW.trod.eq_def]
    simp only
    cases hu : P.underlying t with
    | none => simp [hu] at hl
    | some u =>
      rw [hu] at hl
      cases u <;> simp only at hl <;> try (cases hl; done)
      case array k e =>
        split at hl
        · rename_i l' hl'
          simp only
          rw [mapM_same fun i _ => trod_free w' b' sp' m e l' hl' n _]
        · cases hl
      case struct fs =>
        split at hl
        · simp only
          rw [mapM_same fun f hf => by
            obtain ⟨lf, hlf⟩ := tagsFs_mem hl f hf
            exact trod_free w' b' sp' m f.type lf hlf n _]
        · cases hl
      all_goals (rcases cs with _ | ⟨c, _ | ⟨c2, cs⟩⟩ <;> try rfl) <;> cases c <;> rfl

theorem trod_still (w' : World) {b' : Nat} {sp' : Nat → Bool} {t : TypeId} {v : Value} {d : DataW H} {ps : List MemPlace} (hl : (tagsOf P 12 t).isSome = true) (h : DataW.Trod enc P w base sp held t v d ps) : DataW.Trod enc P w' b' sp' held t v d ps := by
  obtain ⟨n, hn⟩ := h
  obtain ⟨l, hl⟩ := Option.isSome_iff_exists.mp hl
  exact ⟨n, by rw [← hn]; exact (trod_free w' b' sp' 12 t l hl n _).symm⟩

/-- A struct or an array of numbers, texts and truths that a law is handed. -/
theorem open_flat {r : Reach} {b0 : Nat} {t : TypeId} {l : List Tag} {v : Value} {d : DataW H} {ps : List MemPlace} (hl : tagsOf P 12 t = some l) (hn : l.length = P.cellsOf t)
    (hagg : (match P.underlying t with | some (.array _ _) => true | some (.struct _) => true | _ => false) = true) (hval : Value.okWide P w r b0 t v) (h : DataW.Trod enc P w base sp held t v d ps) :
    ∃ (qs : List PV), v = .agg (qs.map valP).toArray ∧ qs.map tagP = l.map some ∧ (∀ p ∈ qs, wfP p) ∧ ps = [] := by
  obtain ⟨n, hn'⟩ := h
  obtain ⟨qs, q1, q2, q3, q4⟩ := trod_flat 12 t l hl hn n _ _ hn'
  refine ⟨qs, ?_, q2, q3, q4⟩
  have : ∃ cs, v = .agg cs := by
    unfold Value.okWide at hval
    split at hagg <;> rename_i hu <;> simp only [hu] at hval
    · cases v <;> first | exact ⟨_, rfl⟩ | simp [Value.okWide] at hval
    · cases v <;> first | exact ⟨_, rfl⟩ | simp [Value.okWide] at hval
    · cases hagg
  obtain ⟨cs, rfl⟩ := this
  have q1 : cs.toList = qs.map valP := q1
  rw [← q1]

theorem V.flat {β : Nat → Option Nat} {H' : Heap} {w2 : World} {qs : List PV} {l : List Tag} (h : qs.map tagP = l.map some) : V β H' w2 (.agg (qs.map valP).toArray) (.agg qs) := by
  refine .agg _ _ (by simp) fun i v p hv hp => ?_
  simp only [List.getElem?_toArray, List.getElem?_map, hp, Option.map_some, Option.some.injEq] at hv
  subst hv
  have ht : ∃ g, tagP p = some g := by
    have h1 := congrArg (·[i]?) h
    simp only [List.getElem?_map, hp, Option.map_some] at h1
    cases hl : l[i]? with
    | none => rw [hl] at h1; cases h1
    | some g => rw [hl] at h1; simp only [Option.map_some, Option.some.injEq] at h1; exact ⟨g, h1⟩
  obtain ⟨g, hg⟩ := ht
  cases p <;> simp only [tagP] at hg <;> first
    | (cases hg; done)
    | exact .bool _
    | exact .int _ _
    | exact .str _

theorem tag_int {p : PV} {k : IntKind} (h : tagP p = some (.i k)) : ∃ n, p = .int k n := by
  cases p <;> simp [tagP] at h
  subst h; exact ⟨_, rfl⟩
theorem tag_str {p : PV} (h : tagP p = some .s) : ∃ n, p = .str n := by
  cases p <;> simp [tagP] at h
  exact ⟨_, rfl⟩
/-- Cells that are all bytes. -/
theorem tag_u8s : ∀ (n : Nat) (qs : List PV), qs.map tagP = (List.replicate n (Tag.i .u8)).map some → (∀ p ∈ qs, wfP p) → ∃ ns : List Nat, qs = ns.map (fun n => PV.int .u8 (n : Nat)) ∧ ns.length = n ∧ ∀ n ∈ ns, n ≤ 255
  | 0, qs, h, _ => ⟨[], by simpa using h, rfl, by simp⟩
  | n + 1, [], h, _ => by simp at h
  | n + 1, q :: qs, h, hw => by
    simp only [List.map_cons, List.replicate_succ, List.cons.injEq] at h
    obtain ⟨m, rfl⟩ := tag_int h.1
    obtain ⟨ns, rfl, h2, h3⟩ := tag_u8s n qs h.2 fun p hp => hw p (List.mem_cons_of_mem _ hp)
    have hb : (0 : Int) ≤ m ∧ m ≤ 255 := hw (.int .u8 m) (by simp)
    exact ⟨m.toNat :: ns, by simp; omega, by simp [h2], by
      intro x hx
      rcases List.mem_cons.mp hx with rfl | hx
      · omega
      · exact h3 x hx⟩
theorem tag_u16s : ∀ (n : Nat) (qs : List PV), qs.map tagP = (List.replicate n (Tag.i .u16)).map some → (∀ p ∈ qs, wfP p) → ∃ ns : List Nat, qs = ns.map (fun n => PV.int .u16 (n : Nat)) ∧ ns.length = n ∧ ∀ n ∈ ns, n ≤ 65535
  | 0, qs, h, _ => ⟨[], by simpa using h, rfl, by simp⟩
  | n + 1, [], h, _ => by simp at h
  | n + 1, q :: qs, h, hw => by
    simp only [List.map_cons, List.replicate_succ, List.cons.injEq] at h
    obtain ⟨m, rfl⟩ := tag_int h.1
    obtain ⟨ns, rfl, h2, h3⟩ := tag_u16s n qs h.2 fun p hp => hw p (List.mem_cons_of_mem _ hp)
    have hb : (0 : Int) ≤ m ∧ m ≤ 65535 := hw (.int .u16 m) (by simp)
    exact ⟨m.toNat :: ns, by simp; omega, by simp [h2], by
      intro x hx
      rcases List.mem_cons.mp hx with rfl | hx
      · omega
      · exact h3 x hx⟩

theorem cells_nil {qs : List PV} (h : qs.map tagP = ([] : List Tag).map some) : qs = [] := by simpa using h
theorem cells_cons {g : Tag} {l : List Tag} {qs : List PV} (h : qs.map tagP = (g :: l).map some) (hw : ∀ p ∈ qs, wfP p) :
    ∃ q qs', qs = q :: qs' ∧ tagP q = some g ∧ wfP q ∧ qs'.map tagP = l.map some ∧ ∀ p ∈ qs', wfP p := by
  cases qs with
  | nil => simp at h
  | cons q qs =>
    simp only [List.map_cons, List.cons.injEq] at h
    exact ⟨q, qs, rfl, h.1, hw q (by simp), h.2, fun p hp => hw p (List.mem_cons_of_mem _ hp)⟩
theorem cell_nat {q : PV} {k : IntKind} (m : Int) (h0 : k.min = 0) (hm : k.max = m) (h : tagP q = some (.i k)) (w : wfP q) : ∃ n : Nat, q = .int k n ∧ n ≤ m.toNat := by
  obtain ⟨z, rfl⟩ := tag_int h
  have w : k.min ≤ z ∧ z ≤ k.max := w
  rw [h0, hm] at w
  exact ⟨z.toNat, by rw [show ((z.toNat : Nat) : Int) = z by omega], by omega⟩
theorem cell_u8 {q : PV} (h : tagP q = some (.i .u8)) (w : wfP q) : ∃ n : Nat, q = .int .u8 n ∧ n ≤ 255 := cell_nat 255 rfl rfl h w
theorem cell_u16 {q : PV} (h : tagP q = some (.i .u16)) (w : wfP q) : ∃ n : Nat, q = .int .u16 n ∧ n ≤ 65535 := cell_nat 65535 rfl rfl h w
theorem cell_u32 {q : PV} (h : tagP q = some (.i .u32)) (w : wfP q) : ∃ n : Nat, q = .int .u32 n ∧ n ≤ 4294967295 := cell_nat 4294967295 rfl rfl h w
theorem cell_u64 {q : PV} (h : tagP q = some (.i .u64)) (w : wfP q) : ∃ n : Nat, q = .int .u64 n ∧ n ≤ 18446744073709551615 := cell_nat 18446744073709551615 rfl rfl h w
/-- A run of bytes among the cells. -/
theorem cells_u8s (n : Nat) {l : List Tag} {qs : List PV} (h : qs.map tagP = (List.replicate n (Tag.i .u8) ++ l).map some) (hw : ∀ p ∈ qs, wfP p) :
    ∃ (ns : List Nat) (qs' : List PV), qs = ns.map (fun n => PV.int .u8 (n : Nat)) ++ qs' ∧ ns.length = n ∧ (∀ n ∈ ns, n ≤ 255) ∧ qs'.map tagP = l.map some ∧ ∀ p ∈ qs', wfP p := by
  have hlen : n ≤ qs.length := by
    have := congrArg List.length h
    simp at this; omega
  have h1 : (qs.take n).map tagP = (List.replicate n (Tag.i .u8)).map some := by
    rw [List.map_take, h, List.map_append, List.take_append_of_le_length (by simp), List.take_of_length_le (by simp)]
  have h2 : (qs.drop n).map tagP = l.map some := by
    rw [List.map_drop, h, List.map_append, List.drop_append, List.drop_eq_nil_of_le (by simp)]
    simp
  obtain ⟨ns, e, e2, e3⟩ := tag_u8s n (qs.take n) h1 fun p hp => hw p (List.mem_of_mem_take hp)
  exact ⟨ns, qs.drop n, by rw [← e, List.take_append_drop], e2, e3, h2, fun p hp => hw p (List.mem_of_mem_drop hp)⟩
theorem cells_u8s_end (n : Nat) {qs : List PV} (h : qs.map tagP = (List.replicate n (Tag.i .u8) ++ []).map some) (hw : ∀ p ∈ qs, wfP p) :
    ∃ (ns : List Nat), qs = ns.map (fun n => PV.int .u8 (n : Nat)) ∧ ns.length = n ∧ (∀ n ∈ ns, n ≤ 255) := by
  obtain ⟨ns, qs', e, e1, e2, h', _⟩ := cells_u8s n h hw
  obtain rfl := cells_nil h'
  exact ⟨ns, by rw [e, List.append_nil], e1, e2⟩
theorem cell_i64 {q : PV} (h : tagP q = some (.i .i64)) (w : wfP q) : ∃ n : Int, q = .int .i64 n ∧ -9223372036854775808 ≤ n ∧ n ≤ 9223372036854775807 := by
  obtain ⟨z, rfl⟩ := tag_int h
  exact ⟨z, rfl, w⟩
theorem cell_i32 {q : PV} (h : tagP q = some (.i .i32)) (w : wfP q) : ∃ n : Int, q = .int .i32 n ∧ -2147483648 ≤ n ∧ n ≤ 2147483647 := by
  obtain ⟨z, rfl⟩ := tag_int h
  exact ⟨z, rfl, w⟩
theorem cell_str {q : PV} (h : tagP q = some .s) (w : wfP q) : ∃ l : List UInt8, q = .str (bs l) ∧ l.length ≤ maxLen := by
  obtain ⟨z, rfl⟩ := tag_str h
  obtain ⟨l, rfl⟩ := bs_of z
  exact ⟨l, rfl, by have : (bs l).size ≤ maxLen := w; simpa [bs, ByteArray.size] using this⟩
theorem cell_bool {q : PV} (h : tagP q = some .b) (w : wfP q) : ∃ n : Bool, q = .bool n := by
  cases q <;> simp [tagP] at h
  exact ⟨_, rfl⟩
end
end Go.Proofs.SL

/-
  SL: from a contract to what a row with listed variables asks for. No claim by itself.
-/
namespace Go.Proofs.SL
open Go Go.RowKit
set_option linter.unusedVariables false

def globs (G : List (Nat × Obj)) : Heap := G.map fun x => some (.glob x.1 x.2)
def gmap (G : List (Nat × Obj)) : Nat → Option Nat := fun i => (G[i]?).map (·.1)

theorem globs_get {G : List (Nat × Obj)} {i : Nat} {o : OB} (h : (globs G)[i]? = some (some o)) : ∃ x, G[i]? = some x ∧ o = .glob x.1 x.2 := by
  simp only [globs, List.getElem?_map, Option.map_eq_some_iff] at h
  obtain ⟨x, hx, he⟩ := h
  exact ⟨x, hx, by cases he; rfl⟩

theorem globs_inv {G : List (Nat × Obj)} {w : World} (hn : (G.map (·.1)).Nodup) (hw : ∀ x ∈ G, w.heap[x.1]? = some x.2) (hc : ∀ x ∈ G, ∃ c t fz, x.2 = .cells c t fz) : Inv (gmap G) (globs G) w where
  ok := fun i o ho => by
    obtain ⟨x, hx, rfl⟩ := globs_get ho
    exact ⟨by simp [gmap, hx], hw x (List.mem_of_getElem? hx), hc x (List.mem_of_getElem? hx)⟩
  inj := fun i j b hi hj h1 h2 => by
    have e1 : (G.map (·.1))[i]? = some b := by simpa [gmap] using h1
    have e2 : (G.map (·.1))[j]? = some b := by simpa [gmap] using h2
    have hi' : i < (G.map (·.1)).length := by
      rcases Nat.lt_or_ge i (G.map (·.1)).length with h | h
      · exact h
      · rw [List.getElem?_eq_none h] at e1; cases e1
    exact (List.getElem?_inj hi' hn).mp (by rw [e1, e2])

theorem HasG.globs {G : List (Nat × Obj)} {x : Nat × Obj} (h : x ∈ G) : HasG (globs G) x.1 x.2 := by
  obtain ⟨i, hi, rfl⟩ := List.getElem_of_mem h
  exact ⟨i, by simp [SL.globs, hi]⟩

/-- A law that gives true where variables hold what they hold: its call returns true, and all that was there stays. -/
theorem law_walk_g {P : Program} {f : FuncId} {args : List PV} {G : List (Nat × Obj)} {vs : Array Value} {w : World} (hn : (G.map (·.1)).Nodup) (hw : ∀ x ∈ G, w.heap[x.1]? = some x.2) (hc : ∀ x ∈ G, ∃ c t fz, x.2 = .cells c t fz)
    (h : SCall P f args (globs G) fun r' H' => r' = .bool true ∧ H' = globs G) (hs : vs.size = args.length)
    (hv : ∀ (i : Nat) (v : Value) (p : PV), vs[i]? = some v → args[i]? = some p → V (gmap G) (globs G) w v p) :
    Calls P f vs w fun e w' => e = .returned (.bool true) ∧ Below w.heap.size w w' := by
  have hI := globs_inv hn hw hc
  refine (h.2 (gmap G) w vs hI hs hv).mono ?_
  rintro e w' ⟨v, r, β', H', rfl, h1, h2, h3, rfl, rfl⟩
  rw [h3.bool_inv]
  refine ⟨rfl, h2.os, h2.tape, h2.output, h2.size, fun k hk => ?_⟩
  by_cases hg : ∃ i, Alive (globs G) i ∧ gmap G i = some k
  · obtain ⟨i, ⟨o, ho⟩, hb⟩ := hg
    obtain ⟨x, hx, rfl⟩ := globs_get ho
    have hxk : x.1 = k := by simpa [gmap, hx] using hb
    have e1 := hw x (List.mem_of_getElem? hx)
    have e2 := (h1.ok i _ ho).2.1
    rw [← hxk, e1, e2]
  · exact (h2.imm k ⟨hk, fun i hi hb => hg ⟨i, hi.alive, hb⟩⟩).1

/-- What a table's variable is, by its type. -/
def tabOk (P : Program) (g : Nat) (k : IntKind) : Bool :=
  match (P.globals[g]?).map (·.type) with
  | some t => match P.underlying t with
    | some (.array n e) => (match P.underlying e with | some (.int k') => decide (k' = k) | _ => false) && decide (P.cellsOf e = 1) && decide (P.cellsOf t = n)
    | _ => false
  | none => false

/-- A listed table, wherever it stands on the list: its variable's block. -/
theorem tab_block {P : Program} {W : World} {laid : List (String × DataW Unit)} {name : String} {k : IntKind} {zs : List Int} {g : Nat}
    (hf : laid.filter (fun x => x.1 == name) = [(name, Lib.tabData k zs)])
    (hg : P.globalNamed name = some g) (hok : tabOk P g k = true)
    (h : laidMet P laid W) : ∃ t' fz, W.heap[g]? = some (.cells (zs.map fun z => Value.int k z).toArray t' fz) := by
  have h1 := laidMet.filter (fun x => x.1 == name) h
  rw [hf] at h1
  unfold tabOk at hok
  split at hok
  · rename_i t hty
    split at hok
    · rename_i n e ht
      simp only [Bool.and_eq_true, decide_eq_true_eq] at hok
      obtain ⟨⟨hk, hce⟩, hct⟩ := hok
      split at hk
      · rename_i k' he
        simp only [decide_eq_true_eq] at hk
        subst hk
        have h2 := Lib.tabIs_of_head hg hty ht he hce hct h1
        unfold Lib.TabIs World.var? at h2
        rw [hg] at h2
        simp only [Option.bind_some] at h2
        split at h2
        · rename_i cs t' fz hc
          cases h2
          exact ⟨t', fz, hc⟩
        · cases h2
      · cases hk
    · cases hok
  · cases hok

/-- A number's variable holds some number of its kind. -/
theorem shaped_int {P : Program} {w : World} {g : Nat} {t : TypeId} {zero : Array Value} {k : IntKind} (h : w.ShapedOpen P) (hg : g < P.globals.size)
    (h0 : ((begin P (fun _ _ => 0) default).world.heap[g]?).bind Obj.row? = some (zero, t)) (hz : zero.size = 1)
    (hb : P.buildable t = true) (hc : P.cellTypes P.depth t = some [t]) (hu : P.underlying t = some (.int k)) : ∃ m t' fz, w.heap[g]? = some (.cells #[.int k m] t' fz) := by
  obtain ⟨m, hm⟩ := cell_of_shapedOpen_int h hg h0 hz hb hc hu
  obtain ⟨cs, hh, hs, _⟩ := h.1 g zero t hg h0
  have h1 : cs.size = 1 := by omega
  have h2 : cs[0]? = some (.int k m) := by
    simp only [World.cell?, hh] at hm
    simpa using hm
  have h3 : cs = #[.int k m] := by
    apply Array.ext
    · simpa using h1
    · intro i hi hi2
      have : i = 0 := by omega
      subst this
      rw [Array.getElem?_eq_getElem (by omega)] at h2
      simpa using h2
  subst h3
  exact ⟨m, _, _, hh⟩

/-- The wrap for a row with listed variables, the world's shape kept. -/
theorem returns_shaped {H : Type} {enc : TypeId × Value → H} {a : Assume} {C : Checked} {os : Os} {f : FuncId} {fn : Func} {s : ChangeSpec} {conds : List PathCond} {apart fresh handsOn again : Bool} {X : World → Array Value → Prop}
    (hX : ∀ (w w' : World) (args : Array Value), w.heap = w'.heap → X w args → X w' args)
    (own : ownKnob C.prog.godebug = none) (started : os.Started) (noInit : C.prog.inits.idxOf? f = none) (hfn : C.prog.funcs[f]? = some fn)
    (witness : ∃ (w : World) (tape : Tape) (i : Input), w.os = os ∧ (w.forCall tape i).Shaped C.prog ∧ i.vars = [] ∧ Input.okWide C.prog (w.forCall tape i) .any w.heap.size f i ∧
      ((s.pre enc C.prog fn conds apart (w.forCall tape i).memory i.args ∧ X (w.forCall tape i).memory i.args) ∧ sizedMet enc C.prog fn (OpenSpec.ofChange s) apart (w.forCall tape i).memory i.args) ∧ a.holds C.prog (lone (Frame.enter C.prog f i.args .normal) [] (w.forCall tape i)))
    (contract : ∀ (W : World) (base : Nat) (args : Array Value) (ds gs : List (DataW H)) (before : List MemPlace),
      (∀ (j : Nat) t v, fn.params[j]? = some t → args[j]? = some v → Value.okWide C.prog W .any base t v) →
      DataW.Whole enc C.prog fn.params.toList s.vars apart W args.toList ds gs before →
      X W args → W.ShapedOpen C.prog →
      Calls C.prog f args W fun e W' => ∃ v, e = .returned v ∧ s.post enc C.prog fn apart fresh handsOn again W args v W') :
    ReturnsInHanded a C os f .any (fun w args => (s.pre enc C.prog fn conds apart w args ∧ X w args) ∧ sizedMet enc C.prog fn (OpenSpec.ofChange s) apart w args) (s.post enc C.prog fn apart fresh handsOn again) := by
  refine returnsInHanded_of_calls own started noInit witness ?_
  intro w tape i _ hsh _ hok hpre hholds
  obtain ⟨_, _, _, fn', hfn', _, _, _, _, hval⟩ := hok
  have e : fn' = fn := Option.some.inj (hfn'.symm.trans hfn)
  subst e
  obtain ⟨⟨⟨ds, gs, before, hw, hc⟩, hx⟩, hz⟩ := hpre
  have hw' := DataW.Whole.of_heap (w' := w.forCall tape i) (by rfl) hw
  refine (contract (w.forCall tape i) w.heap.size i.args ds gs before hval hw' (hX _ _ _ (by rfl) hx) hsh).mono fun e W' ⟨v, he, hp⟩ => ?_
  subst he
  exact ChangeSpec.post_blind hp
end Go.Proofs.SL
