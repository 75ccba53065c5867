/-
  SL: regions whose order is drawn: one order will do for all. No claim by itself.
-/
import Derived.Test.YtdgikagnkbphoaaDoorSlEff3
import Derived.OrdersHeld
namespace Go.Proofs.SL
open Go
set_option linter.unusedSimpArgs false
set_option linter.unusedVariables false

/-- As 'wpAny', and an operation that is quiet by its number ('q') leaves the heap. -/
def wpAnyM (P : Program) (md : Region.Mode) (ops : Array Oper) (Q : Exit → Act → World → Prop) (q : Nat → Bool) : Nat → Array Bool → Act → World → Prop
  | 0, listed, a, w => Region.ready md ops listed = [] ∧ Q .normal a w
  | fuel + 1, listed, a, w =>
    (Region.ready md ops listed = [] → Q .normal a w) ∧
    ∀ i ∈ Region.ready md ops listed, wpOp P ops Q i (fun a' w' => (q i = true → w'.heap = w.heap) ∧ wpAnyM P md ops Q q fuel (listed.setIfInBounds i true) a' w') a w

section
variable {P : Program} {ops : Array Oper} {Q : Exit → Act → World → Prop} {md : Region.Mode} {q : Nat → Bool}

theorem wpAny_of_m : ∀ (fuel : Nat) (listed : Array Bool) (a : Act) (w : World), wpAnyM P md ops Q q fuel listed a w → wpAny P md ops Q fuel listed a w
  | 0, _, _, _, h => h
  | fuel + 1, _, _, _, h => ⟨h.1, fun i hi => wpOp_mono (fun a' w' h' => wpAny_of_m fuel _ a' w' h'.2) (h.2 i hi)⟩

/-- An operation that may come up now may be taken first. -/
theorem wpAnyM_first {i : Nat} {oi : Oper} {v : Value} (S : World → Prop) (hi : ops[i]? = some oi) (hsel : ∀ (j : Nat) (o : Oper) cs b, ops[j]? = some o → o.op ≠ .select cs b)
    (hQ : ∀ c a w, Q (.panic c) (a.put oi.dst v) w → Q (.panic c) a w) (hS : ∀ w w' : World, S w → w'.heap = w.heap → S w') :
    ∀ (fuel : Nat) (listed : Array Bool) (a : Act) (w : World),
      (∀ j oj, ops[j]? = some oj → j ≠ i → listed.getD j true = false → (∀ e ∈ oj.after, Region.binds md e = true → e.on ≠ i) → oi.apart ops oj = true ∧ (q j = true ∨ ∀ w, S w)) →
      i ∈ Region.ready md ops listed → YieldsIf P ops S oi v a → S w →
      wpAnyM P md ops Q q fuel (listed.setIfInBounds i true) (a.put oi.dst v) w → wpAnyM P md ops Q q (fuel + 1) listed a w := by
  intro fuel
  induction fuel with
  | zero =>
    intro listed a w _ hr hy hSw Hh
    refine ⟨fun h => (by rw [h] at hr; cases hr), fun j hj => ?_⟩
    by_cases hji : j = i
    · subst hji; exact hy.wpOp hi hSw ⟨fun _ => rfl, Hh⟩
    · have := ready_mono hj hji
      rw [Hh.1] at this
      cases this
  | succ fuel ih =>
    intro listed a w hfree hr hy hSw Hh
    refine ⟨fun h => (by rw [h] at hr; cases hr), fun j hj => ?_⟩
    by_cases hji : j = i
    · subst hji; exact hy.wpOp hi hSw ⟨fun _ => rfl, Hh⟩
    · have h1 := Hh.2 j (ready_mono hj hji)
      obtain ⟨hjun, oj, hoj, hall⟩ := mem_ready.1 hj
      have hnot : ∀ e ∈ oj.after, Region.binds md e = true → e.on ≠ i := fun e he hb heq => by
        have h1 := hall e he hb
        have h0 := (mem_ready.1 hr).1
        rw [heq] at h1
        rcases Nat.lt_or_ge i listed.size with h' | h'
        · simp [h'] at h0 h1; rw [h0] at h1; cases h1
        · simp [Array.getElem?_eq_none h'] at h1
      obtain ⟨hap, hq⟩ := hfree j oj hoj hji hjun hnot
      have h2 := wpOp_putIf hoj hap (fun cs b => hsel i oi cs b hi) (fun cs b => hsel j oj cs b hoj) hQ hy h1
      have hfree' : ∀ k ok, ops[k]? = some ok → k ≠ i → (listed.setIfInBounds j true).getD k true = false →
          (∀ e ∈ ok.after, Region.binds md e = true → e.on ≠ i) → oi.apart ops ok = true ∧ (q k = true ∨ ∀ w, S w) := fun k ok hk hki hun hno => by
        refine hfree k ok hk hki ?_ hno
        by_cases hjk : j = k
        · subst hjk; exact hjun
        · rw [getD_set_ne true hjk] at hun; exact hun
      refine wpOp_mono (fun a' w' h3 => ⟨h3.2.1, ih (listed.setIfInBounds j true) a' w' hfree' (ready_mono hr (Ne.symm hji)) h3.1 ?_ ?_⟩) h2
      · rcases hq with hq | hq
        · exact hS w w' hSw (h3.2.1 hq)
        · exact hq w'
      · rw [Array.setIfInBounds_comm _ _ hji]
        exact h3.2.2

theorem wpAnyM_done {listed : Array Bool} {a : Act} {w : World} (hr : Region.ready md ops listed = []) (h : Q .normal a w) : ∀ fuel, wpAnyM P md ops Q q fuel listed a w
  | 0 => ⟨hr, h⟩
  | _ + 1 => ⟨fun _ => h, by rw [hr]; simp⟩

theorem wpAnyM_forced {i : Nat} {fuel : Nat} {listed : Array Bool} {a : Act} {w : World} (hr : Region.ready md ops listed = [i])
    (h : wpOp P ops Q i (fun a' w' => (q i = true → w'.heap = w.heap) ∧ wpAnyM P md ops Q q fuel (listed.setIfInBounds i true) a' w') a w) : wpAnyM P md ops Q q (fuel + 1) listed a w :=
  ⟨fun h0 => (by rw [hr] at h0; cases h0), fun j hj => by rw [hr] at hj; obtain rfl := List.mem_singleton.mp hj; exact h⟩
end

/-- Operations that hang on their operands alone, whatever these are. -/
def blindOp (T : Nat → Option TD) : Op → Bool
  | .move _ | .assign _ | .pick .. | .binOp .. | .unOp .. | .index .. | .extract .. | .field .. | .fieldAddr .. | .indexAddr .. | .build .. | .makeFunc .. | .makeInterface .. | .nilCheck _ | .sliceToArrayPointer .. => true
  | .convert s d _ => match T s, T d with
    | some s, some d => match d.k with
      | .int _ => true
      | .slice _ => false
      | .str => match s.k with
        | .slice _ => false
        | _ => true
      | _ => true
    | _, _ => true
  | .slice t .. => match T t with
    | none => true
    | some d => match d.k with
      | .arr _ _ => false
      | .ptr _ => false
      | _ => true
  | .call c => match c.callee with
    | .builtin .len => true
    | .builtin .min => true
    | .builtin .max => true
    | _ => false
  | _ => false

def readsOp (T : Nat → Option TD) : Op → Bool
  | .load .. => true
  | .slice t .. => !blindOp T (.slice t (.tmp 0) none none none)
  | _ => false

theorem blind_pure {T : Nat → Option TD} {op : Op} (h : blindOp T op = true) (g : Operand → PV) : ∃ r, pureOp T g op = some r := by
  cases op <;> simp only [blindOp] at h <;> simp only [pureOp] <;> first
    | exact ⟨_, rfl⟩
    | (cases h; done)
    | skip
  case convert s d x =>
    cases hs : T s with
    | none => exact ⟨_, rfl⟩
    | some ds =>
      cases hd : T d with
      | none => exact ⟨_, rfl⟩
      | some dd =>
        simp only [hs, hd] at h
        simp only
        cases hk : dd.k with
        | int k => unfold convV; split <;> first | exact ⟨_, rfl⟩ | simp_all
        | slice e => simp [hk] at h
        | str =>
          simp only [hk] at h
          unfold convV
          cases hks : ds.k with
          | slice e => simp [hks] at h
          | _ => split <;> first | exact ⟨_, rfl⟩ | simp_all
        | _ => unfold convV; split <;> first | exact ⟨_, rfl⟩ | simp_all
  case slice t x lo hi mx =>
    cases hT : T t with
    | none => exact ⟨_, rfl⟩
    | some d => cases hk : d.k <;> first | exact ⟨_, by simp only [hk]; rfl⟩ | simp [hT, hk] at h
  case call c =>
    split at h
    · rename_i e; simp only [e]; exact ⟨_, rfl⟩
    · rename_i e; simp only [e]; exact ⟨_, rfl⟩
    · rename_i e; simp only [e]; exact ⟨_, rfl⟩
    · cases h

theorem reads_read {T : Nat → Option TD} {op : Op} (h : readsOp T op = true) (g : Operand → PV) (H : Heap) : pureOp T g op = none ∧ ∃ r, readOp T g H op = some r := by
  cases op <;> simp only [readsOp] at h <;> try (cases h; done)
  case load t a => exact ⟨rfl, _, rfl⟩
  case slice t x lo hi mx =>
    cases hT : T t with
    | none => simp [blindOp, hT] at h
    | some d =>
      cases hk : d.k with
      | arr n e =>
        refine ⟨by simp only [pureOp, hT, hk], ?_⟩
        cases mx with
        | some m => exact ⟨_, by simp only [readOp, hT]; rfl⟩
        | none => cases hE : T e <;> exact ⟨_, by simp only [readOp, hT, hk, hE]; rfl⟩
      | ptr a =>
        refine ⟨by simp only [pureOp, hT, hk], ?_⟩
        cases mx with
        | some m => exact ⟨_, by simp only [readOp, hT]; rfl⟩
        | none =>
          cases hA : T a with
          | none => exact ⟨_, by simp only [readOp, hT, hk, hA]; rfl⟩
          | some da =>
            cases hka : da.k with
            | arr n e => cases hE : T e <;> exact ⟨_, by simp only [readOp, hT, hk, hA, hka, hE]; rfl⟩
            | _ => exact ⟨_, by simp only [readOp, hT, hk, hA, hka]; rfl⟩
      | _ => simp [blindOp, hT, hk] at h

end Go.Proofs.SL
