/-
  SL: operations that hang on their operands alone are sound. No claim by itself.
-/
import Derived.Test.YtdgikagnkbphoaaDoorSlEval
import Derived.ChangeKeysEq
namespace Go.Proofs.SL
open Go
set_option linter.unusedSimpArgs false
set_option linter.unusedVariables false

def kOk : TypeDesc → TK → Prop
  | .int k, .int k' => k = k'
  | .bool, .bool => True
  | .string, .str => True
  | .pointer e, .ptr e' => e = e'
  | .slice e, .slice e' => e = e'
  | .array n e, .arr n' e' => n = n' ∧ e = e'
  | .struct fs, .struct l => l = fs.toList.map fun f => (f.offset, f.type)
  | .map a b, .map c d => a = c ∧ b = d
  | .interface _, .iface => True
  | .func _ _ _, .func => True
  | _, .other => True
  | _, _ => False

def aggOf : TypeDesc → Bool
  | .struct _ | .array _ _ => true
  | _ => false

def ifaceOf : TypeDesc → Bool
  | .interface _ => true
  | _ => false

structure TdOk (P : Program) (t : Nat) (d : TD) : Prop where
  und : ∃ u, P.underlying t = some u ∧ kOk u d.k ∧ d.agg = aggOf u ∧ (d.k = .other → ifaceOf u = false)
  info : ∃ i z, P.info? t = some i ∧ i.size = d.size ∧ i.bytes = d.bytes ∧ i.zero = some z ∧ d.zero = ofValue z ∧ z.cells.size = d.size
  tags : ∀ l, d.tags = some l → P.eqGuardType P.depth t = false ∧ tagsOf P 12 t = some l

def TOk (P : Program) (T : Nat → Option TD) : Prop := ∀ t d, T t = some d → TdOk P t d

section inv
variable {β : Nat → Option Nat} {H : Heap} {w : World} {v : Value}
theorem V.bool_inv {b : Bool} (h : V β H w v (.bool b)) : v = .bool b := by cases h; rfl
theorem V.int_inv {k : IntKind} {n : Int} (h : V β H w v (.int k n)) : v = .int k n := by cases h; rfl
theorem V.str_inv {s : ByteArray} (h : V β H w v (.str s)) : v = .string s := by cases h; rfl
theorem V.agg_inv {ps : List PV} (h : V β H w v (.agg ps)) : ∃ vs : Array Value, v = .agg vs ∧ vs.size = ps.length ∧ ∀ (i : Nat) (x : Value) (p : PV), vs[i]? = some x → ps[i]? = some p → V β H w x p := by
  cases h with | agg vs _ hs h => exact ⟨vs, rfl, hs, h⟩
theorem V.tup_inv {ps : List PV} (h : V β H w v (.tup ps)) : ∃ vs : Array Value, v = .tuple vs ∧ vs.size = ps.length ∧ ∀ (i : Nat) (x : Value) (p : PV), vs[i]? = some x → ps[i]? = some p → V β H w x p := by
  cases h with | tup vs _ hs h => exact ⟨vs, rfl, hs, h⟩
theorem V.nils_inv (h : V β H w v .nils) : v = .slice none 0 0 := by cases h; rfl
theorem V.empt_inv (h : V β H w v .empt) : ∃ a, v = .slice a 0 0 := by cases h; exact ⟨_, rfl⟩
theorem V.nilp_inv (h : V β H w v .nilp) : v = .pointer none := by cases h; rfl
theorem V.nilf_inv (h : V β H w v .nilf) : v = .nilFunc := by cases h; rfl
theorem V.nili_inv (h : V β H w v .nili) : v = .nilIface := by cases h; rfl
theorem V.func_inv {fn : Fn} {ps qs : List PV} (h : V β H w v (.func fn ps qs)) : ∃ vs ws : Array Value, v = .func fn vs ws ∧ vs.size = ps.length ∧ ws.size = qs.length ∧
    (∀ (i : Nat) (x : Value) (p : PV), vs[i]? = some x → ps[i]? = some p → V β H w x p) ∧ (∀ (i : Nat) (x : Value) (p : PV), ws[i]? = some x → qs[i]? = some p → V β H w x p) := by
  cases h with | func _ vs ws _ _ hs hs' h h' => exact ⟨vs, ws, rfl, hs, hs', h, h'⟩
theorem V.sl_inv {m : Nat} {xs : List PV} (h : V β H w v (.sl m xs)) : ∃ a cap, v = .slice a xs.length cap ∧ xs.length ≤ cap ∧ (xs ≠ [] → ∃ b off, a = some ⟨b, off, none⟩ ∧ Imm β H w b ∧ (∀ x ∈ xs, x.cells.length = m) ∧
    ∃ f : Nat → Value, (∀ k, k < (flat xs).length → w.cell? ⟨b, off + k, none⟩ = some (f k)) ∧ (∀ (k : Nat) (p : PV), (flat xs)[k]? = some p → V β H w (f k) p) ∧ ∀ k, k < (flat xs).length → (f k).oneCell' = true) := by
  cases h with
  | sl0 a c => exact ⟨a, c, rfl, Nat.zero_le _, fun h => absurd rfl h⟩
  | sl b off cap _ _ f hb hm hc h1 h2 h3 => exact ⟨_, cap, rfl, hc, fun _ => ⟨b, off, rfl, hb, hm, f, h1, h2, h3⟩⟩
end inv

theorem V.ofScalar (β : Nat → Option Nat) (H : Heap) (w : World) (v : Value) : V β H w v (SL.ofScalar v) := by
  unfold SL.ofScalar
  split <;> constructor

theorem V.ofValue (β : Nat → Option Nat) (H : Heap) (w : World) (v : Value) : V β H w v (SL.ofValue v) := by
  unfold SL.ofValue
  split
  · rename_i cs
    refine .agg _ _ (by simp) fun i x p hx hp => ?_
    simp only [List.getElem?_map, Array.getElem?_toList, hx, Option.map_some, Option.some.injEq] at hp
    subst hp
    exact V.ofScalar ..
  · exact V.ofScalar ..

/-- The frame's temporaries are what the environment says. -/
structure FR (β : Nat → Option Nat) (H : Heap) (w : World) (a : Act) (σ : Env) : Prop where
  size : a.tmps.size = σ.length
  v : ∀ t p, σ[t]? = some p → V β H w (a.tmps.getD t undef) p
  defers : a.defers = []

theorem FR.mono {β β' : Nat → Option Nat} {H H' : Heap} {w w' : World} {a : Act} {σ : Env} (e : Ext β H w β' H' w') (h : FR β H w a σ) : FR β' H' w' a σ :=
  ⟨h.size, fun t p hp => (h.v t p hp).mono e, h.defers⟩

theorem FR.opn {β : Nat → Option Nat} {H : Heap} {w : World} {a : Act} {σ : Env} (h : FR β H w a σ) (x : Operand) : V β H w (a.eval x) (SL.opn σ x) := by
  cases x with
  | tmp t =>
    simp only [SL.opn, Act.eval]
    cases hp : σ[t]? with
    | none => simp only [List.getD, hp, Option.getD_none]; exact .any _
    | some p => simp only [List.getD, hp, Option.getD_some]; exact h.v t p hp
  | const v => exact V.ofValue ..
  | global g => exact .any _
  | func f => exact .func _ _ _ _ _ rfl rfl (by simp) (by simp)

theorem FR.put {β : Nat → Option Nat} {H : Heap} {w : World} {a : Act} {σ : Env} (h : FR β H w a σ) (d : Option Tmp) {v : Value} {p : PV} (hv : V β H w v p) :
    FR β H w (a.put d v) (upd σ d p) := by
  cases d with
  | none => exact h
  | some t =>
    refine ⟨by simp [Act.put, upd, h.size], fun t' p' hp => ?_, h.defers⟩
    simp only [upd] at hp
    by_cases e : t = t'
    · subst e
      have hlt : t < σ.length := by
        rcases Nat.lt_or_ge t σ.length with h | h
        · exact h
        · rw [List.getElem?_eq_none (by simp; omega)] at hp; cases hp
      rw [List.getElem?_set_self hlt] at hp
      cases hp
      simp [Act.put, h.size, hlt]
      exact hv
    · rw [List.getElem?_set_ne e] at hp
      have := h.v t' p' hp
      simpa [Act.put, Array.getElem?_setIfInBounds_ne e, Array.getD_eq_getD_getElem?] using this

section ops
variable {P : Program} {T : Nat → Option TD} {β : Nat → Option Nat} {H : Heap} {w : World}

theorem intBin_ok (op : BinOp) (t : Nat) (k : IntKind) (a b : Int) (yk : IntKind) (hk : op ≠ .shl → op ≠ .shr → k = yk) {c : Bool} {v : PV} (h : intBin op k a b = (c, v)) (hc : c = true) :
    ∃ x, (∀ w2, (Go.binOp op t (.int k a) (.int yk b)).run P w2 = .ok x w2) ∧ V β H w x v := by
  cases op <;> simp only [intBin, Prod.mk.injEq] at h <;> obtain ⟨rfl, rfl⟩ := h
  case shl => exact ⟨_, fun w2 => by simp only [Go.binOp, Op.shift]; rw [if_neg (by simpa using hc)]; rfl, .int ..⟩
  case shr => exact ⟨_, fun w2 => by simp only [Go.binOp, Op.shift]; rw [if_neg (by simpa using hc)]; rfl, .int ..⟩
  all_goals (obtain rfl := hk (by simp) (by simp))
  case quo => exact ⟨_, fun w2 => by simp only [Go.binOp, Op.intDiv, ne_eq, not_true_eq_false, if_false]; rw [if_neg (by simpa using hc)]; rfl, .int ..⟩
  case rem => exact ⟨_, fun w2 => by simp only [Go.binOp, Op.intDiv, ne_eq, not_true_eq_false, if_false]; rw [if_neg (by simpa using hc)]; rfl, .int ..⟩
  case eql => exact ⟨_, fun w2 => by simp only [Go.binOp, Op.intCmp, ne_eq, not_true_eq_false, if_false]; rfl, by rw [show (a == b) = decide (a = b) from rfl]; exact .bool _⟩
  case neq => exact ⟨_, fun w2 => by simp only [Go.binOp, Op.intCmp, ne_eq, not_true_eq_false, if_false]; rfl, by rw [show (a != b) = !decide (a = b) from rfl]; exact .bool _⟩
  all_goals exact ⟨_, fun w2 => by simp only [Go.binOp, Op.intArith, Op.intBits, Op.intCmp, ne_eq, not_true_eq_false, if_false]; rfl, by first | exact .int .. | exact .bool _⟩

theorem toList_beq (a b : ByteArray) : (a.toList == b.toList) = decide (a = b) := by
  have key : a.toList = b.toList ↔ a = b := by
    constructor
    · intro h
      have : a.data = b.data := by
        have e1 : a.toList = a.data.toList := by simp [ByteArray.toList_eq]
        have e2 : b.toList = b.data.toList := by simp [ByteArray.toList_eq]
        rw [e1, e2] at h
        exact Array.toList_inj.mp h
      cases a; cases b; simpa using this
    · rintro rfl; rfl
  by_cases h : a = b
  · subst h; simp
  · have h' : ¬ a.toList = b.toList := fun e => h (key.mp e)
    simp [h, h']

theorem strBin_ok (op : BinOp) (t : Nat) (a b : ByteArray) {c : Bool} {v : PV} (h : strBin op a b = (c, v)) (hc : c = true) :
    ∃ x, (∀ w2, (Go.binOp op t (.string a) (.string b)).run P w2 = .ok x w2) ∧ V β H w x v := by
  cases op <;> simp only [strBin, Prod.mk.injEq] at h <;> obtain ⟨rfl, rfl⟩ := h
  case add =>
    refine ⟨_, fun w2 => by
      simp only [Go.binOp, Op.stringOp]
      rw [if_neg (by
        have := of_decide_eq_true hc
        simp only [IntKind.max, IntKind.signed, IntKind.bits]
        omega)]
      rfl, .str _⟩
  all_goals first
    | (cases hc; done)
    | exact ⟨_, fun w2 => by simp only [Go.binOp, Op.stringOp]; rfl, by simp only [slt, toList_beq]; exact .bool _⟩

theorem run_equal {t : Nat} {d : TD} (hT : TdOk P t d) {x y : Value} {p q : PV} (hx : V β H w x p) (hy : V β H w y q) {c : Bool} {v : PV} (h : eqBin d.k p q = (c, v)) (hc : c = true) :
    ∃ b, (∀ w2, (Op.equal t x y).run P w2 = .ok b w2) ∧ v = .bool b := by
  obtain ⟨u, hu, hk, _, _⟩ := hT.und
  have hund := run_underlying hu
  obtain ⟨dd, hd⟩ : ∃ dd, Op.maxDepth = dd + 1 := ⟨9999, rfl⟩
  subst hc
  unfold eqBin at h
  split at h
  · rename_i a b hk'
    simp only [Prod.mk.injEq, true_and] at h
    subst h
    obtain rfl := hx.bool_inv
    obtain rfl := hy.bool_inv
    rw [hk'] at hk
    cases u <;> simp only [kOk] at hk
    exact ⟨_, fun w2 => by unfold Op.equal; rw [hd]; simp only [Op.equalIn, Sem.run_bind, hund, Result.andThen_ok]; rfl, rfl⟩
  · rename_i e hk'
    simp only [Prod.mk.injEq, true_and] at h
    subst h
    obtain rfl := hx.nils_inv
    obtain rfl := hy.nils_inv
    rw [hk'] at hk
    cases u <;> simp only [kOk] at hk
    exact ⟨_, fun w2 => by unfold Op.equal; rw [hd]; simp only [Op.equalIn, Sem.run_bind, hund, Result.andThen_ok]; rfl, rfl⟩
  · rename_i e m xs hk'
    simp only [Prod.mk.injEq] at h
    obtain ⟨hc, rfl⟩ := h
    obtain rfl := hx.nils_inv
    obtain ⟨a, cap, rfl, _, hsl⟩ := hy.sl_inv
    have hne : xs ≠ [] := by rintro rfl; simp at hc
    obtain ⟨b, off, rfl, _⟩ := hsl hne
    rw [hk'] at hk
    cases u <;> simp only [kOk] at hk
    exact ⟨_, fun w2 => by unfold Op.equal; rw [hd]; simp only [Op.equalIn, Sem.run_bind, hund, Result.andThen_ok]; rfl, rfl⟩
  · rename_i e m xs hk'
    simp only [Prod.mk.injEq] at h
    obtain ⟨hc, rfl⟩ := h
    obtain rfl := hy.nils_inv
    obtain ⟨a, cap, rfl, _, hsl⟩ := hx.sl_inv
    have hne : xs ≠ [] := by rintro rfl; simp at hc
    obtain ⟨b, off, rfl, _⟩ := hsl hne
    rw [hk'] at hk
    cases u <;> simp only [kOk] at hk
    exact ⟨_, fun w2 => by unfold Op.equal; rw [hd]; simp only [Op.equalIn, Sem.run_bind, hund, Result.andThen_ok]; rfl, rfl⟩
  · rename_i hk'
    simp only [Prod.mk.injEq, true_and] at h
    subst h
    obtain rfl := hx.nilf_inv
    obtain rfl := hy.nilf_inv
    rw [hk'] at hk
    cases u <;> simp only [kOk] at hk
    exact ⟨_, fun w2 => by unfold Op.equal; rw [hd]; simp only [Op.equalIn, Sem.run_bind, hund, Result.andThen_ok]; rfl, rfl⟩
  · rename_i hk'
    simp only [Prod.mk.injEq, true_and] at h
    subst h
    obtain ⟨vs, ws, rfl, _⟩ := hx.func_inv
    obtain rfl := hy.nilf_inv
    rw [hk'] at hk
    cases u <;> simp only [kOk] at hk
    exact ⟨_, fun w2 => by unfold Op.equal; rw [hd]; simp only [Op.equalIn, Sem.run_bind, hund, Result.andThen_ok]; rfl, rfl⟩
  · rename_i hk'
    simp only [Prod.mk.injEq, true_and] at h
    subst h
    obtain rfl := hx.nilf_inv
    obtain ⟨vs, ws, rfl, _⟩ := hy.func_inv
    rw [hk'] at hk
    cases u <;> simp only [kOk] at hk
    exact ⟨_, fun w2 => by unfold Op.equal; rw [hd]; simp only [Op.equalIn, Sem.run_bind, hund, Result.andThen_ok]; rfl, rfl⟩
  · rename_i e hk'
    simp only [Prod.mk.injEq, true_and] at h
    subst h
    obtain rfl := hx.nilp_inv
    obtain rfl := hy.nilp_inv
    rw [hk'] at hk
    cases u <;> simp only [kOk] at hk
    exact ⟨_, fun w2 => by unfold Op.equal; rw [hd]; simp only [Op.equalIn, Sem.run_bind, hund, Result.andThen_ok]; rfl, rfl⟩
  · rename_i e i ver off hk'
    simp only [Prod.mk.injEq, true_and] at h
    subst h
    obtain rfl := hx.nilp_inv
    obtain ⟨b, rfl⟩ : ∃ b, y = .pointer (some ⟨b, off, none⟩) := by cases hy; exact ⟨_, rfl⟩
    rw [hk'] at hk
    cases u <;> simp only [kOk] at hk
    exact ⟨_, fun w2 => by unfold Op.equal; rw [hd]; simp only [Op.equalIn, Sem.run_bind, hund, Result.andThen_ok]; rfl, rfl⟩
  · rename_i e i ver off hk'
    simp only [Prod.mk.injEq, true_and] at h
    subst h
    obtain rfl := hy.nilp_inv
    obtain ⟨b, rfl⟩ : ∃ b, x = .pointer (some ⟨b, off, none⟩) := by cases hx; exact ⟨_, rfl⟩
    rw [hk'] at hk
    cases u <;> simp only [kOk] at hk
    exact ⟨_, fun w2 => by unfold Op.equal; rw [hd]; simp only [Op.equalIn, Sem.run_bind, hund, Result.andThen_ok]; rfl, rfl⟩
  · rename_i e e' hk'
    simp only [Prod.mk.injEq, true_and] at h
    subst h
    obtain rfl : x = .map none := by cases hx; rfl
    obtain rfl : y = .map none := by cases hy; rfl
    rw [hk'] at hk
    cases u <;> simp only [kOk] at hk
    exact ⟨_, fun w2 => by unfold Op.equal; rw [hd]; simp only [Op.equalIn, Sem.run_bind, hund, Result.andThen_ok]; rfl, rfl⟩
  · rename_i e e' i hk'
    simp only [Prod.mk.injEq, true_and] at h
    subst h
    obtain rfl : x = .map none := by cases hx; rfl
    obtain ⟨b, rfl⟩ : ∃ b, y = .map (some b) := by cases hy; exact ⟨_, rfl⟩
    rw [hk'] at hk
    cases u <;> simp only [kOk] at hk
    exact ⟨_, fun w2 => by unfold Op.equal; rw [hd]; simp only [Op.equalIn, Sem.run_bind, hund, Result.andThen_ok]; rfl, rfl⟩
  · rename_i e e' i hk'
    simp only [Prod.mk.injEq, true_and] at h
    subst h
    obtain rfl : y = .map none := by cases hy; rfl
    obtain ⟨b, rfl⟩ : ∃ b, x = .map (some b) := by cases hx; exact ⟨_, rfl⟩
    rw [hk'] at hk
    cases u <;> simp only [kOk] at hk
    exact ⟨_, fun w2 => by unfold Op.equal; rw [hd]; simp only [Op.equalIn, Sem.run_bind, hund, Result.andThen_ok]; rfl, rfl⟩
  · simp [no] at h

/-- The value that a scalar is. -/
def valP : PV → Value
  | .bool b => .bool b
  | .int k n => .int k n
  | .str s => .string s
  | _ => undef

theorem V.val {v : Value} {p : PV} {g : Tag} (h : V β H w v p) (ht : tagP p = some g) : v = valP p ∧ tagV v = some g := by
  cases h <;> simp only [tagP] at ht <;> first
    | (cases ht; done)
    | exact ⟨rfl, by simpa [tagV] using ht⟩

theorem vals_tags {vs : List Value} {ps : List PV} {l : List Tag} (hs : vs.length = ps.length) (hv : ∀ (i : Nat) (v : Value) (p : PV), vs[i]? = some v → ps[i]? = some p → V β H w v p) (ht : ps.map tagP = l.map some) :
    vs = ps.map valP ∧ vs.map tagV = l.map some := by
  induction ps generalizing vs l with
  | nil =>
    cases vs with
    | nil => cases l with
      | nil => exact ⟨rfl, rfl⟩
      | cons g l => simp at ht
    | cons v vs => simp at hs
  | cons p ps ih =>
    cases vs with
    | nil => simp at hs
    | cons v vs =>
      cases l with
      | nil => simp at ht
      | cons g l =>
        simp only [List.map_cons, List.cons.injEq] at ht
        obtain ⟨h1, h2⟩ := (hv 0 v p rfl rfl).val ht.1
        obtain ⟨h3, h4⟩ := ih (by simpa using hs) (fun i v p h h' => hv (i + 1) v p (by simpa using h) (by simpa using h')) ht.2
        exact ⟨by rw [List.map_cons, ← h1, ← h3], by rw [List.map_cons, List.map_cons, h2, h4]⟩

theorem valP_inj {ps qs : List PV} {l : List Tag} (hp : ps.map tagP = l.map some) (hq : qs.map tagP = l.map some) : ps.map valP = qs.map valP ↔ ps = qs := by
  refine ⟨fun h => ?_, fun h => by rw [h]⟩
  induction ps generalizing qs l with
  | nil => cases qs with
    | nil => rfl
    | cons q qs => simp at h
  | cons p ps ih =>
    cases qs with
    | nil => simp at h
    | cons q qs =>
      cases l with
      | nil => simp at hp
      | cons g l =>
        simp only [List.map_cons, List.cons.injEq] at hp hq h
        rw [ih hp.2 hq.2 h.2]
        congr 1
        have h1 := hp.1
        have h2 := hq.1
        have h3 := h.1
        cases p <;> simp only [tagP] at h1 <;> (try (cases h1; done)) <;> cases q <;> simp only [tagP] at h2 <;> (try (cases h2; done)) <;> simp_all [valP]

theorem run_eqAgg {t : Nat} {d : TD} (hT : TdOk P t d) {x y : Value} {cs ds : List PV} (hx : V β H w x (.agg cs)) (hy : V β H w y (.agg ds)) {c : Bool} {v : PV} (h : eqAgg d cs ds = (c, v)) (hc : c = true) :
    ∃ (vs ws : Array Value) (b : Bool), x = .agg vs ∧ y = .agg ws ∧ P.eqGuardType P.depth t = false ∧ (∀ w2, (Op.equal t x y).run P w2 = .ok b w2) ∧ v = .bool b := by
  unfold eqAgg at h
  split at h
  · rename_i l hl
    simp only [Prod.mk.injEq] at h
    obtain ⟨h1, rfl⟩ := h
    rw [hc] at h1
    simp only [Bool.and_eq_true, decide_eq_true_eq] at h1
    obtain ⟨ha, h2, h3⟩ := h1
    obtain ⟨vs, rfl, s1, v1⟩ := hx.agg_inv
    obtain ⟨ws, rfl, s2, v2⟩ := hy.agg_inv
    obtain ⟨hg, ht⟩ := hT.tags l hl
    obtain ⟨u, hu, _, hua, _⟩ := hT.und
    have sh : ∀ z : Array Value, Shp P t (.agg z) := fun z => by
      unfold Shp
      rw [hu]
      rw [ha] at hua
      cases u <;> simp [aggOf] at hua <;> exact ⟨_, rfl⟩
    obtain ⟨e1, t1⟩ := vals_tags (vs := vs.toList) (ps := cs) (by simpa using s1) (fun i v p h h' => v1 i v p (by simpa using h) h') h2
    obtain ⟨e2, t2⟩ := vals_tags (vs := ws.toList) (ps := ds) (by simpa using s2) (fun i v p h h' => v2 i v p (by simpa using h) h') h3
    have key : ∀ w2, ∃ r : Bool, (Op.equal t (.agg vs) (.agg ws)).run P w2 = .ok r w2 ∧ (r = true ↔ cs = ds) := fun w2 => by
      obtain ⟨r, hr1, hr2⟩ := eq_tag 9988 12 t l ht w2 (.agg vs) (.agg ws) (sh _) (sh _) t1 t2
      refine ⟨r, hr1, hr2.trans ?_⟩
      show vs.toList = ws.toList ↔ _
      rw [e1, e2]
      exact valP_inj h2 h3
    refine ⟨vs, ws, _, rfl, rfl, hg, fun w2 => ?_, rfl⟩
    obtain ⟨r, hr1, hr2⟩ := key w2
    rw [hr1]
    congr 1
    cases r
    · simp only [Bool.false_eq_true, false_iff] at hr2; simp [hr2]
    · simp only [true_iff] at hr2; simp [hr2]
  · simp only [no, Prod.mk.injEq] at h
    rw [← h.1] at hc; cases hc

/-- A value that 'eqBin' takes is no aggregate and no interface. -/
theorem eqBin_plain {k : TK} {p q : PV} {c : Bool} {v : PV} (h : eqBin k p q = (c, v)) (hc : c = true) {x y : Value} (hx : V β H w x p) (hy : V β H w y q) :
    (∀ cs ds, ¬ (x = .agg cs ∧ y = .agg ds)) ∧ ¬ (x = .nilIface ∧ y = .nilIface) ∧ (∀ k a b, ¬ (x = .int k a ∧ ∃ k', y = .int k' b)) := by
  subst hc
  unfold eqBin at h
  split at h <;> first
    | (simp [no] at h; done)
    | (cases hx <;> cases hy <;> (refine ⟨?_, ?_, ?_⟩ <;> simp))

theorem eqGuard_ok (op : BinOp) (t : Nat) (x y : Operand) {a b : Value} (h1 : ∀ cs ds, ¬ (a = .agg cs ∧ b = .agg ds)) (h2 : ¬ (a = .nilIface ∧ b = .nilIface)) :
    ∀ w2, (eqGuard op t x y a b).run P w2 = .ok () w2 := by
  intro w2
  unfold eqGuard
  have key : (match a, b with
      | .nilIface, .nilIface => (if ((match x with | .const _ => true | _ => false) || (match y with | .const _ => true | _ => false)) = true then pure () else do
          if ← Op.eqGuardIn Op.maxDepth t a b then unsupported (.noEntry "binop/eql: two nil values of an interface type with methods, neither of them the literal nil") : Sem Unit)
      | .agg _, .agg _ => do
          if !(← program).eqGuardType (← program).depth t then return
          if ← Op.eqGuardIn Op.maxDepth t a b then unsupported (.noEntry "binop/eql: two nil values of an interface type with methods, in a part of a struct or an array")
      | _, _ => pure ()).run P w2 = .ok () w2 := by
    split
    · exact absurd ⟨rfl, rfl⟩ h2
    · exact absurd ⟨rfl, rfl⟩ (h1 _ _)
    · rfl
  by_cases ho : (!(match op with | .eql | .neq => true | _ => false)) = true
  · cases op <;> first | rfl | simp at ho
  · cases op <;> first | exact key | simp at ho

theorem notB_inv {r : Bool × PV} {c : Bool} {v : PV} (h : notB r = (c, v)) (hc : c = true) : ∃ b, r = (true, .bool b) ∧ v = .bool !b := by
  obtain ⟨rc, rv⟩ := r
  subst hc
  unfold notB at h
  split at h
  · rename_i c' b heq
    cases heq
    simp only [Prod.mk.injEq] at h
    obtain ⟨rfl, rfl⟩ := h
    exact ⟨b, rfl, rfl⟩
  · simp [no] at h

theorem binOp_eql {t : Nat} {x y : Value} (h : ∀ k a b, ¬ (x = .int k a ∧ ∃ k', y = .int k' b)) (h2 : ∀ a b, ¬ (x = .string a ∧ y = .string b))
    (h3 : ∀ k a, x ≠ .float k a) (h4 : ∀ k a b, x ≠ .complex k a b) : Go.binOp .eql t x y = (do pure (.bool (← Op.equal t x y))) ∧ Go.binOp .neq t x y = (do pure (.bool (!(← Op.equal t x y)))) := by
  constructor <;> unfold Go.binOp <;> split <;> first
    | rfl
    | (rename_i e; exact absurd ⟨rfl, _, rfl⟩ (h _ _ _))
    | exact absurd ⟨rfl, rfl⟩ (h2 _ _)
    | exact absurd rfl (h3 _ _)
    | exact absurd rfl (h4 _ _ _)
    | simp_all

theorem eqBin_plain2 {k : TK} {p q : PV} {c : Bool} {v : PV} (h : eqBin k p q = (c, v)) (hc : c = true) {x y : Value} (hx : V β H w x p) (hy : V β H w y q) :
    (∀ a b, ¬ (x = .string a ∧ y = .string b)) ∧ (∀ k a, x ≠ .float k a) ∧ (∀ k a b, x ≠ .complex k a b) := by
  subst hc
  unfold eqBin at h
  split at h <;> first
    | (simp [no] at h; done)
    | (cases hx <;> cases hy <;> (refine ⟨?_, ?_, ?_⟩ <;> simp))

theorem binV_ok (hT : TOk P T) (op : BinOp) (t : Nat) (xo yo : Operand) {x y : Value} {p q : PV} (hx : V β H w x p) (hy : V β H w y q) {c : Bool} {v : PV}
    (h : binV T op t p q = (c, v)) (hc : c = true) :
    ∃ r, (∀ w2, (do eqGuard op t xo yo x y; Go.binOp op t x y : Sem Value).run P w2 = .ok r w2) ∧ V β H w r v := by
  unfold binV at h
  split at h
  · rename_i k a k' b
    obtain rfl := hx.int_inv
    obtain rfl := hy.int_inv
    have key : ∃ r, (∀ w2, (Go.binOp op t (.int k a) (.int k' b)).run P w2 = .ok r w2) ∧ V β H w r v := by
      split at h
      · exact intBin_ok .shl t k a b k' (by simp) h hc
      · exact intBin_ok .shr t k a b k' (by simp) h hc
      · split at h
        · exact intBin_ok op t k a b k' (fun _ _ => by assumption) h hc
        · subst hc; simp [no] at h
    obtain ⟨r, hr, hv⟩ := key
    exact ⟨r, fun w2 => by simp only [Sem.run_bind, eqGuard_ok op t xo yo (a := .int k a) (b := .int k' b) (by simp) (by simp), Result.andThen_ok]; exact hr w2, hv⟩
  · rename_i a b
    obtain rfl := hx.str_inv
    obtain rfl := hy.str_inv
    obtain ⟨r, hr, hv⟩ := strBin_ok (P := P) (β := β) (H := H) (w := w) op t a b h hc
    exact ⟨r, fun w2 => by simp only [Sem.run_bind, eqGuard_ok op t xo yo (a := .string a) (b := .string b) (by simp) (by simp), Result.andThen_ok]; exact hr w2, hv⟩
  · rename_i cs ds
    split at h
    · rename_i d hd
      obtain ⟨vs, ws, b, rfl, rfl, hg, hb, rfl⟩ := run_eqAgg (hT t d hd) hx hy h hc
      refine ⟨_, fun w2 => ?_, .bool b⟩
      simp only [Sem.run_bind, run_eqGuard_agg w2 .eql t xo yo vs ws hg, Result.andThen_ok, (binOp_eql (t := t) (x := .agg vs) (y := .agg ws) (by simp) (by simp) (by simp) (by simp)).1, hb]
      rfl
    · rename_i d hd
      obtain ⟨b', hb', rfl⟩ := notB_inv h hc
      obtain ⟨vs, ws, b, rfl, rfl, hg, hb, e⟩ := run_eqAgg (hT t d hd) hx hy hb' rfl
      cases e
      refine ⟨_, fun w2 => ?_, .bool _⟩
      simp only [Sem.run_bind, run_eqGuard_agg w2 .neq t xo yo vs ws hg, Result.andThen_ok, (binOp_eql (t := t) (x := .agg vs) (y := .agg ws) (by simp) (by simp) (by simp) (by simp)).2, hb]
      rfl
    · subst hc; simp [no] at h
  · split at h
    · rename_i d hd
      obtain ⟨b, hb, rfl⟩ := run_equal (hT t d hd) hx hy h hc
      obtain ⟨h1, h2, h3⟩ := eqBin_plain h hc hx hy
      obtain ⟨h4, h5, h6⟩ := eqBin_plain2 h hc hx hy
      refine ⟨_, fun w2 => ?_, .bool b⟩
      simp only [Sem.run_bind, eqGuard_ok .eql t xo yo h1 h2, Result.andThen_ok, (binOp_eql h3 h4 h5 h6).1, hb]
      rfl
    · rename_i d hd
      obtain ⟨b', hb', rfl⟩ := notB_inv h hc
      obtain ⟨b, hb, e⟩ := run_equal (hT t d hd) hx hy hb' rfl
      cases e
      obtain ⟨h1, h2, h3⟩ := eqBin_plain hb' rfl hx hy
      obtain ⟨h4, h5, h6⟩ := eqBin_plain2 hb' rfl hx hy
      refine ⟨_, fun w2 => ?_, .bool _⟩
      simp only [Sem.run_bind, eqGuard_ok .neq t xo yo h1 h2, Result.andThen_ok, (binOp_eql h3 h4 h5 h6).2, hb]
      rfl
    · subst hc; simp [no] at h

/-- The cells of a value: as many as the abstract one has, and what they are. -/
theorem V.cellsOf {v : Value} {p : PV} (h : V β H w v p) (hp : p ≠ .any) : v.cells.size = p.cells.length ∧ ∀ (i : Nat) (x : Value) (q : PV), v.cells[i]? = some x → p.cells[i]? = some q → V β H w x q := by
  have one : ∀ (v : Value) (p : PV), V β H w v p → v.cells = #[v] → p.cells = [p] → v.cells.size = p.cells.length ∧ ∀ (i : Nat) (x : Value) (q : PV), v.cells[i]? = some x → p.cells[i]? = some q → V β H w x q := by
    intro v p h h1 h2
    rw [h1, h2]
    refine ⟨rfl, fun i x q hx hq => ?_⟩
    cases i with
    | zero => simp at hx hq; subst hx; subst hq; exact h
    | succ i => simp at hx
  cases h with
  | any => exact absurd rfl hp
  | agg vs ps hs h => exact ⟨hs, h⟩
  | ptr b i ver off hi hh => exact one _ _ (.ptr b i ver off hi hh) rfl rfl
  | buf a cap i ver off len m tip hc ha hi hh => exact one _ _ (.buf a cap i ver off len m tip hc ha hi hh) rfl rfl
  | bool b => exact one _ _ (.bool b) rfl rfl
  | int k n => exact one _ _ (.int k n) rfl rfl
  | str s => exact one _ _ (.str s) rfl rfl
  | tup vs ps hs h => exact one _ _ (.tup vs ps hs h) rfl rfl
  | nilp => exact one _ _ .nilp rfl rfl
  | nils => exact one _ _ .nils rfl rfl
  | empt a => exact one _ _ (.empt a) rfl rfl
  | sl0 a c m => exact one _ _ (.sl0 a c m) rfl rfl
  | sl b off cap m xs f hb hm hc h1 h2 h3 => exact one _ _ (.sl b off cap m xs f hb hm hc h1 h2 h3) rfl rfl
  | cptr b off p f hb h1 h2 h3 => exact one _ _ (.cptr b off p f hb h1 h2 h3) rfl rfl
  | func fn vs ws ps qs a b c d => exact one _ _ (.func fn vs ws ps qs a b c d) rfl rfl
  | nilf => exact one _ _ .nilf rfl rfl
  | iface t v p h => exact one _ _ (.iface t v p h) rfl rfl
  | nili => exact one _ _ .nili rfl rfl
  | nilm => exact one _ _ .nilm rfl rfl
  | mp b i hi hh => exact one _ _ (.mp b i hi hh) rfl rfl

theorem V.oneCell {v : Value} {p : PV} (h : V β H w v p) (hp : p.one = true) : v.oneCell' = true := by
  cases h <;> first
    | rfl
    | (simp [PV.one] at hp; done)
    | assumption

theorem run_isAgg {t : Nat} {d : TD} (hT : TdOk P t d) {w : World} : (isAgg t).run P w = .ok d.agg w := by
  obtain ⟨u, hu, _, ha, _⟩ := hT.und
  unfold isAgg
  simp only [Sem.run_bind, run_underlying hu w, Result.andThen_ok, ha]
  cases u <;> rfl

theorem run_sizeOf' {t : Nat} {d : TD} (hT : TdOk P t d) {w : World} : (sizeOf t).run P w = .ok d.size w := by
  obtain ⟨i, z, hi, hs, _⟩ := hT.info
  unfold sizeOf typeInfo
  simp [hi, hs]

theorem run_zeroValue' {t : Nat} {d : TD} (hT : TdOk P t d) : ∃ z, (∀ w2, (zeroValue t).run P w2 = .ok z w2) ∧ V β H w z d.zero := by
  obtain ⟨i, z, hi, _, _, hz, e, _⟩ := hT.info
  refine ⟨z, fun w2 => ?_, e ▸ V.ofValue ..⟩
  unfold zeroValue typeInfo
  simp [hi, hz]

theorem run_partV {t : Nat} {d : TD} (hT : TdOk P t d) {vs : Array Value} {ps : List PV} (hs : vs.size = ps.length)
    (h : ∀ (i : Nat) (v : Value) (p : PV), vs[i]? = some v → ps[i]? = some p → V β H w v p) {off : Nat} {c : Bool} {v : PV} (hp : partV d ps off = (c, v)) (hc : c = true) :
    ∃ x, (∀ w2, (part t vs off).run P w2 = .ok x w2) ∧ V β H w x v := by
  unfold partV at hp
  have hrun : ∀ w2, (part t vs off).run P w2 = ((if d.agg = true then (do pure (.agg (vs.extract off (off + (← sizeOf t)))) : Sem Value) else match vs[off]? with | some v => pure v | none => stuck "part: no such cell").run P w2) := fun w2 => by
    unfold part
    simp only [Sem.run_bind, run_isAgg hT, Result.andThen_ok]
    rfl
  simp only [hrun]
  split at hp
  · rename_i ha
    simp only [Prod.mk.injEq] at hp
    obtain ⟨rfl, rfl⟩ := hp
    have hle : off + d.size ≤ ps.length := of_decide_eq_true hc
    refine ⟨.agg (vs.extract off (off + d.size)), fun w2 => by simp only [ha, if_true, Sem.run_bind, run_sizeOf' hT, Result.andThen_ok]; rfl, .agg _ _ ?_ fun i x q hx hq => ?_⟩
    · simp [subCells, hs]; omega
    · simp only [subCells, List.getElem?_take, List.getElem?_drop] at hq
      split at hq
      · refine h (off + i) x q ?_ hq
        have hlt : i < d.size := by assumption
        rw [Array.getElem?_extract] at hx
        split at hx
        · exact hx
        · cases hx
      · cases hq
  · rename_i ha
    simp only [Prod.mk.injEq] at hp
    obtain ⟨rfl, rfl⟩ := hp
    have hlt : off < ps.length := of_decide_eq_true hc
    obtain ⟨x, hx⟩ : ∃ x, vs[off]? = some x := ⟨vs[off]'(hs ▸ hlt), by simp [hs ▸ hlt]⟩
    refine ⟨x, fun w2 => by simp only [ha, if_false, Bool.false_eq_true, hx]; rfl, h off x _ hx ?_⟩
    simp [List.getElem?_eq_getElem hlt]

end ops
end Go.Proofs.SL
