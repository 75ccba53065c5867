/-
  SL: the table of types, out of the program. No claim by itself.
-/
import Derived.Test.YtmgemdgbffmnjaaSlM3
import Derived.Attr
import Derived.IntWalk
import Derived.Laws.RangeAny
import Derived.Laws.RangeString
namespace Go.Proofs.SL
open Go
set_option linter.unusedSimpArgs false
set_option linter.unusedVariables false

def tkOf : TypeDesc → TK
  | .int k => .int k
  | .bool => .bool
  | .string => .str
  | .pointer e => .ptr e
  | .slice e => .slice e
  | .array n e => .arr n e
  | .struct fs => .struct (fs.toList.map fun f => (f.offset, f.type))
  | .map a b => .map a b
  | .interface _ => .iface
  | .func _ _ _ => .func
  | _ => .other

theorem tkOf_ok (u : TypeDesc) : kOk u (tkOf u) ∧ (tkOf u = .other → ifaceOf u = false) := by
  cases u <;> simp [tkOf, kOk, ifaceOf]

def tdOf (P : Program) (t : Nat) : Option TD :=
  match P.underlying t, P.info? t with
  | some u, some i => match i.zero with
    | some z => if z.cells.size = i.size then some ⟨tkOf u, i.size, aggOf u, i.bytes, ofValue z, if P.eqGuardType P.depth t = false then tagsOf P 12 t else none⟩ else none
    | none => none
  | _, _ => none

theorem tdOf_ok (P : Program) : TOk P (tdOf P) := by
  intro t d h
  unfold tdOf at h
  split at h
  · rename_i u i hu hi
    split at h
    · rename_i z hz
      split at h
      · rename_i hs
        cases h
        exact ⟨⟨u, hu, (tkOf_ok u).1, rfl, (tkOf_ok u).2⟩, ⟨i, z, hi, rfl, rfl, hz, rfl, hs⟩, fun l hl => by
        simp only at hl
        split at hl
        · rename_i hg; exact ⟨hg, hl⟩
        · cases hl⟩
      · cases h
    · cases h
  · cases h

/-- A function that gives this value, and leaves the heap. -/
def PCall (P : Program) (f : FuncId) (args : List PV) (r : PV) : Prop := ∀ H, SCall P f args H fun r' H' => r' = r ∧ H' = H

theorem PCall.go {P : Program} {T : Nat → Option TD} {ord : Nat → List Nat} {H0 : Heap} {Φ : AEx → Env → Heap → Prop} {f : FuncId} {args : List PV} {r : PV} (h : PCall P f args r) {its : List It} {dst : Option Nat} {σ : Env} {H : Heap}
    (k : Runs P T ord H0 its (upd σ dst r) H Φ) : SCall P f args H fun r' H' => Runs P T ord H0 its (upd σ dst r') H' Φ :=
  (h H).mono fun r' H' ⟨h1, h2⟩ => by subst h1; subst h2; exact k

section
variable {P : Program} {T : Nat → Option TD} {ord : Nat → List Nat} {H0 : Heap} {Φ : AEx → Env → Heap → Prop}

/-- The end of a function that has left the heap as it was. -/
theorem Ends.same {rs : List Nat} {Q : PV → Heap → Prop} {σ : Env} {H : Heap} {x : AEx} (hx : x = .normal ∨ x = .ret) (h : Q (retV σ rs) H) : Ends H0 rs Q x σ H :=
  ⟨by rcases hx with rfl | rfl <;> trivial, σ, H, Ghost.refl, h⟩

/-- The end of a function that has made objects that nothing knows of any more. -/
theorem Ends.drop {rs : List Nat} {Q : PV → Heap → Prop} {σ : Env} {L : Heap} {x : AEx} (hx : x = .normal ∨ x = .ret) (hb : HB H0.length H0) (hr : ∀ t ∈ rs, Bdd H0.length (σ.getD t .any))
    (h : Q (retV σ rs) H0) : Ends H0 rs Q x σ (H0 ++ L) := by
  refine ⟨by rcases hx with rfl | rfl <;> trivial, σ.mapIdx fun i p => if i ∈ rs then p else .any, H0, Ghost.trim hb (Nat.le_refl _) (by simp) fun i p hp => ?_, ?_⟩
  · simp only [List.getElem?_mapIdx] at hp
    cases hi : σ[i]? with
    | none => rw [hi] at hp; cases hp
    | some q =>
      rw [hi] at hp
      simp only [Option.map_some, Option.some.injEq] at hp
      by_cases hm : i ∈ rs
      · rw [if_pos hm] at hp
        subst hp
        refine .inr ⟨rfl, ?_⟩
        have := hr i hm
        simpa [List.getD_eq_getElem?_getD, hi] using this
      · rw [if_neg hm] at hp; exact .inl hp.symm
  · have e : ∀ t, t ∈ rs → (σ.mapIdx fun i p => if i ∈ rs then p else PV.any).getD t .any = σ.getD t .any := fun t ht => by
      simp only [List.getD_eq_getElem?_getD, List.getElem?_mapIdx]
      cases hi : σ[t]? with
      | none => rfl
      | some q => simp [ht]
    have : retV (σ.mapIdx fun i p => if i ∈ rs then p else PV.any) rs = retV σ rs := by
      unfold retV
      split
      · exact e _ (by simp)
      · exact congrArg PV.tup (List.map_congr_left fun t ht => e t ht)
    rw [this]
    exact h

/-- Slots kept, and forgotten; all behind the mask are forgotten. -/
def keepB : List Bool → Env → Env
  | true :: m, p :: σ => p :: keepB m σ
  | false :: m, _ :: σ => .any :: keepB m σ
  | [], _ :: σ => .any :: keepB [] σ
  | _, [] => []

theorem keepB_len : ∀ (m : List Bool) (σ : Env), (keepB m σ).length = σ.length
  | [], [] => rfl
  | _ :: _, [] => by simp [keepB]
  | [], p :: σ => by simp [keepB, keepB_len [] σ]
  | true :: m, p :: σ => by simp [keepB, keepB_len m σ]
  | false :: m, p :: σ => by simp [keepB, keepB_len m σ]

theorem keepB_get : ∀ (m : List Bool) (σ : Env) (i : Nat) (p : PV), (keepB m σ)[i]? = some p → p = .any ∨ σ[i]? = some p
  | [], [], i, p, h => .inr h
  | _ :: _, [], i, p, h => by simp [keepB] at h
  | [], q :: σ, 0, p, h => .inl (by simpa [keepB] using h.symm)
  | [], q :: σ, i + 1, p, h => keepB_get [] σ i p (by simpa [keepB] using h)
  | true :: m, q :: σ, 0, p, h => .inr h
  | false :: m, q :: σ, 0, p, h => .inl (by simpa [keepB] using h.symm)
  | true :: m, q :: σ, i + 1, p, h => keepB_get m σ i p (by simpa [keepB] using h)
  | false :: m, q :: σ, i + 1, p, h => keepB_get m σ i p (by simpa [keepB] using h)

theorem keepB_keepB : ∀ (m : List Bool) (σ : Env), keepB m (keepB m σ) = keepB m σ
  | [], [] => rfl
  | _ :: _, [] => by simp [keepB]
  | [], p :: σ => by simp [keepB, keepB_keepB [] σ]
  | true :: m, p :: σ => by simp [keepB, keepB_keepB m σ]
  | false :: m, p :: σ => by simp [keepB, keepB_keepB m σ]

theorem Ghost.keep (m : List Bool) {σ : Env} {H : Heap} : Ghost H0 σ H (keepB m σ) H := Ghost.weak (keepB_len m σ) (keepB_get m σ)

/-- Some slots are kept; the last objects are dropped. -/
theorem Ghost.cut (m : List Bool) {σ : Env} {K L : Heap} (hK : HB K.length K) (hl : H0.length ≤ K.length) (hb : ∀ p ∈ keepB m σ, Bdd K.length p) : Ghost H0 σ (K ++ L) (keepB m σ) K :=
  Ghost.trim hK hl (keepB_len m σ) fun i p hp => (keepB_get m σ i p hp).elim .inl fun h => .inr ⟨h, hb p (List.mem_of_getElem? hp)⟩

/-- What one round of a loop is to show, where the state is told by 'a'. -/
def RndA (P : Program) (T : Nat → Option TD) (ord : Nat → List Nat) (H0 : Heap) (Φ : AEx → Env → Heap → Prop) (its : List It) {α : Type} (inv : α → Prop) (meas : α → Nat) (mask : List Bool) (env : α → Env) (hp : α → Heap) (n : Nat) : AEx → Env → Heap → Prop
  | .normal, σ, H => ∃ b, inv b ∧ meas b < n ∧ ∃ σ' H', Ghost H0 σ H σ' H' ∧ keepB mask σ' = env b ∧ H' = hp b
  | .exit id, σ, H => match toBlk id its with
    | some k => Runs P T ord H0 k σ H Φ
    | none => Φ (.exit id) σ H
  | .ret, σ, H => Φ .ret σ H

theorem runs_loopA {α : Type} (inv : α → Prop) (meas : α → Nat) (mask : List Bool) (env : α → Env) (hp : α → Heap) {c : Code} {its : List It} (hc : its.all calmB = true) (a : α) {σ : Env} {H : Heap} (h0 : inv a) (hσ : keepB mask σ = env a) (hH : H = hp a)
    (step : ∀ b, inv b → Runs P T ord H0 [.code c] (env b) (hp b) (RndA P T ord H0 Φ its inv meas mask env hp (meas b))) : Runs P T ord H0 (.loop c :: its) σ H Φ := by
  refine Runs.ghost (σ' := keepB mask σ) (H' := H) (by simpa [calmB] using hc) (Ghost.keep mask) ?_
  refine runs_loop hc (fun n σ H => ∃ b, inv b ∧ meas b = n ∧ σ = env b ∧ H = hp b) (fun n σ H hI => ?_) (n := meas a) ⟨a, h0, rfl, hσ, hH⟩
  obtain ⟨b, hb, rfl, rfl, rfl⟩ := hI
  have h := step b hb
  intro hok
  have h1 : Run P (inR ord) H0 [.code c] (env b) (hp b) (RndA P T ord H0 Φ its inv meas mask env hp (meas b)) := h hok
  refine h1.mono1 fun x σ2 H2 h2 => ?_
  cases x with
  | normal =>
    obtain ⟨b', i1, i2, σ3, H3, g, i3, i4⟩ := h2
    exact ⟨meas b', i2, keepB mask σ3, H3, g.trans (Ghost.keep mask), b', i1, rfl, i3, i4⟩
  | exit id => exact h2
  | ret => exact h2

/-- What a piece of code is to show, behind which a new proof begins: with the slots that the mask keeps. -/
def Mid (P : Program) (T : Nat → Option TD) (ord : Nat → List Nat) (H0 : Heap) (Φ : AEx → Env → Heap → Prop) (k : List It) (mask : List Bool) (mid : Env → Heap → Prop) : AEx → Env → Heap → Prop
  | .normal, σ, H => ∃ σ' H', Ghost H0 σ H σ' H' ∧ mid (keepB mask σ') H'
  | .exit id, σ, H => match toBlk id k with
    | some k' => Runs P T ord H0 k' σ H Φ
    | none => Φ (.exit id) σ H
  | .ret, σ, H => Φ .ret σ H

theorem runs_cut (mask : List Bool) (mid : Env → Heap → Prop) {c : Code} {k : List It} (hk : k.all calmB = true) {σ : Env} {H : Heap} (h1 : Runs P T ord H0 [.code c] σ H (Mid P T ord H0 Φ k mask mid))
    (h2 : ∀ σ H, mid σ H → Runs P T ord H0 k σ H Φ) : Runs P T ord H0 (.code c :: k) σ H Φ := by
  have hcalm := calm_of hk
  intro hok
  have hc : codeOk T ord c = true := hok.1 (.code c) (by simp)
  have hkk : ItsOk T ord k := ⟨fun x hx => hok.1 x (List.mem_cons_of_mem _ hx), fun x hx => hcalm x (List.mem_of_mem_tail hx)⟩
  intro β0 w0 β w a hI hE hF r hro
  show c.wpIn (wideR r) 0 P (kontL P r (Fin Φ β0 H0 w0) k) a w
  have h1' : c.wpIn (wideR r) 0 P (Fin (Mid P T ord H0 Φ k mask mid) β0 H0 w0) a w := h1 ⟨fun it hit => (by simp only [List.mem_singleton] at hit; subst hit; exact hc), by simp⟩ β0 w0 β w a hI hE hF r hro
  refine wpIn_mono h1' fun e a' w' he => ?_
  obtain ⟨x, σ2, H2, β2, hx, k1, k2, k3, k4⟩ := he
  cases e <;> cases x <;> simp only [exOk] at hx
  · obtain ⟨σ3, H3, g, hm⟩ := k4
    obtain ⟨β3, g1, g2, g3⟩ := (g.trans (Ghost.keep mask)) β0 w0 β2 w' a' k1 k2 k3
    exact runs_calm hcalm hkk (h2 _ _ hm) β0 w0 β3 w' a' g1 g2 g3 r hro
  · subst hx
    rename_i id
    refine (kont_exit id k a' w').mpr ?_
    simp only [Mid] at k4
    split at k4
    · rename_i k' hk'
      simp only [hk']
      have hs := toBlk_sub k k' hk'
      exact runs_calm (fun x hx => hcalm x (hs x hx)) ⟨fun x hx => hok.1 x (List.mem_cons_of_mem _ (hs x hx)), fun x hx => hcalm x (hs x (List.mem_of_mem_tail hx))⟩ k4 β0 w0 β2 w' a' k1 k2 k3 r hro
    · rename_i hk'
      simp only [hk']
      exact ⟨.exit id, σ2, H2, β2, rfl, k1, k2, k3, k4⟩
  · exact kont_ret k a' w' ⟨.ret, σ2, H2, β2, trivial, k1, k2, k3, k4⟩

theorem mid_to {k : List It} {mask : List Bool} {mid : Env → Heap → Prop} {σ : Env} {H : Heap} (h : mid (keepB mask σ) H) : Mid P T ord H0 Φ k mask mid .normal σ H := ⟨σ, H, Ghost.refl, h⟩

theorem rnd_next {α : Type} {inv : α → Prop} {meas : α → Nat} {mask : List Bool} {env : α → Env} {hp : α → Heap} {n : Nat} {its : List It} {σ : Env} {H : Heap} (b : α) (h1 : inv b) (h2 : meas b < n) (h3 : keepB mask σ = env b) (h4 : H = hp b) :
    RndA P T ord H0 Φ its inv meas mask env hp n .normal σ H := ⟨b, h1, h2, σ, H, Ghost.refl, h3, h4⟩

/-- A round's end, the last objects dropped. -/
theorem rnd_drop {α : Type} {inv : α → Prop} {meas : α → Nat} {mask : List Bool} {env : α → Env} {hp : α → Heap} {n : Nat} {its : List It} {σ : Env} {K L : Heap} (b : α) (h1 : inv b) (h2 : meas b < n) (h3 : keepB mask σ = env b) (h4 : K = hp b)
    (hK : HB K.length K) (hl : H0.length ≤ K.length) (hb : ∀ p ∈ env b, Bdd K.length p) : RndA P T ord H0 Φ its inv meas mask env hp n .normal σ (K ++ L) := by
  refine ⟨b, h1, h2, keepB mask σ, K, Ghost.cut mask hK hl (by rw [h3]; exact hb), ?_, h4⟩
  rw [keepB_keepB]; exact h3
end

end Go.Proofs.SL

/-
  SL: the evaluator's definitions as rules for simp. No claim by itself.
-/
namespace Go.Proofs.SL
open Go
set_option linter.unusedSimpArgs false

attribute [go_sem] aop pureOp readOp effOp opn ofValue ofScalar binV intBin strBin eqBin notB no partV lim elemAddr unV pickV convV indexV extractV fieldOf fieldV fieldAddrV makeIfaceV
  zeroLit sliceV lenV minV maxV nilCheckV loadV arrSliceV toStrV newSlice storeV storeE boxE elemTy buildSliceE bytesE rangeE nextE appendable appendE callE upd toBlk guardOf PV.cells PV.one
  mapTy makeMapE lookE putE delE isKeyP isKeyT ptrEq mapLen lenM entriesO nilBuf eqPtrV ptrSame entryV
  buildV fillV chunk subCells eqAgg tagP copyE clearE makeSliceE arrayAtV isSet idxs slots retV idx elemsOf isU8 bytesOf slt keepB

section
variable {P : Program} {T : Nat → Option TD} {ord : Nat → List Nat} {H0 : Heap} {Φ : AEx → Env → Heap → Prop}
@[go_sem] theorem mid_exit {k : List It} {mask : List Bool} {mid : Env → Heap → Prop} {id : Nat} {σ : Env} {H : Heap} :
    Mid P T ord H0 Φ k mask mid (.exit id) σ H ↔ match toBlk id k with
    | some k' => Runs P T ord H0 k' σ H Φ
    | none => Φ (.exit id) σ H := Iff.rfl
@[go_sem] theorem mid_ret {k : List It} {mask : List Bool} {mid : Env → Heap → Prop} {σ : Env} {H : Heap} : Mid P T ord H0 Φ k mask mid .ret σ H ↔ Φ .ret σ H := Iff.rfl
@[go_sem] theorem rnd_exit {α : Type} {inv : α → Prop} {meas : α → Nat} {mask : List Bool} {env : α → Env} {hp : α → Heap} {n : Nat} {its : List It} {id : Nat} {σ : Env} {H : Heap} :
    RndA P T ord H0 Φ its inv meas mask env hp n (.exit id) σ H ↔ match toBlk id its with
    | some k => Runs P T ord H0 k σ H Φ
    | none => Φ (.exit id) σ H := Iff.rfl
@[go_sem] theorem rnd_ret {α : Type} {inv : α → Prop} {meas : α → Nat} {mask : List Bool} {env : α → Env} {hp : α → Heap} {n : Nat} {its : List It} {σ : Env} {H : Heap} :
    RndA P T ord H0 Φ its inv meas mask env hp n .ret σ H ↔ Φ .ret σ H := Iff.rfl
@[go_sem] theorem esem_need {b : Bool} {e : Ev} : ESem P T ord H0 Φ (.need b e) ↔ b = true ∧ ESem P T ord H0 Φ e := Iff.rfl
@[go_sem] theorem esem_call {f : Nat} {args : List PV} {dst : Option Nat} {its : List It} {σ : Env} {H : Heap} : ESem P T ord H0 Φ (.call f args dst its σ H) ↔ SCall P f args H fun r H' => Runs P T ord H0 its (upd σ dst r) H' Φ := Iff.rfl
@[go_sem] theorem esem_ycall {i : Nat} {args : List PV} {dst : Option Nat} {its : List It} {σ : Env} {H : Heap} : ESem P T ord H0 Φ (.ycall i args dst its σ H) ↔ YCall P i args H fun r H' => Runs P T ord H0 its (upd σ dst r) H' Φ := Iff.rfl
@[go_sem] theorem esem_callq {f : Nat} {args : List PV} {dst : Option Nat} {its : List It} {σ : Env} {H : Heap} : ESem P T ord H0 Φ (.callq f args dst its σ H) ↔ ∃ r, SCall P f args H (fun r' H' => r' = r ∧ H' = H) ∧ Runs P T ord H0 its (upd σ dst r) H Φ := Iff.rfl
@[go_sem] theorem esem_callqs {f : Nat} {args : List PV} {dst : Option Nat} {its : List It} {σ : Env} {H : Heap} : ESem P T ord H0 Φ (.callqs f args dst its σ H) ↔ ∃ r, (∀ L, SCall P f args (H ++ L) (fun r' H' => r' = r ∧ H' = H ++ L)) ∧ Runs P T ord H0 its (upd σ dst r) H Φ := Iff.rfl
@[go_sem] theorem esem_loop {c : Code} {its : List It} {σ : Env} {H : Heap} : ESem P T ord H0 Φ (.loop c its σ H) ↔ Runs P T ord H0 (.loop c :: its) σ H Φ := Iff.rfl
@[go_sem] theorem esem_done {x : AEx} {σ : Env} {H : Heap} : ESem P T ord H0 Φ (.done x σ H) ↔ Φ x σ H := Iff.rfl
@[go_sem] theorem esem_more {its : List It} {σ : Env} {H : Heap} : ESem P T ord H0 Φ (.more its σ H) ↔ Runs P T ord H0 its σ H Φ := Iff.rfl
@[go_sem] theorem esem_draw {Q : PV → Heap → Prop} {dst : Option Nat} {its : List It} {σ : Env} : ESem P T ord H0 Φ (.draw Q dst its σ) ↔ ∀ v H', Q v H' → Runs P T ord H0 its (upd σ dst v) H' Φ := Iff.rfl
@[go_sem] theorem esem_stuck : ESem P T ord H0 Φ .stuck ↔ False := Iff.rfl
@[go_sem] theorem esem_ite {c : Prop} [Decidable c] {a b : Ev} : ESem P T ord H0 Φ (if c then a else b) ↔ (c → ESem P T ord H0 Φ a) ∧ (¬ c → ESem P T ord H0 Φ b) := by
  by_cases h : c <;> simp [h]
end

attribute [go_sem] Int.reduceLE Int.reduceLT Int.reduceEq Int.reduceNe Int.reduceAdd Int.reduceSub Int.reduceMul Int.reduceToNat Nat.reducePow Int.reducePow Nat.reduceDiv Nat.reduceMod Int.reduceDiv Int.reduceMod Nat.reduceAdd Nat.reduceSub Nat.reduceMul Nat.reduceLT Nat.reduceLeDiff Nat.reduceEqDiff List.set_cons_zero List.set_cons_succ List.getD_cons_zero List.getD_cons_succ List.getElem?_cons_zero List.getElem?_cons_succ List.set_nil
  List.map_cons List.map_nil List.length_cons List.length_nil List.replicate_succ List.replicate_zero List.nil_append List.cons_append List.append_nil
  Option.map_some Option.map_none Option.getD_some Option.getD_none Option.bind_some Option.bind_none Option.isNone_some Option.isNone_none
  Int.toNat_natCast Bool.false_eq_true Bool.true_eq_false not_false_eq_true not_true_eq_false false_implies forall_const decide_eq_true_eq Bool.not_eq_true' decide_eq_false_iff_not Bool.and_eq_true implies_true Classical.not_not
  beq_self_eq_true Nat.reduceBEq Bool.or_true Bool.true_or Bool.or_false Bool.false_or eq_self ne_eq Bool.and_true Bool.true_and Bool.not_false Bool.not_true decide_true decide_false true_and and_true if_true if_false ite_true ite_false
  List.getElem?_toArray List.getElem?_nil Option.isSome_some Option.isSome_none

@[go_sem] theorem cast0 : ((0 : Nat) : Int) = 0 := rfl
@[go_sem] theorem cast1 : ((1 : Nat) : Int) = 1 := rfl
@[go_sem] theorem cast_nn {k : Nat} : (0 ≤ (k : Int)) ↔ True := ⟨fun _ => trivial, fun _ => by omega⟩
@[go_sem] theorem cast_neg {k : Nat} : ((k : Int) < 0) ↔ False := ⟨fun h => by omega, fun h => h.elim⟩
@[go_sem] theorem cast_p1 {k : Nat} : ((0 : Int) < ((k + 1 : Nat) : Int)) ↔ True := ⟨fun _ => trivial, fun _ => by omega⟩
@[go_sem] theorem cast_p2 {k : Nat} : ((1 : Int) < ((k + 1 + 1 : Nat) : Int)) ↔ True := ⟨fun _ => trivial, fun _ => by omega⟩
@[go_sem] theorem cast_p3 {k : Nat} : ((1 : Int) ≤ ((k + 1 : Nat) : Int)) ↔ True := ⟨fun _ => trivial, fun _ => by omega⟩
@[go_sem] theorem cast_p4 {k : Nat} : ((2 : Int) ≤ ((k + 1 + 1 : Nat) : Int)) ↔ True := ⟨fun _ => trivial, fun _ => by omega⟩
@[go_sem] theorem int_lt_self {a : Int} : (a < a) ↔ False := ⟨fun h => by omega, fun h => h.elim⟩
@[go_sem] theorem cons_nil {α : Type} {a : α} {l : List α} : (a :: l = []) ↔ False := ⟨fun h => (by cases h), fun h => h.elim⟩
@[go_sem] theorem nil_cons {α : Type} {a : α} {l : List α} : ([] = a :: l) ↔ False := ⟨fun h => (by cases h), fun h => h.elim⟩
@[go_sem] theorem flat_nl : flat [] = [] := rfl
@[go_sem] theorem flat_cns {x : PV} {xs : List PV} : flat (x :: xs) = x.cells ++ flat xs := rfl
@[go_sem] theorem cast_sub0 {a : Int} : a - 0 = a := by omega
@[go_sem] theorem toNat0 : (0 : Int).toNat = 0 := rfl
@[go_sem] theorem toNat1 : (1 : Int).toNat = 1 := rfl
@[go_sem] theorem toNat2 : (2 : Int).toNat = 2 := rfl
attribute [go_sem] List.all_cons List.all_nil List.take_succ_cons List.take_zero List.drop_succ_cons List.take_nil List.drop_nil
attribute [go_sem] Int.ofNat_le Int.ofNat_lt List.drop_zero Int.le_refl Nat.le_refl false_and and_false decide_not Bool.not_not not_true false_iff not_false_iff

/-- A text of bytes. -/
def bs (l : List UInt8) : ByteArray := ⟨l.toArray⟩

@[go_sem] theorem bs_size {l : List UInt8} : (bs l).size = l.length := by simp [bs, ByteArray.size]
@[go_sem] theorem bs_append {a b : List UInt8} : bs a ++ bs b = bs (a ++ b) := by
  apply ByteArray.ext; simp [bs]
@[go_sem] theorem bs_extract {l : List UInt8} {i j : Nat} : (bs l).extract i j = bs ((l.take j).drop i) := by
  apply ByteArray.ext; simp [bs, ByteArray.data_extract, List.extract_eq_take_drop, List.drop_take]
@[go_sem] theorem bs_get {l : List UInt8} {i : Nat} : (bs l).get! i = l.getD i 0 := by
  simp [bs, ByteArray.get!, List.getD_eq_getElem?_getD]
  rfl
@[go_sem] theorem bs_inj {a b : List UInt8} : bs a = bs b ↔ a = b := by
  constructor
  · intro h; have := congrArg ByteArray.data h; simpa [bs] using this
  · intro h; rw [h]
theorem bs_of (s : ByteArray) : ∃ l, s = bs l := ⟨s.data.toList, by apply ByteArray.ext; simp [bs]⟩
@[go_sem] theorem bs_nil : ByteArray.mk #[] = bs [] := rfl

@[go_sem] theorem mk_bs {l : List UInt8} : ByteArray.mk (List.toArray l) = bs l := rfl

/-- Lookups in a heap that has grown. -/
@[go_sem] theorem get_tail0 {H L : Heap} : (H ++ L)[H.length]? = L[0]? := by rw [List.getElem?_append_right (Nat.le_refl _), Nat.sub_self]
@[go_sem] theorem get_tail {H L : Heap} {k : Nat} : (H ++ L)[H.length + k]? = L[k]? := by rw [List.getElem?_append_right (by omega), Nat.add_sub_cancel_left]
@[go_sem] theorem set_tail0 {H L : Heap} {x : Option OB} : (H ++ L).set H.length x = H ++ L.set 0 x := by rw [List.set_append_right _ _ (Nat.le_refl _), Nat.sub_self]
@[go_sem] theorem set_tail {H L : Heap} {k : Nat} {x : Option OB} : (H ++ L).set (H.length + k) x = H ++ L.set k x := by rw [List.set_append_right _ _ (by omega), Nat.add_sub_cancel_left]
@[go_sem] theorem app_app {H L M : Heap} : (H ++ L) ++ M = H ++ (L ++ M) := List.append_assoc ..
@[go_sem] theorem len_app {H L : Heap} : (H ++ L).length = H.length + L.length := List.length_append
@[go_sem] theorem obj_tail0 {H L : Heap} {ver : Nat} : obj (H ++ L) H.length ver = obj L 0 ver := by unfold obj; rw [get_tail0]
@[go_sem] theorem obj_tail {H L : Heap} {k ver : Nat} : obj (H ++ L) (H.length + k) ver = obj L k ver := by unfold obj; rw [get_tail]
@[go_sem] theorem obj_zero {L : Heap} {v ver : Nat} {cs : List PV} : obj (some (.cells v cs) :: L) 0 ver = if v = ver then some cs else none := by unfold obj; rfl
@[go_sem] theorem obj_succ {x : Option OB} {L : Heap} {k ver : Nat} : obj (x :: L) (k + 1) ver = obj L k ver := by unfold obj; rw [List.getElem?_cons_succ]


/-- The evaluator, of which only its equations are known. -/
theorem eval_ex : ∃ f : (Nat → Option TD) → (Nat → Bool) → (Nat → List Nat) → Nat → List It → Env → Heap → Ev, f = eval := ⟨eval, rfl⟩
noncomputable def ev : (Nat → Option TD) → (Nat → Bool) → (Nat → List Nat) → Nat → List It → Env → Heap → Ev := Classical.choose eval_ex
theorem ev_eq : ev = eval := Classical.choose_spec eval_ex

section
variable {T : Nat → Option TD} {mu : Nat → Bool} {ord : Nat → List Nat} {n : Nat} {its k : List It} {σ : Env} {H : Heap}
@[go_sem] theorem ev_0 : ev T mu ord 0 (its) σ H = (.more its σ H) := by
  rw [ev_eq]; rfl
@[go_sem] theorem ev_1 : ev T mu ord (n + 1) ([]) σ H = (.done .normal σ H) := by
  rw [ev_eq]; rfl
@[go_sem] theorem ev_2 {x1 : _} : ev T mu ord (n + 1) (.blk x1 :: k) σ H = (ev T mu ord n k σ H) := by
  rw [ev_eq]; rfl
@[go_sem] theorem ev_3 {c : Code} : ev T mu ord (n + 1) (.loop c :: k) σ H = (.loop c k σ H) := by
  rw [ev_eq]; rfl
@[go_sem] theorem ev_4 {x1 : _} : ev T mu ord (n + 1) (.ops x1 [] :: k) σ H = (ev T mu ord n k σ H) := by
  rw [ev_eq]; rfl
@[go_sem] theorem ev_5 {all : List Oper} {o : Oper} {rest : List Oper} : ev T mu ord (n + 1) (.ops all (o :: rest) :: k) σ H = (match guardOf all o with
    | none => ev T mu ord n (.op all o rest :: k) σ H
    | some (some t, want) => match σ.getD t .any with
      | .bool b => if b = want then ev T mu ord n (.op all o rest :: k) (σ.set t (.bool want)) H
        else ev T mu ord n (.ops all rest :: k) (upd (σ.set t (.bool !want)) o.dst (.tup [])) H
      | .tup [] => ev T mu ord n (.ops all rest :: k) (upd σ o.dst (.tup [])) H
      | _ => .stuck
    | some (none, _) => .stuck) := by
  rw [ev_eq]; rfl
@[go_sem] theorem ev_6 {all : List Oper} {o : Oper} {rest : List Oper} : ev T mu ord (n + 1) (.op all o rest :: k) σ H = (match aop T ((o.dst.map mu).getD false) (opn σ) H o.op with
    | .val b v H' => .need b (ev T mu ord n (.ops all rest :: k) (upd σ o.dst v) H')
    | .br c v1 H1 v2 H2 => if c = true then ev T mu ord n (.ops all rest :: k) (upd σ o.dst v1) H1 else ev T mu ord n (.ops all rest :: k) (upd σ o.dst v2) H2
    | .call f l => .call f l o.dst (.ops all rest :: k) σ H
    | .draw c Q => .need c (.draw Q o.dst (.ops all rest :: k) σ)
    | .ycall i l => .ycall i l o.dst (.ops all rest :: k) σ H
    | .bad => .stuck) := by
  rw [ev_eq]; rfl
@[go_sem] theorem ev_7 {x1 : _} : ev T mu ord (n + 1) (.dr x1 [] :: k) σ H = (ev T mu ord n k σ H) := by
  rw [ev_eq]; rfl
@[go_sem] theorem ev_8 {all : List Oper} {i : Nat} {l : List Nat} : ev T mu ord (n + 1) (.dr all (i :: l) :: k) σ H = (match all[i]? with
    | none => .more (.dr all (i :: l) :: k) σ H
    | some o => match guardOf all o with
      | none => ev T mu ord n (.dop all i o l :: k) σ H
      | some (some t, want) => match σ.getD t .any with
        | .bool b => if b = want then ev T mu ord n (.dop all i o l :: k) (σ.set t (.bool want)) H
          else ev T mu ord n (.dr all l :: k) (upd (σ.set t (.bool !want)) o.dst (.tup [])) H
        | .tup [] => ev T mu ord n (.dr all l :: k) (upd σ o.dst (.tup [])) H
        | _ => .stuck
      | some (none, _) => .stuck) := by
  rw [ev_eq]; rfl
@[go_sem] theorem ev_9 {all : List Oper} {l : List Nat} {o : Oper} {x1 : _} : ev T mu ord (n + 1) (.dop all x1 o l :: k) σ H = (match aop T ((o.dst.map mu).getD false) (opn σ) H o.op with
    | .val b v H' => .need b (ev T mu ord n (.dr all l :: k) (upd σ o.dst v) H')
    | .br c v1 H1 v2 H2 => if c = true then ev T mu ord n (.dr all l :: k) (upd σ o.dst v1) H1 else ev T mu ord n (.dr all l :: k) (upd σ o.dst v2) H2
    | .call f as_ => .call f as_ o.dst (.dr all l :: k) σ H
    | .draw c Q => .need c (.draw Q o.dst (.dr all l :: k) σ)
    | .ycall _ _ => .stuck
    | .bad => .stuck) := by
  rw [ev_eq]; rfl
@[go_sem] theorem ev_10 : ev T mu ord (n + 1) (.code .skip :: k) σ H = (ev T mu ord n k σ H) := by
  rw [ev_eq]; rfl
@[go_sem] theorem ev_11 {a : Code} {b : Code} : ev T mu ord (n + 1) (.code (.seq a b) :: k) σ H = (ev T mu ord n (.code a :: .code b :: k) σ H) := by
  rw [ev_eq]; rfl
@[go_sem] theorem ev_12 {ops : Array Oper} {x1 : _} : ev T mu ord (n + 1) (.code (.region x1 ops false) :: k) σ H = (ev T mu ord n (.ops ops.toList ops.toList :: k) σ H) := by
  rw [ev_eq]; rfl
@[go_sem] theorem ev_13 {id : Nat} {ops : Array Oper} : ev T mu ord (n + 1) (.code (.region id ops true) :: k) σ H = (match ord id with
    | [] => ev T mu ord n (.dq ops.toList 0 ops.toList :: k) σ H
    | i :: l => if 2000 ≤ i then ev T mu ord n (.dqs (i - 2000) ops.toList 0 ops.toList [] :: k) σ H else if 1000 ≤ i then ev T mu ord n (.dqp (i - 1000) ops.toList 0 ops.toList :: k) σ H else ev T mu ord n (.dr ops.toList (i :: l) :: k) σ H) := by
  rw [ev_eq]; rfl
@[go_sem] theorem ev_13s {all : List Oper} {p i : Nat} {fills : List (Option (List PV))} : ev T mu ord (n + 1) (.dqs p all i [] fills :: k) σ H = ev T mu ord n k σ (H ++ fills.map slotO) := by
  rw [ev_eq]; rfl
@[go_sem] theorem ev_13t {all : List Oper} {p i : Nat} {o : Oper} {rest : List Oper} {fills : List (Option (List PV))} : ev T mu ord (n + 1) (.dqs p all i (o :: rest) fills :: k) σ H = (if i = p then ev T mu ord n (.dr all (idxs i (o :: rest)) :: k) σ (H ++ fills.map slotO) else match guardOf all o with
    | none => ev T mu ord n (.dqsop p all i o rest fills :: k) σ H
    | some (some t, want) => match σ.getD t .any with
      | .bool b => if b = want then ev T mu ord n (.dqsop p all i o rest fills :: k) (σ.set t (.bool want)) H
        else ev T mu ord n (.dqs p all (i + 1) rest (fills ++ [none]) :: k) (upd (σ.set t (.bool !want)) o.dst (.tup [])) H
      | .tup [] => ev T mu ord n (.dqs p all (i + 1) rest (fills ++ [none]) :: k) (upd σ o.dst (.tup [])) H
      | _ => .stuck
    | some (none, _) => .stuck) := by
  rw [ev_eq]; rfl
@[go_sem] theorem ev_13u {all : List Oper} {p i : Nat} {o : Oper} {rest : List Oper} {fills : List (Option (List PV))} : ev T mu ord (n + 1) (.dqsop p all i o rest fills :: k) σ H = (match pureOp T (opn σ) o.op with
    | some (b, v) => .need b (ev T mu ord n (.dqs p all (i + 1) rest (fills ++ [none]) :: k) (upd σ o.dst v) H)
    | none => match readOp T (opn σ) H o.op with
      | some (b, v) => .need b (ev T mu ord n (.dqs p all (i + 1) rest (fills ++ [none]) :: k) (upd σ o.dst v) H)
      | none => match newCs T (opn σ) o.op with
        | some (b, cs) => .need b (ev T mu ord n (.dqs p all (i + 1) rest (fills ++ [some cs]) :: k) (upd σ o.dst (.ptr (H.length + i) 1 0)) H)
        | none => match effOp T false (opn σ) H o.op with
          | .call f as_ => .callqs f as_ o.dst (.dqs p all (i + 1) rest (fills ++ [none]) :: k) σ H
          | _ => .stuck) := by
  rw [ev_eq]; rfl
attribute [go_sem] cellsNew newCs slotO
@[go_sem] theorem ev_13a {all : List Oper} {i : Nat} : ev T mu ord (n + 1) (.dq all i [] :: k) σ H = ev T mu ord n k σ H := by
  rw [ev_eq]; rfl
@[go_sem] theorem ev_13b {all : List Oper} {i : Nat} {o : Oper} {rest : List Oper} : ev T mu ord (n + 1) (.dq all i (o :: rest) :: k) σ H = (if isSet o.op = true then ev T mu ord n (.dr all (idxs i (o :: rest)) :: k) σ H else match guardOf all o with
    | none => ev T mu ord n (.dqop all i o rest :: k) σ H
    | some (some t, want) => match σ.getD t .any with
      | .bool b => if b = want then ev T mu ord n (.dqop all i o rest :: k) (σ.set t (.bool want)) H
        else ev T mu ord n (.dq all (i + 1) rest :: k) (upd (σ.set t (.bool !want)) o.dst (.tup [])) H
      | .tup [] => ev T mu ord n (.dq all (i + 1) rest :: k) (upd σ o.dst (.tup [])) H
      | _ => .stuck
    | some (none, _) => .stuck) := by
  rw [ev_eq]; rfl
open Classical in
@[go_sem] theorem ev_13c {all : List Oper} {i : Nat} {o : Oper} {rest : List Oper} : ev T mu ord (n + 1) (.dqop all i o rest :: k) σ H = (match pureOp T (opn σ) o.op with
    | some (b, v) => .need b (ev T mu ord n (.dq all (i + 1) rest :: k) (upd σ o.dst v) H)
    | none => match readOp T (opn σ) H o.op with
      | some (b, v) => .need b (ev T mu ord n (.dq all (i + 1) rest :: k) (upd σ o.dst v) H)
      | none => match effOp T false (opn σ) H o.op with
        | .call f as_ => .callq f as_ o.dst (.dq all (i + 1) rest :: k) σ H
        | .val b v H' => if H' = H then .need b (ev T mu ord n (.dq all (i + 1) rest :: k) (upd σ o.dst v) H) else .stuck
        | _ => .stuck) := by
  rw [ev_eq]; rfl
@[go_sem] theorem ev_13d {p : Nat} {all : List Oper} {i : Nat} : ev T mu ord (n + 1) (.dqp p all i [] :: k) σ H = ev T mu ord n k σ H := by
  rw [ev_eq]; rfl
@[go_sem] theorem ev_13e {p : Nat} {all : List Oper} {i : Nat} {o : Oper} {rest : List Oper} : ev T mu ord (n + 1) (.dqp p all i (o :: rest) :: k) σ H = (if i = p then ev T mu ord n (.dr all (idxs i (o :: rest)) :: k) σ H else match guardOf all o with
    | none => ev T mu ord n (.dqpop p all i o rest :: k) σ H
    | some (some t, want) => match σ.getD t .any with
      | .bool b => if b = want then ev T mu ord n (.dqpop p all i o rest :: k) (σ.set t (.bool want)) H
        else ev T mu ord n (.dqp p all (i + 1) rest :: k) (upd (σ.set t (.bool !want)) o.dst (.tup [])) H
      | .tup [] => ev T mu ord n (.dqp p all (i + 1) rest :: k) (upd σ o.dst (.tup [])) H
      | _ => .stuck
    | some (none, _) => .stuck) := by
  rw [ev_eq]; rfl
open Classical in
@[go_sem] theorem ev_13f {p : Nat} {all : List Oper} {i : Nat} {o : Oper} {rest : List Oper} : ev T mu ord (n + 1) (.dqpop p all i o rest :: k) σ H = (match pureOp T (opn σ) o.op with
    | some (b, v) => .need b (ev T mu ord n (.dqp p all (i + 1) rest :: k) (upd σ o.dst v) H)
    | none => match readOp T (opn σ) H o.op with
      | some (b, v) => .need b (ev T mu ord n (.dqp p all (i + 1) rest :: k) (upd σ o.dst v) H)
      | none => match effOp T false (opn σ) H o.op with
        | .call f as_ => .callq f as_ o.dst (.dqp p all (i + 1) rest :: k) σ H
        | .val b v H' => if H' = H then .need b (ev T mu ord n (.dqp p all (i + 1) rest :: k) (upd σ o.dst v) H) else .stuck
        | _ => .stuck) := by
  rw [ev_eq]; rfl
@[go_sem] theorem ev_14 {a : Code} {b : Code} {c : Operand} : ev T mu ord (n + 1) (.code (.cond c a b) :: k) σ H = (match opn σ c with
    | .bool t => if t = true then ev T mu ord n (.code a :: k) σ H else ev T mu ord n (.code b :: k) σ H
    | _ => .stuck) := by
  rw [ev_eq]; rfl
@[go_sem] theorem ev_15 {c : Code} {id : Nat} : ev T mu ord (n + 1) (.code (.block id c) :: k) σ H = (ev T mu ord n (.code c :: .blk id :: k) σ H) := by
  rw [ev_eq]; rfl
@[go_sem] theorem ev_16 {c : Code} : ev T mu ord (n + 1) (.code (.loop c) :: k) σ H = (.loop c k σ H) := by
  rw [ev_eq]; rfl
@[go_sem] theorem ev_17 {id : Nat} : ev T mu ord (n + 1) (.code (.exit id) :: k) σ H = (match toBlk id k with
    | some k' => ev T mu ord n k' σ H
    | none => .done (.exit id) σ H) := by
  rw [ev_eq]; rfl
@[go_sem] theorem ev_18 {x1 : _} : ev T mu ord (n + 1) (.code .ret :: x1) σ H = (.done .ret σ H) := by
  rw [ev_eq]; rfl
@[go_sem] theorem ev_19 {l : Nat} : ev T mu ord (n + 1) (.code (.label l) :: k) σ H = ev T mu ord n k σ H := by
  rw [ev_eq]; rfl
@[go_sem] theorem ev_20 {c : Code} : ev T mu ord (n + 1) (.code (.scope c) :: k) σ H = ev T mu ord n (.code c :: k) σ H := by
  rw [ev_eq]; rfl
end

/-- The end of a function that has left the heap as it was. -/
theorem fin {H0 H : Heap} {rs : List Nat} {r : PV} {σ : Env} (h : retV σ rs = r) (hH : H = H0) : Ends H0 rs (fun r' H' => r' = r ∧ H' = H0) .ret σ H := by
  subst hH; exact Ends.same (.inr rfl) ⟨h, rfl⟩
theorem fin' {H0 H : Heap} {rs : List Nat} {r : PV} {σ : Env} (h : retV σ rs = r) (hH : H = H0) : Ends H0 rs (fun r' H' => r' = r ∧ H' = H0) .normal σ H := by
  subst hH; exact Ends.same (.inl rfl) ⟨h, rfl⟩

/-- A call whose outcome is known. -/
theorem PCall.on {P : Program} {f : FuncId} {args : List PV} {r : PV} (h : PCall P f args r) {G : PV → Heap → Prop} {H : Heap} (k : G r H) : SCall P f args H G :=
  (h H).mono fun r' H' ⟨h1, h2⟩ => by subst h1; subst h2; exact k

theorem PCall.onq {P : Program} {f : FuncId} {args : List PV} {r : PV} (h : PCall P f args r) {G : PV → Prop} {H : Heap} (k : G r) : ∃ r, SCall P f args H (fun r' H' => r' = r ∧ H' = H) ∧ G r := ⟨r, h H, k⟩
theorem SCall.onq {P : Program} {f : FuncId} {args : List PV} {r : PV} {H : Heap} (h : SCall P f args H (fun r' H' => r' = r ∧ H' = H)) {G : PV → Prop} (k : G r) : ∃ r, SCall P f args H (fun r' H' => r' = r ∧ H' = H) ∧ G r := ⟨r, h, k⟩

theorem w64 {n : Int} (h1 : -9223372036854775808 ≤ n) (h2 : n ≤ 9223372036854775807) : IntKind.i64.wrap n = n := IntWalk.i64_in n ⟨h1, h2⟩

/-- Evaluation goes on: a step of a proof. -/
theorem go {P : Program} {ord : Nat → List Nat} {H0 : Heap} {Φ : AEx → Env → Heap → Prop} (n : Nat) (mu : Nat → Bool) (hP : P.follows .mixedOrders = true) {its : List It} {σ : Env} {H : Heap}
    (h : ESem P (tdOf P) ord H0 Φ (ev (tdOf P) mu ord n its σ H)) : Runs P (tdOf P) ord H0 its σ H Φ := eval_ok (tdOf_ok P) hP n its σ H (ev_eq ▸ h)

end Go.Proofs.SL

/-
  SL: ends of functions, and facts of texts of bytes. No claim by itself.
-/
namespace Go.Proofs.SL
open Go
set_option linter.unusedSimpArgs false
set_option linter.unusedVariables false

theorem fin_drop {H0 L : Heap} {rs : List Nat} {r : PV} {σ : Env} {x : AEx} (hx : x = .normal ∨ x = .ret) (hb : HB H0.length H0) (h : retV σ rs = r) (hr : Bdd H0.length r) : Ends H0 rs (fun r' H' => r' = r ∧ H' = H0) x σ (H0 ++ L) := by
  refine Ends.drop hx hb ?_ ⟨h, rfl⟩
  subst h
  unfold retV at hr
  split at hr
  · intro t ht; simp only [List.mem_singleton] at ht; subst ht; exact hr
  · intro t ht; exact bdd_tup.mp hr _ (List.mem_map.mpr ⟨t, ht, rfl⟩)

/-- The end of a function that gives a slice that it grew. -/
theorem fin_freeze {H0 L : Heap} {Q : PV → Heap → Prop} {σ : Env} {x : AEx} {t i ver off len m : Nat} {tip : Bool} {cs xs : List PV} (hx : x = .normal ∨ x = .ret) (hb : HB H0.length H0) (ht : σ[t]? = some (.buf i ver off len m tip))
    (hi : H0.length ≤ i) (ho : (H0 ++ L)[i]? = some (some (.cells ver cs))) (hfx : flat xs = subCells cs off (len * m)) (hl : xs.length = len) (hm : ∀ x ∈ xs, x.cells.length = m) (hbd : ∀ x ∈ xs, Bdd H0.length x) (h : Q (.sl m xs) H0) :
    Ends H0 [t] Q x σ (H0 ++ L) := by
  have hlt : t < σ.length := by
    rcases Nat.lt_or_ge t σ.length with h | h
    · exact h
    · rw [List.getElem?_eq_none h] at ht; cases ht
  have g := Ghost.freeze (H0 := H0) ht ho hfx hl hm
  have e : (H0 ++ L).set i none = H0 ++ L.set (i - H0.length) none := List.set_append_right _ _ hi
  rw [e] at g
  have hg : (σ.set t (.sl m xs)).getD t .any = .sl m xs := by simp [List.getD_eq_getElem?_getD, hlt]
  have hd := Ends.drop (Q := Q) (rs := [t]) (σ := σ.set t (.sl m xs)) (L := L.set (i - H0.length) none) hx hb (by intro t' ht'; simp only [List.mem_singleton] at ht'; subst ht'; rw [hg]; exact bdd_sl.mpr hbd) (by simp only [retV]; rw [hg]; exact h)
  obtain ⟨h1, σ', H', g', hq⟩ := hd
  exact ⟨h1, σ', H', g.trans g', hq⟩

/-- Texts as values. -/
def strs (l : List (List UInt8)) : List PV := l.map fun s => .str (bs s)

@[go_sem] theorem strs_len {l : List (List UInt8)} : (strs l).length = l.length := List.length_map ..
@[go_sem] theorem flat_strs (l : List (List UInt8)) : flat (strs l) = strs l := by
  induction l with
  | nil => rfl
  | cons a l ih => simp only [strs, flat, List.map_cons, List.flatMap_cons, PV.cells] at ih ⊢; rw [ih]; rfl
theorem strs_cells {l : List (List UInt8)} : ∀ x ∈ strs l, x.cells.length = 1 := by
  intro x hx
  obtain ⟨s, _, rfl⟩ := List.mem_map.mp hx
  rfl
theorem strs_bdd {l : List (List UInt8)} {n : Nat} : ∀ x ∈ strs l, Bdd n x := by
  intro x hx
  obtain ⟨s, _, rfl⟩ := List.mem_map.mp hx
  exact .str _
theorem strs_getD {l : List (List UInt8)} {k : Nat} (h : k < l.length) : (strs l).getD k .any = .str (bs (l.getD k [])) := by
  simp [strs, List.getD_eq_getElem?_getD, h]
theorem strs_get_last {l : List (List UInt8)} {c : List UInt8} : (strs (l ++ [c])).getD l.length .any = .str (bs c) := by
  simp [strs, List.getD_eq_getElem?_getD]
theorem strs_set_last {l : List (List UInt8)} {c d : List UInt8} : (strs (l ++ [c])).set l.length (.str (bs d)) = strs (l ++ [d]) := by
  simp [strs]
theorem strs_take {l : List (List UInt8)} {n : Nat} : (strs l).take n = strs (l.take n) := by simp [strs, List.map_take]
theorem strs_drop {l : List (List UInt8)} {n : Nat} : (strs l).drop n = strs (l.drop n) := by simp [strs, List.map_drop]
theorem strs_append {a b : List (List UInt8)} : strs a ++ strs b = strs (a ++ b) := by simp [strs]

theorem getD_of {l : List UInt8} {k : Nat} (h : k < l.length) : l.getD k 0 = l[k] := by simp [List.getD_eq_getElem?_getD, h]

theorem getDL_of {l : List (List UInt8)} {k : Nat} (h : k < l.length) : l.getD k [] = l[k] := by simp [List.getD_eq_getElem?_getD, h]

theorem one_at {l : List UInt8} {k : Nat} (h : k < l.length) : List.drop k (List.take (k + 1) l) = [l.getD k 0] := by
  rw [List.drop_take, List.drop_eq_getElem_cons h, getD_of h, Nat.add_sub_cancel_left]
  simp only [List.take_succ_cons, List.take_zero]

theorem dec_low {l : List UInt8} {k : Nat} (hk : k < l.length) (h : (l.getD k 0).toNat < 128) : Utf8.decode (bs l) k = ((l.getD k 0).toNat, 1) := by
  have hs : k < (bs l).size := by rw [bs_size]; exact hk
  have e : (bs l)[k]'hs = l.getD k 0 := by rw [getD_of hk]; rfl
  have := decode_ascii (bs l) k hs (by rw [e]; exact h)
  rw [this, e]

theorem dec_high {l : List UInt8} {k : Nat} (hk : k < l.length) (h : 128 ≤ (l.getD k 0).toNat) : 128 ≤ (Utf8.decode (bs l) k).1 ∧ 1 ≤ (Utf8.decode (bs l) k).2 := by
  have hs : k < (bs l).size := by rw [bs_size]; exact hk
  have e : (bs l)[k]'hs = l.getD k 0 := by rw [getD_of hk]; rfl
  exact decode_high (bs l) k hs (by rw [e]; exact h)

theorem dec_le (l : List UInt8) (k : Nat) : (Utf8.decode (bs l) k).1 ≤ 2147483647 := decode_le (bs l) k

theorem or_add {a b : Nat} {s : Nat} (hb : b < 2 ^ s) (h : a * 2 ^ s + b < 9223372036854775808) : bitOp .or .i64 ((a * 2 ^ s : Nat) : Int) (b : Int) = ((a * 2 ^ s + b : Nat) : Int) := by
  unfold bitOp
  simp only
  have e : (BitVec.ofInt IntKind.i64.bits ((a * 2 ^ s : Nat) : Int) ||| BitVec.ofInt IntKind.i64.bits (b : Int)).toNat = a * 2 ^ s + b := by
    rw [BitVec.toNat_or, BitVec.ofInt_natCast, BitVec.ofInt_natCast, BitVec.toNat_ofNat, BitVec.toNat_ofNat]
    have : IntKind.i64.bits = 64 := rfl
    rw [this, Nat.mod_eq_of_lt (by omega), Nat.mod_eq_of_lt (by omega), Nat.mul_comm a, Nat.two_pow_add_eq_or_of_lt hb]
  rw [e, w64 (by omega) (by omega)]

theorem byte_lt (b : UInt8) : b.toNat < 256 := b.toNat_lt
theorem byte_in (b : UInt8) : 0 ≤ ((b.toNat : Nat) : Int) ∧ ((b.toNat : Nat) : Int) < 256 := ⟨by omega, by have := b.toNat_lt; omega⟩

theorem u8_eq (a : UInt8) (n : Nat) (h : n < 256) : ((a.toNat : Nat) : Int) = (n : Int) ↔ a = UInt8.ofNat n := by
  constructor
  · intro e
    have : a.toNat = n := by omega
    apply UInt8.toNat_inj.mp
    rw [this, UInt8.toNat_ofNat']
    omega
  · intro e; subst e; rw [UInt8.toNat_ofNat']; omega

end Go.Proofs.SL
