/-
  SL: the evaluator's definitions as rules for simp. No claim by itself.
-/
import Derived.Test.YtdgikagnkbphoaaDoorSlTab
import Derived.Attr
import Derived.IntWalk
namespace Go.Proofs.SL
open Go
set_option linter.unusedSimpArgs false

attribute [go_sem] aop pureOp readOp effOp opn ofValue ofScalar binV intBin strBin eqBin notB no partV lim elemAddr unV pickV convV indexV extractV fieldOf fieldV fieldAddrV makeIfaceV
  zeroLit sliceV lenV minV maxV nilCheckV loadV arrSliceV toStrV newSlice storeV storeE boxE elemTy buildSliceE bytesE rangeE nextE appendable appendE callE upd toBlk guardOf PV.cells PV.one
  buildV fillV chunk subCells eqAgg tagP copyE makeSliceE arrayAtV isSet idxs slots retV idx elemsOf isU8 bytesOf slt keepB

section
variable {P : Program} {T : Nat → Option TD} {ord : Nat → List Nat} {H0 : Heap} {Φ : AEx → Env → Heap → Prop}
@[go_sem] theorem mid_exit {k : List It} {mask : List Bool} {mid : Env → Heap → Prop} {id : Nat} {σ : Env} {H : Heap} :
    Mid P T ord H0 Φ k mask mid (.exit id) σ H ↔ match toBlk id k with
    | some k' => Runs P T ord H0 k' σ H Φ
    | none => Φ (.exit id) σ H := Iff.rfl
@[go_sem] theorem mid_ret {k : List It} {mask : List Bool} {mid : Env → Heap → Prop} {σ : Env} {H : Heap} : Mid P T ord H0 Φ k mask mid .ret σ H ↔ Φ .ret σ H := Iff.rfl
@[go_sem] theorem rnd_exit {α : Type} {inv : α → Prop} {meas : α → Nat} {mask : List Bool} {env : α → Env} {hp : α → Heap} {n : Nat} {its : List It} {id : Nat} {σ : Env} {H : Heap} :
    RndA P T ord H0 Φ its inv meas mask env hp n (.exit id) σ H ↔ match toBlk id its with
    | some k => Runs P T ord H0 k σ H Φ
    | none => Φ (.exit id) σ H := Iff.rfl
@[go_sem] theorem rnd_ret {α : Type} {inv : α → Prop} {meas : α → Nat} {mask : List Bool} {env : α → Env} {hp : α → Heap} {n : Nat} {its : List It} {σ : Env} {H : Heap} :
    RndA P T ord H0 Φ its inv meas mask env hp n .ret σ H ↔ Φ .ret σ H := Iff.rfl
@[go_sem] theorem esem_need {b : Bool} {e : Ev} : ESem P T ord H0 Φ (.need b e) ↔ b = true ∧ ESem P T ord H0 Φ e := Iff.rfl
@[go_sem] theorem esem_call {f : Nat} {args : List PV} {dst : Option Nat} {its : List It} {σ : Env} {H : Heap} : ESem P T ord H0 Φ (.call f args dst its σ H) ↔ SCall P f args H fun r H' => Runs P T ord H0 its (upd σ dst r) H' Φ := Iff.rfl
@[go_sem] theorem esem_callq {f : Nat} {args : List PV} {dst : Option Nat} {its : List It} {σ : Env} {H : Heap} : ESem P T ord H0 Φ (.callq f args dst its σ H) ↔ ∃ r, SCall P f args H (fun r' H' => r' = r ∧ H' = H) ∧ Runs P T ord H0 its (upd σ dst r) H Φ := Iff.rfl
@[go_sem] theorem esem_loop {c : Code} {its : List It} {σ : Env} {H : Heap} : ESem P T ord H0 Φ (.loop c its σ H) ↔ Runs P T ord H0 (.loop c :: its) σ H Φ := Iff.rfl
@[go_sem] theorem esem_done {x : AEx} {σ : Env} {H : Heap} : ESem P T ord H0 Φ (.done x σ H) ↔ Φ x σ H := Iff.rfl
@[go_sem] theorem esem_more {its : List It} {σ : Env} {H : Heap} : ESem P T ord H0 Φ (.more its σ H) ↔ Runs P T ord H0 its σ H Φ := Iff.rfl
@[go_sem] theorem esem_stuck : ESem P T ord H0 Φ .stuck ↔ False := Iff.rfl
@[go_sem] theorem esem_ite {c : Prop} [Decidable c] {a b : Ev} : ESem P T ord H0 Φ (if c then a else b) ↔ (c → ESem P T ord H0 Φ a) ∧ (¬ c → ESem P T ord H0 Φ b) := by
  by_cases h : c <;> simp [h]
end

attribute [go_sem] Int.reduceLE Int.reduceLT Int.reduceEq Int.reduceNe Int.reduceAdd Int.reduceSub Int.reduceMul Int.reduceToNat Nat.reducePow Int.reducePow Nat.reduceDiv Nat.reduceMod Int.reduceDiv Int.reduceMod Nat.reduceAdd Nat.reduceSub Nat.reduceMul Nat.reduceLT Nat.reduceLeDiff Nat.reduceEqDiff List.set_cons_zero List.set_cons_succ List.getD_cons_zero List.getD_cons_succ List.getElem?_cons_zero List.getElem?_cons_succ List.set_nil
  List.map_cons List.map_nil List.length_cons List.length_nil List.replicate_succ List.replicate_zero List.nil_append List.cons_append List.append_nil
  Option.map_some Option.map_none Option.getD_some Option.getD_none Option.bind_some Option.bind_none Option.isNone_some Option.isNone_none
  Int.toNat_natCast Bool.false_eq_true Bool.true_eq_false not_false_eq_true not_true_eq_false false_implies forall_const decide_eq_true_eq Bool.not_eq_true' decide_eq_false_iff_not Bool.and_eq_true implies_true Classical.not_not
  beq_self_eq_true Nat.reduceBEq Bool.or_true Bool.true_or Bool.or_false Bool.false_or eq_self ne_eq Bool.and_true Bool.true_and Bool.not_false Bool.not_true decide_true decide_false true_and and_true if_true if_false ite_true ite_false
  List.getElem?_toArray

@[go_sem] theorem cast0 : ((0 : Nat) : Int) = 0 := rfl
@[go_sem] theorem cast1 : ((1 : Nat) : Int) = 1 := rfl
@[go_sem] theorem cast_nn {k : Nat} : (0 ≤ (k : Int)) ↔ True := ⟨fun _ => trivial, fun _ => by omega⟩
@[go_sem] theorem cast_neg {k : Nat} : ((k : Int) < 0) ↔ False := ⟨fun h => by omega, fun h => h.elim⟩
@[go_sem] theorem cast_p1 {k : Nat} : ((0 : Int) < ((k + 1 : Nat) : Int)) ↔ True := ⟨fun _ => trivial, fun _ => by omega⟩
@[go_sem] theorem cast_p2 {k : Nat} : ((1 : Int) < ((k + 1 + 1 : Nat) : Int)) ↔ True := ⟨fun _ => trivial, fun _ => by omega⟩
@[go_sem] theorem cast_p3 {k : Nat} : ((1 : Int) ≤ ((k + 1 : Nat) : Int)) ↔ True := ⟨fun _ => trivial, fun _ => by omega⟩
@[go_sem] theorem cast_p4 {k : Nat} : ((2 : Int) ≤ ((k + 1 + 1 : Nat) : Int)) ↔ True := ⟨fun _ => trivial, fun _ => by omega⟩
@[go_sem] theorem int_lt_self {a : Int} : (a < a) ↔ False := ⟨fun h => by omega, fun h => h.elim⟩
@[go_sem] theorem cons_nil {α : Type} {a : α} {l : List α} : (a :: l = []) ↔ False := ⟨fun h => (by cases h), fun h => h.elim⟩
@[go_sem] theorem nil_cons {α : Type} {a : α} {l : List α} : ([] = a :: l) ↔ False := ⟨fun h => (by cases h), fun h => h.elim⟩
@[go_sem] theorem flat_nl : flat [] = [] := rfl
@[go_sem] theorem flat_cns {x : PV} {xs : List PV} : flat (x :: xs) = x.cells ++ flat xs := rfl
@[go_sem] theorem cast_sub0 {a : Int} : a - 0 = a := by omega
@[go_sem] theorem toNat0 : (0 : Int).toNat = 0 := rfl
@[go_sem] theorem toNat1 : (1 : Int).toNat = 1 := rfl
@[go_sem] theorem toNat2 : (2 : Int).toNat = 2 := rfl
attribute [go_sem] List.all_cons List.all_nil List.take_succ_cons List.take_zero List.drop_succ_cons List.take_nil List.drop_nil
attribute [go_sem] Int.ofNat_le Int.ofNat_lt List.drop_zero Int.le_refl Nat.le_refl false_and and_false decide_not Bool.not_not not_true false_iff not_false_iff

/-- A text of bytes. -/
def bs (l : List UInt8) : ByteArray := ⟨l.toArray⟩

@[go_sem] theorem bs_size {l : List UInt8} : (bs l).size = l.length := by simp [bs, ByteArray.size]
@[go_sem] theorem bs_append {a b : List UInt8} : bs a ++ bs b = bs (a ++ b) := by
  apply ByteArray.ext; simp [bs]
@[go_sem] theorem bs_extract {l : List UInt8} {i j : Nat} : (bs l).extract i j = bs ((l.take j).drop i) := by
  apply ByteArray.ext; simp [bs, ByteArray.data_extract, List.extract_eq_take_drop, List.drop_take]
@[go_sem] theorem bs_get {l : List UInt8} {i : Nat} : (bs l).get! i = l.getD i 0 := by
  simp [bs, ByteArray.get!, List.getD_eq_getElem?_getD]
  rfl
@[go_sem] theorem bs_inj {a b : List UInt8} : bs a = bs b ↔ a = b := by
  constructor
  · intro h; have := congrArg ByteArray.data h; simpa [bs] using this
  · intro h; rw [h]
theorem bs_of (s : ByteArray) : ∃ l, s = bs l := ⟨s.data.toList, by apply ByteArray.ext; simp [bs]⟩
@[go_sem] theorem bs_nil : ByteArray.mk #[] = bs [] := rfl

@[go_sem] theorem mk_bs {l : List UInt8} : ByteArray.mk (List.toArray l) = bs l := rfl

/-- Lookups in a heap that has grown. -/
@[go_sem] theorem get_tail0 {H L : Heap} : (H ++ L)[H.length]? = L[0]? := by rw [List.getElem?_append_right (Nat.le_refl _), Nat.sub_self]
@[go_sem] theorem get_tail {H L : Heap} {k : Nat} : (H ++ L)[H.length + k]? = L[k]? := by rw [List.getElem?_append_right (by omega), Nat.add_sub_cancel_left]
@[go_sem] theorem set_tail0 {H L : Heap} {x : Option OB} : (H ++ L).set H.length x = H ++ L.set 0 x := by rw [List.set_append_right _ _ (Nat.le_refl _), Nat.sub_self]
@[go_sem] theorem set_tail {H L : Heap} {k : Nat} {x : Option OB} : (H ++ L).set (H.length + k) x = H ++ L.set k x := by rw [List.set_append_right _ _ (by omega), Nat.add_sub_cancel_left]
@[go_sem] theorem app_app {H L M : Heap} : (H ++ L) ++ M = H ++ (L ++ M) := List.append_assoc ..
@[go_sem] theorem len_app {H L : Heap} : (H ++ L).length = H.length + L.length := List.length_append
@[go_sem] theorem obj_tail0 {H L : Heap} {ver : Nat} : obj (H ++ L) H.length ver = obj L 0 ver := by unfold obj; rw [get_tail0]
@[go_sem] theorem obj_tail {H L : Heap} {k ver : Nat} : obj (H ++ L) (H.length + k) ver = obj L k ver := by unfold obj; rw [get_tail]
@[go_sem] theorem obj_zero {L : Heap} {v ver : Nat} {cs : List PV} : obj (some (.cells v cs) :: L) 0 ver = if v = ver then some cs else none := by unfold obj; rfl
@[go_sem] theorem obj_succ {x : Option OB} {L : Heap} {k ver : Nat} : obj (x :: L) (k + 1) ver = obj L k ver := by unfold obj; rw [List.getElem?_cons_succ]


/-- The evaluator, of which only its equations are known. -/
theorem eval_ex : ∃ f : (Nat → Option TD) → (Nat → Bool) → (Nat → List Nat) → Nat → List It → Env → Heap → Ev, f = eval := ⟨eval, rfl⟩
noncomputable def ev : (Nat → Option TD) → (Nat → Bool) → (Nat → List Nat) → Nat → List It → Env → Heap → Ev := Classical.choose eval_ex
theorem ev_eq : ev = eval := Classical.choose_spec eval_ex

section
variable {T : Nat → Option TD} {mu : Nat → Bool} {ord : Nat → List Nat} {n : Nat} {its k : List It} {σ : Env} {H : Heap}
@[go_sem] theorem ev_0 : ev T mu ord 0 (its) σ H = (.more its σ H) := by
  rw [ev_eq]; rfl
@[go_sem] theorem ev_1 : ev T mu ord (n + 1) ([]) σ H = (.done .normal σ H) := by
  rw [ev_eq]; rfl
@[go_sem] theorem ev_2 {x1 : _} : ev T mu ord (n + 1) (.blk x1 :: k) σ H = (ev T mu ord n k σ H) := by
  rw [ev_eq]; rfl
@[go_sem] theorem ev_3 {c : Code} : ev T mu ord (n + 1) (.loop c :: k) σ H = (.loop c k σ H) := by
  rw [ev_eq]; rfl
@[go_sem] theorem ev_4 {x1 : _} : ev T mu ord (n + 1) (.ops x1 [] :: k) σ H = (ev T mu ord n k σ H) := by
  rw [ev_eq]; rfl
@[go_sem] theorem ev_5 {all : List Oper} {o : Oper} {rest : List Oper} : ev T mu ord (n + 1) (.ops all (o :: rest) :: k) σ H = (match guardOf all o with
    | none => ev T mu ord n (.op all o rest :: k) σ H
    | some (some t, want) => match σ.getD t .any with
      | .bool b => if b = want then ev T mu ord n (.op all o rest :: k) (σ.set t (.bool want)) H
        else ev T mu ord n (.ops all rest :: k) (upd (σ.set t (.bool !want)) o.dst (.tup [])) H
      | .tup [] => ev T mu ord n (.ops all rest :: k) (upd σ o.dst (.tup [])) H
      | _ => .stuck
    | some (none, _) => .stuck) := by
  rw [ev_eq]; rfl
@[go_sem] theorem ev_6 {all : List Oper} {o : Oper} {rest : List Oper} : ev T mu ord (n + 1) (.op all o rest :: k) σ H = (match aop T ((o.dst.map mu).getD false) (opn σ) H o.op with
    | .val b v H' => .need b (ev T mu ord n (.ops all rest :: k) (upd σ o.dst v) H')
    | .br c v1 H1 v2 H2 => if c = true then ev T mu ord n (.ops all rest :: k) (upd σ o.dst v1) H1 else ev T mu ord n (.ops all rest :: k) (upd σ o.dst v2) H2
    | .call f l => .call f l o.dst (.ops all rest :: k) σ H
    | .bad => .stuck) := by
  rw [ev_eq]; rfl
@[go_sem] theorem ev_7 {x1 : _} : ev T mu ord (n + 1) (.dr x1 [] :: k) σ H = (ev T mu ord n k σ H) := by
  rw [ev_eq]; rfl
@[go_sem] theorem ev_8 {all : List Oper} {i : Nat} {l : List Nat} : ev T mu ord (n + 1) (.dr all (i :: l) :: k) σ H = (match all[i]? with
    | none => .stuck
    | some o => match guardOf all o with
      | none => ev T mu ord n (.dop all i o l :: k) σ H
      | some (some t, want) => match σ.getD t .any with
        | .bool b => if b = want then ev T mu ord n (.dop all i o l :: k) (σ.set t (.bool want)) H
          else ev T mu ord n (.dr all l :: k) (upd (σ.set t (.bool !want)) o.dst (.tup [])) H
        | .tup [] => ev T mu ord n (.dr all l :: k) (upd σ o.dst (.tup [])) H
        | _ => .stuck
      | some (none, _) => .stuck) := by
  rw [ev_eq]; rfl
@[go_sem] theorem ev_9 {all : List Oper} {l : List Nat} {o : Oper} {x1 : _} : ev T mu ord (n + 1) (.dop all x1 o l :: k) σ H = (match aop T ((o.dst.map mu).getD false) (opn σ) H o.op with
    | .val b v H' => .need b (ev T mu ord n (.dr all l :: k) (upd σ o.dst v) H')
    | .br c v1 H1 v2 H2 => if c = true then ev T mu ord n (.dr all l :: k) (upd σ o.dst v1) H1 else ev T mu ord n (.dr all l :: k) (upd σ o.dst v2) H2
    | .call f as_ => .call f as_ o.dst (.dr all l :: k) σ H
    | .bad => .stuck) := by
  rw [ev_eq]; rfl
@[go_sem] theorem ev_10 : ev T mu ord (n + 1) (.code .skip :: k) σ H = (ev T mu ord n k σ H) := by
  rw [ev_eq]; rfl
@[go_sem] theorem ev_11 {a : Code} {b : Code} : ev T mu ord (n + 1) (.code (.seq a b) :: k) σ H = (ev T mu ord n (.code a :: .code b :: k) σ H) := by
  rw [ev_eq]; rfl
@[go_sem] theorem ev_12 {ops : Array Oper} {x1 : _} : ev T mu ord (n + 1) (.code (.region x1 ops false) :: k) σ H = (ev T mu ord n (.ops ops.toList ops.toList :: k) σ H) := by
  rw [ev_eq]; rfl
@[go_sem] theorem ev_13 {id : Nat} {ops : Array Oper} : ev T mu ord (n + 1) (.code (.region id ops true) :: k) σ H = (match ord id with
    | [] => ev T mu ord n (.dq ops.toList 0 ops.toList :: k) σ H
    | i :: l => ev T mu ord n (.dr ops.toList (i :: l) :: k) σ H) := by
  rw [ev_eq]; rfl
@[go_sem] theorem ev_13a {all : List Oper} {i : Nat} : ev T mu ord (n + 1) (.dq all i [] :: k) σ H = ev T mu ord n k σ H := by
  rw [ev_eq]; rfl
@[go_sem] theorem ev_13b {all : List Oper} {i : Nat} {o : Oper} {rest : List Oper} : ev T mu ord (n + 1) (.dq all i (o :: rest) :: k) σ H = (if isSet o.op = true then ev T mu ord n (.dr all (idxs i (o :: rest)) :: k) σ H else match guardOf all o with
    | none => ev T mu ord n (.dqop all i o rest :: k) σ H
    | some (some t, want) => match σ.getD t .any with
      | .bool b => if b = want then ev T mu ord n (.dqop all i o rest :: k) (σ.set t (.bool want)) H
        else ev T mu ord n (.dq all (i + 1) rest :: k) (upd (σ.set t (.bool !want)) o.dst (.tup [])) H
      | .tup [] => ev T mu ord n (.dq all (i + 1) rest :: k) (upd σ o.dst (.tup [])) H
      | _ => .stuck
    | some (none, _) => .stuck) := by
  rw [ev_eq]; rfl
@[go_sem] theorem ev_13c {all : List Oper} {i : Nat} {o : Oper} {rest : List Oper} : ev T mu ord (n + 1) (.dqop all i o rest :: k) σ H = (match pureOp T (opn σ) o.op with
    | some (b, v) => .need b (ev T mu ord n (.dq all (i + 1) rest :: k) (upd σ o.dst v) H)
    | none => match readOp T (opn σ) H o.op with
      | some (b, v) => .need b (ev T mu ord n (.dq all (i + 1) rest :: k) (upd σ o.dst v) H)
      | none => match effOp T false (opn σ) H o.op with
        | .call f as_ => .callq f as_ o.dst (.dq all (i + 1) rest :: k) σ H
        | _ => .stuck) := by
  rw [ev_eq]; rfl
@[go_sem] theorem ev_14 {a : Code} {b : Code} {c : Operand} : ev T mu ord (n + 1) (.code (.cond c a b) :: k) σ H = (match opn σ c with
    | .bool t => if t = true then ev T mu ord n (.code a :: k) σ H else ev T mu ord n (.code b :: k) σ H
    | _ => .stuck) := by
  rw [ev_eq]; rfl
@[go_sem] theorem ev_15 {c : Code} {id : Nat} : ev T mu ord (n + 1) (.code (.block id c) :: k) σ H = (ev T mu ord n (.code c :: .blk id :: k) σ H) := by
  rw [ev_eq]; rfl
@[go_sem] theorem ev_16 {c : Code} : ev T mu ord (n + 1) (.code (.loop c) :: k) σ H = (.loop c k σ H) := by
  rw [ev_eq]; rfl
@[go_sem] theorem ev_17 {id : Nat} : ev T mu ord (n + 1) (.code (.exit id) :: k) σ H = (match toBlk id k with
    | some k' => ev T mu ord n k' σ H
    | none => .done (.exit id) σ H) := by
  rw [ev_eq]; rfl
@[go_sem] theorem ev_18 {x1 : _} : ev T mu ord (n + 1) (.code .ret :: x1) σ H = (.done .ret σ H) := by
  rw [ev_eq]; rfl
end

/-- The end of a function that has left the heap as it was. -/
theorem fin {H0 H : Heap} {rs : List Nat} {r : PV} {σ : Env} (h : retV σ rs = r) (hH : H = H0) : Ends H0 rs (fun r' H' => r' = r ∧ H' = H0) .ret σ H := by
  subst hH; exact Ends.same (.inr rfl) ⟨h, rfl⟩
theorem fin' {H0 H : Heap} {rs : List Nat} {r : PV} {σ : Env} (h : retV σ rs = r) (hH : H = H0) : Ends H0 rs (fun r' H' => r' = r ∧ H' = H0) .normal σ H := by
  subst hH; exact Ends.same (.inl rfl) ⟨h, rfl⟩

/-- A call whose outcome is known. -/
theorem PCall.on {P : Program} {f : FuncId} {args : List PV} {r : PV} (h : PCall P f args r) {G : PV → Heap → Prop} {H : Heap} (k : G r H) : SCall P f args H G :=
  (h H).mono fun r' H' ⟨h1, h2⟩ => by subst h1; subst h2; exact k

theorem PCall.onq {P : Program} {f : FuncId} {args : List PV} {r : PV} (h : PCall P f args r) {G : PV → Prop} {H : Heap} (k : G r) : ∃ r, SCall P f args H (fun r' H' => r' = r ∧ H' = H) ∧ G r := ⟨r, h H, k⟩
theorem SCall.onq {P : Program} {f : FuncId} {args : List PV} {r : PV} {H : Heap} (h : SCall P f args H (fun r' H' => r' = r ∧ H' = H)) {G : PV → Prop} (k : G r) : ∃ r, SCall P f args H (fun r' H' => r' = r ∧ H' = H) ∧ G r := ⟨r, h, k⟩

theorem w64 {n : Int} (h1 : -9223372036854775808 ≤ n) (h2 : n ≤ 9223372036854775807) : IntKind.i64.wrap n = n := IntWalk.i64_in n ⟨h1, h2⟩

/-- Evaluation goes on: a step of a proof. -/
theorem go {P : Program} {ord : Nat → List Nat} {H0 : Heap} {Φ : AEx → Env → Heap → Prop} (n : Nat) (mu : Nat → Bool) (hP : P.follows .mixedOrders = true) {its : List It} {σ : Env} {H : Heap}
    (h : ESem P (tdOf P) ord H0 Φ (ev (tdOf P) mu ord n its σ H)) : Runs P (tdOf P) ord H0 its σ H Φ := eval_ok (tdOf_ok P) hP n its σ H (ev_eq ▸ h)

end Go.Proofs.SL
