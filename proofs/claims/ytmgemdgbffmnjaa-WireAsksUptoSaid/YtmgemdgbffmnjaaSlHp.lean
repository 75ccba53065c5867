/-
  SL: objects that are told by what lies in them, whatever heap they lie in; nil slices in cells that may grow. No claim by itself.
-/
import Derived.Test.YtmgemdgbffmnjaaSlM5
import Derived.Test.YtmgemdgbffmnjaaSlM5
import Derived.Test.YtmgemdgbffmnjaaSlM5
namespace Go.Proofs.SL
open Go
set_option linter.unusedSimpArgs false
set_option linter.unusedVariables false

section
variable {H0 H : Heap} {σ : Env}

theorem lt_of_get {α : Type} {l : List α} {i : Nat} {x : α} (h : l[i]? = some x) : i < l.length := by
  rcases Nat.lt_or_ge i l.length with h1 | h1
  · exact h1
  · rw [List.getElem?_eq_none h1] at h; cases h

theorem buf_of_nil {β : Nat → Option Nat} {w : World} {v : Value} {m : Nat} (hv : v = .slice none 0 0) : V (more β H.length none) (H ++ [some (.cells 0 [])]) w v (.buf H.length 0 0 0 m true) := by
  subst hv
  refine .buf none 0 _ 0 0 0 m true (Nat.le_refl _) (fun h => absurd rfl h) ⟨by simp, fun o ho => Nat.zero_le _⟩ fun _ => ⟨fun _ => ⟨rfl, fun _ => rfl⟩, fun b hb => ?_⟩
  rw [more_self] at hb; cases hb

/-- A nil slice in an object's cell is an empty one that may grow. -/
theorem Ghost.growCell {i ver : Nat} (k m : Nat) {cs : List PV} (ho : H[i]? = some (some (.cells ver cs))) (hk : cs[k]? = some .nils) :
    Ghost H0 σ H σ ((H.set i (some (.cells ver (cs.set k (.buf H.length 0 0 0 m true))))) ++ [some (.cells 0 [])]) :=
  fun β0 w0 β w a h1 h2 h3 => by
    have hs : Same w w := ⟨rfl, rfl, rfl, Nat.le_refl _⟩
    have he := push_ext (o := .cells 0 []) (r := none) h1 hs (fun _ _ => rfl) (by simp)
    have hi := push_inv (o := .cells 0 []) (r := none) h1 (fun _ _ => rfl) (by simp) he ⟨fun _ => rfl, fun b hb => by rw [more_self] at hb; cases hb⟩
    have hil : i < H.length := lt_of_get ho
    have ho2 : (H ++ [some (.cells 0 [])])[i]? = some (some (.cells ver cs)) := by rw [List.getElem?_append_left hil]; exact ho
    have hok := hi.ok i _ ho2
    have e : H.set i (some (.cells ver (cs.set k (.buf H.length 0 0 0 m true)))) ++ [some (OB.cells 0 [])] = (H ++ [some (OB.cells 0 [])]).set i (some (.cells ver (cs.set k (.buf H.length 0 0 0 m true)))) := by
      rw [List.set_append_left _ _ hil]
    rw [e]
    clear e
    cases hb : (more β H.length none) i with
    | none => have := hok.1 hb; subst this; simp at hk
    | some b =>
      have he2 := set_ext hi hs ho2 hb (fun _ _ _ => rfl) rfl (o' := .cells ver (cs.set k (.buf H.length 0 0 0 m true))) (.inr ⟨rfl, by simp [OB.len]⟩)
      obtain ⟨c, t, fz, f, a1, a2, a3, a4, a5, a6⟩ := hok.2 b hb
      have hkl : k < cs.length := lt_of_get hk
      have hi2 := set_inv hi ho2 hb (fun _ _ _ => rfl) he2 (by
        refine ⟨fun hn => (by rw [hb] at hn; cases hn), fun b' hb' => ?_⟩
        rw [hb] at hb'
        cases hb'
        refine ⟨c, t, fz, f, a1, by simpa using a2, fun j hj => a3 j (by simpa using hj), fun j p hp => ?_, fun j hj => a5 j (by simpa using hj), a6⟩
        by_cases hjk : k = j
        · subst hjk
          rw [List.getElem?_set_self hkl] at hp
          cases hp
          exact (buf_of_nil (a4 k .nils hk).nils_inv).mono he2
        · rw [List.getElem?_set_ne hjk] at hp
          exact (a4 j p hp).mono he2)
      exact ⟨_, hi2, (h2.trans he).trans he2, (h3.mono he).mono he2⟩

/-- A growing slice in an object's cell was made shorter: what stood behind is forgotten. -/
theorem Ghost.cutCell {i j ver vj : Nat} (k : Nat) {len m : Nat} {cs es : List PV} (ho : H[i]? = some (some (.cells ver cs))) (hk : cs[k]? = some (.buf j vj 0 len m true)) (hj : H[j]? = some (some (.cells vj es)))
    (hij : i ≠ j) (hlt : len * m < es.length) :
    Ghost H0 σ H σ ((H.set j (some (.cells (vj + 1) (es.take (len * m))))).set i (some (.cells ver (cs.set k (.buf j (vj + 1) 0 len m true))))) :=
  fun β0 w0 β w a h1 h2 h3 => by
    have hs : Same w w := ⟨rfl, rfl, rfl, Nat.le_refl _⟩
    have hil : i < H.length := lt_of_get ho
    have hjl : j < H.length := lt_of_get hj
    have hkl : k < cs.length := lt_of_get hk
    have hoki := h1.ok i _ ho
    have hokj := h1.ok j _ hj
    cases hbj : β j with
    | none => have := hokj.1 hbj; subst this; simp at hlt
    | some bj =>
      cases hbi : β i with
      | none => have := hoki.1 hbi; subst this; simp at hk
      | some bi =>
        obtain ⟨c, t, fz, f, a1, a2, a3, a4, a5, a6⟩ := hokj.2 bj hbj
        have he1 := set_ext h1 hs hj hbj (fun _ _ _ => rfl) rfl (o' := .cells (vj + 1) (es.take (len * m))) (.inl (Nat.lt_succ_self _))
        have hi1 := set_inv h1 hj hbj (fun _ _ _ => rfl) he1 (by
          refine ⟨fun hn => (by rw [hbj] at hn; cases hn), fun b' hb' => ?_⟩
          rw [hbj] at hb'
          cases hb'
          refine ⟨c, t, fz, f, a1, by rw [List.length_take]; omega, fun q hq => a3 q (by rw [List.length_take] at hq; omega), fun q p hp => ?_, fun q hq => a5 q (by rw [List.length_take] at hq; omega), ?_⟩
          · have hql : q < len * m := by have := lt_of_get hp; rw [List.length_take] at this; omega
            rw [List.getElem?_take_of_lt hql] at hp
            exact (a4 q p hp).mono he1
          · exact ⟨a6.1, fun h => by omega⟩)
        have ho1 : (H.set j (some (.cells (vj + 1) (es.take (len * m)))))[i]? = some (some (.cells ver cs)) := by rw [List.getElem?_set_ne (Ne.symm hij)]; exact ho
        obtain ⟨c', t', fz', f', a1', a2', a3', a4', a5', a6'⟩ := hoki.2 bi hbi
        have he2 := set_ext hi1 hs ho1 hbi (fun _ _ _ => rfl) rfl (o' := .cells ver (cs.set k (.buf j (vj + 1) 0 len m true))) (.inr ⟨rfl, by simp [OB.len]⟩)
        have hi2 := set_inv hi1 ho1 hbi (fun _ _ _ => rfl) he2 (by
          refine ⟨fun hn => (by rw [hbi] at hn; cases hn), fun b' hb' => ?_⟩
          rw [hbi] at hb'
          cases hb'
          refine ⟨c', t', fz', f', a1', by simpa using a2', fun q hq => a3' q (by simpa using hq), fun q p hp => ?_, fun q hq => a5' q (by simpa using hq), a6'⟩
          by_cases hqk : k = q
          · subst hqk
            rw [List.getElem?_set_self hkl] at hp
            cases hp
            obtain ⟨av, cap, e, hc, hav, hir, hl⟩ := (a4' k _ hk).buf_inv
            rw [e]
            obtain ⟨hn, hsb⟩ := hl ⟨_, hj, rfl⟩
            have hij' : j ≠ i := fun h => hij h.symm
            refine .buf av cap j (vj + 1) 0 len m true hc hav ?_ fun _ => ⟨fun hn' => (by rw [hbj] at hn'; cases hn'), fun b hb => .inr ?_⟩
            · refine ⟨by simp only [List.length_set]; exact hjl, fun x hx => ?_⟩
              rw [List.getElem?_set_ne hij, List.getElem?_set_self hjl] at hx
              cases hx
              exact Nat.le_refl _
            · rcases hsb b hb with ⟨_, h⟩ | ⟨h1', h2', h3'⟩
              · cases h
              · refine ⟨h1', h2', fun _ => ⟨rfl, ?_⟩⟩
                unfold olen
                rw [List.getElem?_set_ne hij, List.getElem?_set_self hjl]
                show (es.take (len * m)).length ≤ cap * m
                rw [List.length_take]
                exact Nat.le_trans (Nat.min_le_left ..) (Nat.mul_le_mul_right _ hc)
          · rw [List.getElem?_set_ne hqk] at hp
            exact ((a4' q p hp).mono he1).mono he2)
        exact ⟨β, hi2, (h2.trans he1).trans he2, (h3.mono he1).mono he2⟩

/-- A nil slice in a struct that a slot holds is an empty one that may grow. -/
theorem Ghost.growAgg {t : Nat} (k m : Nat) {cs : List PV} (ht : σ[t]? = some (.agg cs)) (hk : cs[k]? = some .nils) :
    Ghost H0 σ H (σ.set t (.agg (cs.set k (.buf H.length 0 0 0 m true)))) (H ++ [some (.cells 0 [])]) :=
  fun β0 w0 β w a h1 h2 h3 => by
    have hs : Same w w := ⟨rfl, rfl, rfl, Nat.le_refl _⟩
    have he := push_ext (o := .cells 0 []) (r := none) h1 hs (fun _ _ => rfl) (by simp)
    have hi := push_inv (o := .cells 0 []) (r := none) h1 (fun _ _ => rfl) (by simp) he ⟨fun _ => rfl, fun b hb => by rw [more_self] at hb; cases hb⟩
    refine ⟨_, hi, h2.trans he, ?_⟩
    have h4 := h3.mono he
    refine { h4 with size := by rw [List.length_set]; exact h4.size, v := fun j p hp => ?_ }
    by_cases e : t = j
    · subst e
      rw [List.getElem?_set_self (lt_of_get ht)] at hp
      cases hp
      have hv := h4.v t _ ht
      generalize a.tmps.getD t undef = v at hv ⊢
      cases hv with
      | agg vs _ hs h =>
        refine .agg vs _ (by simpa using hs) fun j v p hv hp => ?_
        by_cases hjk : k = j
        · subst hjk
          rw [List.getElem?_set_self (lt_of_get hk)] at hp
          cases hp
          exact buf_of_nil (h k v _ hv hk).nils_inv
        · rw [List.getElem?_set_ne hjk] at hp
          exact h j v p hv hp
    · rw [List.getElem?_set_ne e] at hp
      exact h4.v j p hp
end

/-! Lookups. -/
section
variable {H L : Heap} {i j v ver : Nat} {cs : List PV} {x y : Option OB}
theorem obj_of (h : H[i]? = some (some (.cells ver cs))) : obj H i ver = some cs := by unfold obj; rw [h]; simp
@[go_sem] theorem obj_set_self (h : i < H.length) : obj (H.set i (some (.cells v cs))) i ver = if v = ver then some cs else none := by
  unfold obj; rw [List.getElem?_set_self h]
@[go_sem] theorem obj_set_ne (h : i ≠ j) : obj (H.set i x) j ver = obj H j ver := by unfold obj; rw [List.getElem?_set_ne h]
@[go_sem] theorem get_set_self (h : i < H.length) : (H.set i x)[i]? = some x := List.getElem?_set_self h
@[go_sem] theorem get_set_ne (h : i ≠ j) : (H.set i x)[j]? = H[j]? := List.getElem?_set_ne h
@[go_sem] theorem obj_app_lt (h : j < H.length) : obj (H ++ L) j ver = obj H j ver := by unfold obj; rw [List.getElem?_append_left h]
@[go_sem] theorem get_app_lt (h : j < H.length) : (H ++ L)[j]? = H[j]? := List.getElem?_append_left h
@[go_sem] theorem set_app_lt (h : i < H.length) : (H ++ L).set i x = H.set i x ++ L := List.set_append_left _ _ h
@[go_sem] theorem len_set : (H.set i x).length = H.length := List.length_set
@[go_sem] theorem set_twice : (H.set i x).set i y = H.set i y := List.set_set ..
@[go_sem] theorem get_tail0s : (H.set i x ++ L)[H.length]? = L[0]? := by rw [List.getElem?_append_right (by simp), List.length_set, Nat.sub_self]
@[go_sem] theorem get_tails {k : Nat} : (H.set i x ++ L)[H.length + k]? = L[k]? := by rw [List.getElem?_append_right (by simp), List.length_set, Nat.add_sub_cancel_left]
@[go_sem] theorem obj_tail0s : obj (H.set i x ++ L) H.length ver = obj L 0 ver := by unfold obj; rw [get_tail0s]
@[go_sem] theorem obj_tails {k : Nat} : obj (H.set i x ++ L) (H.length + k) ver = obj L k ver := by unfold obj; rw [get_tails]
@[go_sem] theorem set_tail0s : (H.set i x ++ L).set H.length y = H.set i x ++ L.set 0 y := by rw [List.set_append_right _ _ (by simp), List.length_set, Nat.sub_self]
@[go_sem] theorem set_tails {k : Nat} : (H.set i x ++ L).set (H.length + k) y = H.set i x ++ L.set k y := by rw [List.set_append_right _ _ (by simp), List.length_set, Nat.add_sub_cancel_left]
end

/-- All that was there is there, but for some objects. -/
def Keeps (F : List Nat) (H H' : Heap) : Prop := H.length ≤ H'.length ∧ ∀ j, j < H.length → j ∉ F → H'[j]? = H[j]?

section
variable {F G : List Nat} {H H1 H2 L : Heap} {i : Nat} {x : Option OB}
theorem Keeps.refl : Keeps F H H := ⟨Nat.le_refl _, fun _ _ _ => rfl⟩
theorem Keeps.app : Keeps F H (H ++ L) := ⟨by simp, fun j hj _ => List.getElem?_append_left hj⟩
theorem Keeps.setF (h : i ∈ F) : Keeps F H (H.set i x) := ⟨by simp, fun j hj hn => List.getElem?_set_ne fun e => hn (by rw [← e]; exact h)⟩
theorem Keeps.trans (a : Keeps F H H1) (b : Keeps F H1 H2) : Keeps F H H2 :=
  ⟨Nat.le_trans a.1 b.1, fun j hj hn => (b.2 j (Nat.lt_of_lt_of_le hj a.1) hn).trans (a.2 j hj hn)⟩
theorem Keeps.mono (a : Keeps F H H1) (h : ∀ j ∈ F, j ∈ G ∨ H.length ≤ j) : Keeps G H H1 :=
  ⟨a.1, fun j hj hn => a.2 j hj fun hf => (h j hf).elim hn fun h => by omega⟩
theorem Keeps.get (a : Keeps F H H1) {o : OB} (h : H[i]? = some (some o)) (hn : i ∉ F) : H1[i]? = some (some o) := (a.2 i (lt_of_get h) hn).trans h
theorem Keeps.nil_split (a : Keeps [] H H1) : ∃ L, H1 = H ++ L := by
  refine ⟨H1.drop H.length, ?_⟩
  apply List.ext_getElem?
  intro j
  rcases Nat.lt_or_ge j H.length with h | h
  · rw [List.getElem?_append_left h, a.2 j h (by simp)]
  · rw [List.getElem?_append_right h, List.getElem?_drop]
    congr 1; omega
/-- What was there at the beginning is there still, if all that changed came later. -/
theorem Keeps.split (a : Keeps F H H1) (h : ∀ j ∈ F, H.length ≤ j) : ∃ L, H1 = H ++ L := (a.mono (G := []) fun j hj => .inr (h j hj)).nil_split
theorem Keeps.hasG {b : Nat} {o : Obj} (a : Keeps F H H1) (h : HasG H b o) (hF : ∀ j ∈ F, ∀ o, H[j]? ≠ some (some (OB.glob b o))) : HasG H1 b o := by
  obtain ⟨i, hi⟩ := h
  exact ⟨i, a.get hi fun hf => hF i hf o hi⟩
end

/-- A contract for wider arguments is one for these. -/
theorem SCall.weaken {P : Program} {f : FuncId} {args args' : List PV} {H : Heap} {Q : PV → Heap → Prop} (hl : args.length = args'.length)
    (h : ∀ (k : Nat) (p p' : PV), args[k]? = some p → args'[k]? = some p' → ∀ (β : Nat → Option Nat) (w : World) (v : Value), V β H w v p → V β H w v p') (hc : SCall P f args' H Q) : SCall P f args H Q :=
  ⟨hc.1, fun β w vs hI hs hv => hc.2 β w vs hI (hs.trans hl) fun i v p' hvi hp' => by
    have hi : i < args.length := by rw [hl]; exact lt_of_get hp'
    exact h i _ p' (List.getElem?_eq_getElem hi) hp' β w v (hv i v _ hvi (List.getElem?_eq_getElem hi))⟩

/-- A nil slice is an empty one, for one who does not ask. -/
theorem SCall.nils {P : Program} {f : FuncId} (pre : List PV) {post : List PV} (m : Nat) {H : Heap} {Q : PV → Heap → Prop} (hc : SCall P f (pre ++ .sl m [] :: post) H Q) : SCall P f (pre ++ .nils :: post) H Q := by
  refine SCall.weaken (by simp) (fun k p p' hp hp' β w v hv => ?_) hc
  rcases Nat.lt_trichotomy k pre.length with h | h | h
  · rw [List.getElem?_append_left h] at hp hp'
    rw [hp] at hp'; cases hp'; exact hv
  · subst h
    rw [List.getElem?_append_right (Nat.le_refl _), Nat.sub_self] at hp hp'
    cases hp; cases hp'
    rw [hv.nils_inv]
    exact .sl0 _ _ _
  · obtain ⟨j, rfl⟩ : ∃ j, k = pre.length + (j + 1) := ⟨k - pre.length - 1, by omega⟩
    rw [List.getElem?_append_right (by omega), Nat.add_sub_cancel_left] at hp hp'
    simp only [List.getElem?_cons_succ] at hp hp'
    rw [hp] at hp'; cases hp'; exact hv
theorem PCall.nils {P : Program} {f : FuncId} (pre : List PV) {post : List PV} (m : Nat) {r : PV} (hc : PCall P f (pre ++ .sl m [] :: post) r) : PCall P f (pre ++ .nils :: post) r := fun H => SCall.nils pre m (hc H)

/-- What a call gives, told with less. -/
theorem SCall.res {P : Program} {f : FuncId} {args : List PV} {H : Heap} {Q : PV → Heap → Prop} {g : PV → PV} (hg : ∀ (β : Nat → Option Nat) (H : Heap) (w : World) (v : Value) (r : PV), V β H w v r → V β H w v (g r)) (hc : SCall P f args H Q) :
    SCall P f args H fun r H' => ∃ r0, r = g r0 ∧ Q r0 H' :=
  ⟨hc.1, fun β w vs hI hs hv => (hc.2 β w vs hI hs hv).mono fun e w' ⟨v, r, β', H', h1, h2, h3, h4, h5⟩ => ⟨v, g r, β', H', h1, h2, h3, hg _ _ _ _ _ h4, r, rfl, h5⟩⟩
/-- A nil slice is an empty one. -/
def noNil (m : Nat) : PV → PV
  | .nils => .sl m []
  | v => v
theorem V.noNil (m : Nat) {β : Nat → Option Nat} {H : Heap} {w : World} {v : Value} {r : PV} (h : V β H w v r) : V β H w v (noNil m r) := by
  cases r <;> first | exact h | (rw [h.nils_inv]; exact .sl0 _ _ _)
theorem PCall.noNil {P : Program} {f : FuncId} {args : List PV} {r : PV} (m : Nat) (h : PCall P f args r) : PCall P f args (noNil m r) := fun H =>
  (SCall.res (g := SL.noNil m) (fun _ _ _ _ _ h => h.noNil m) (h H)).mono fun r H' ⟨r0, h1, h2, h3⟩ => ⟨by rw [h1, h2], h3⟩

/-- The end of a function that gives a slice that it grew, among other things. -/
theorem fin_frz {H0 L : Heap} {rs : List Nat} {Q : PV → Heap → Prop} {σ : Env} {x : AEx} {i ver off len m : Nat} {tip : Bool} {cs : List PV} (t : Nat) (xs : List PV) (hx : x = .normal ∨ x = .ret) (hb : HB H0.length H0) (ht : σ[t]? = some (.buf i ver off len m tip))
    (hi : H0.length ≤ i) (ho : (H0 ++ L)[i]? = some (some (.cells ver cs))) (hfx : flat xs = subCells cs off (len * m)) (hl : xs.length = len) (hm : ∀ x ∈ xs, x.cells.length = m)
    (hr : ∀ u ∈ rs, Bdd H0.length ((σ.set t (.sl m xs)).getD u .any)) (h : Q (retV (σ.set t (.sl m xs)) rs) H0) : Ends H0 rs Q x σ (H0 ++ L) := by
  have g := Ghost.freeze (H0 := H0) ht ho hfx hl hm
  have e : (H0 ++ L).set i none = H0 ++ L.set (i - H0.length) none := List.set_append_right _ _ hi
  rw [e] at g
  obtain ⟨h1, σ', H', g', hq⟩ := Ends.drop (Q := Q) (rs := rs) (σ := σ.set t (.sl m xs)) (L := L.set (i - H0.length) none) hx hb hr h
  exact ⟨h1, σ', H', g.trans g', hq⟩

/-- What a function's body is to show, where its results lie in cells, and all objects stay. -/
def EndsD (T : Nat → Option TD) (H0 : Heap) (rs : List ResultVar) (Q : PV → Heap → Prop) (x : AEx) (σ : Env) (H : Heap) : Prop :=
  (match x with
  | .exit _ => False
  | _ => True) ∧ ∃ σ' H', Ghost H0 σ H σ' H' ∧ (resAll T σ' H' rs).1 = true ∧ Q (resAll T σ' H' rs).2 H'

theorem scall_ofd {P : Program} {T : Nat → Option TD} {ord : Nat → List Nat} {H : Heap} (hT : TOk P T) {f : FuncId} {fn : Func} {c : Code} {rs : List ResultVar} {args : List PV} {Q : PV → Heap → Prop} (hf : P.funcs[f]? = some fn) (hb : fn.body = some c) (hn : (fn.name == "runtime.NumGoroutine") = false)
    (hr : fn.results = rs.toArray) (hc : codeOk T ord c = true) {nt : Nat} (hnt : fn.ntmps = nt)
    (h : HB H.length H → (∀ p ∈ args, Bdd H.length p) → Runs P T ord H [.code c] (slots nt args) H (EndsD T H rs Q)) : SCall P f args H Q := by
  subst hnt
  refine ⟨fun vs w => ?_, fun β w vs hI hs hv => callsIn_wide.1 (callsIn_of_wp_marks (F := Fence.wide) (n := 0) hf hb trivial ?_ rfl)⟩
  · have hn' : fn.name ≠ "runtime.NumGoroutine" := by simpa using hn
    simp [callFunc, hf, hb, hn']
  · have hbd : ∀ p ∈ args, Bdd H.length p := fun p hp => by
      obtain ⟨i, hi, rfl⟩ := List.getElem_of_mem hp
      exact (hv i (vs[i]'(by omega)) _ (Array.getElem?_eq_getElem _) (List.getElem?_eq_getElem _)).bdd
    have hrun : Run P (inR ord) H [.code c] (slots fn.ntmps args) H (EndsD T H rs Q) := h hI.hb hbd ⟨fun it hit => by
      simp only [List.mem_singleton] at hit; subst hit; exact hc, by simp⟩
    have hF : FR w.heap.size β H w { tmps := vs ++ Array.replicate (fn.ntmps - vs.size) undef, defers := [] } (slots fn.ntmps args) := by
      refine ⟨by simp [slots, hs], fun t p hp => ?_, .nil⟩
      unfold slots at hp
      rcases Nat.lt_or_ge t args.length with ht | ht
      · rw [List.getElem?_append_left ht] at hp
        have : t < vs.size := by omega
        simp only [Array.getD_eq_getD_getElem?, Array.getElem?_append_left this, Array.getElem?_eq_getElem this, Option.getD_some]
        exact hv t _ _ (Array.getElem?_eq_getElem this) hp
      · rw [List.getElem?_append_right ht] at hp
        have := List.mem_of_getElem? hp
        rw [List.mem_replicate] at this
        rw [this.2]
        exact .any _
    refine wpIn_mono (hrun β w β w _ hI (Ext.refl ..) hF none (fun _ => rfl)) fun e a' w' he => ?_
    obtain ⟨x, σ', H', β', hx, h1, h2, h3, h4, σ2, H2, g, hq1, hq⟩ := he
    obtain ⟨β2, g1, g2, g3⟩ := g β w β' w' a' h1 h2 h3
    have fin : LeavesInM Fence.wide 0 P fn a'.tmps (fun e w' => ∃ v r β' H', e = .returned v ∧ Inv β' H' w' ∧ Ext β H w β' H' w' ∧ V β' H' w' v r ∧ Q r H') a'.defers .returning w' :=
      leave_marks a'.defers w' g3.defers fun w2 hw2 => by
        have g4 : FR w.heap.size β2 _ w2 { a' with defers := [] } σ2 := ⟨g3.size, fun t p hp => (g3.v t p hp).off hw2, .nil⟩
        obtain ⟨v, hv1, hv2⟩ := resAll_ok hT hr (g1.off hw2) g4 hq1
        exact ⟨v, hv1, v, _, β2, H2, rfl, g1.off hw2, g2.off hw2, hv2, hq⟩
    cases e <;> cases x <;> simp only [exOk] at hx
    · exact fin
    · exact h4.elim
    · exact fin
theorem EndsD.same {T : Nat → Option TD} {H0 H : Heap} {σ : Env} {rs : List ResultVar} {Q : PV → Heap → Prop} {x : AEx} {r : PV} (hx : x = .normal ∨ x = .ret) (h : resAll T σ H rs = (true, r)) (hq : Q r H) : EndsD T H0 rs Q x σ H :=
  ⟨by rcases hx with rfl | rfl <;> trivial, σ, H, Ghost.refl, by rw [h], by rw [h]; exact hq⟩

section
variable {H L : Heap} {i j ver : Nat} {x y : Option OB}
@[go_sem] theorem obj_set_app (h : j < H.length) : obj (H.set i x ++ L) j ver = obj (H.set i x) j ver := by unfold obj; rw [List.getElem?_append_left (by rw [List.length_set]; exact h)]
@[go_sem] theorem get_set_app (h : j < H.length) : (H.set i x ++ L)[j]? = (H.set i x)[j]? := List.getElem?_append_left (by rw [List.length_set]; exact h)
@[go_sem] theorem set_set_app (h : j < H.length) : (H.set i x ++ L).set j y = (H.set i x).set j y ++ L := List.set_append_left _ _ (by rw [List.length_set]; exact h)
variable {k : Nat} {z : Option OB}
@[go_sem] theorem obj_set2_app (h : j < H.length) : obj ((H.set i x).set k y ++ L) j ver = obj ((H.set i x).set k y) j ver := by unfold obj; rw [List.getElem?_append_left (by rw [List.length_set, List.length_set]; exact h)]
@[go_sem] theorem set_set2_app (h : j < H.length) : ((H.set i x).set k y ++ L).set j z = ((H.set i x).set k y).set j z ++ L := List.set_append_left _ _ (by rw [List.length_set, List.length_set]; exact h)
end

end Go.Proofs.SL
