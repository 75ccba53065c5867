/-
  What the functions compute: a solver's lookups fail, are sent, are tried again. No claim by itself.
-/
import Derived.Test.YtcohhicfpghdpaaGoSolve2
namespace Go.Proofs.GoC
open Go Go.Proofs.SL
set_option linter.unusedSimpArgs false
set_option linter.unusedVariables false
set_option maxRecDepth 10000
set_option maxHeartbeats 4000000

/-- All that a solver has lies below. -/
structure SvB (b i ic im : Nat) (s : PV) (L : List Nat) : Prop where
  i : i < b
  ic : ic < b
  im : im < b
  s : ∀ j ∈ bufN s, j < b
  L : ∀ p ∈ L, p < b
section
variable {H : Heap} {i ic im : Nat} {s : PV} {c : SCfg} {many : Int} {L : List Nat}
theorem SvAt.bnd (h : SvAt H i ic im s c many L) : SvB H.length i ic im s L :=
  ⟨lt_of_get h.own, lt_of_get h.cache, lt_of_get h.map, fun j hj => by
    rcases h.arr with ⟨rfl, _⟩ | ⟨j', vj, m, rfl, h2, _⟩
    · cases hj
    · simp only [bufN, List.mem_singleton] at hj; subst hj; exact lt_of_get h2, fun p hp => by
    obtain ⟨x, hx⟩ := h.lks p hp; exact lt_of_get hx⟩
theorem SvB.sub {b : Nat} {s' : PV} {L' : List Nat} (h : SvB b i ic im s L) (hs : s' = .nils ∨ bufN s' = bufN s) (hL : ∀ p ∈ L', p ∈ L) : SvB b i ic im s' L' :=
  ⟨h.i, h.ic, h.im, fun j hj => by
    rcases hs with rfl | hs
    · cases hj
    · exact h.s j (hs ▸ hj), fun p hp => h.L p (hL p hp)⟩
theorem SvAt.fresh {b : Nat} {H' : Heap} {F : List Nat} (h : SvAt H i ic im s c many L) (hb : SvB b i ic im s L) (k : Keeps F H H') (hF : ∀ j ∈ F, b ≤ j) : SvAt H' i ic im s c many L :=
  h.keep k (fun h => by have := hF _ h; have := hb.i; omega) (fun h => by have := hF _ h; have := hb.ic; omega) (fun h => by have := hF _ h; have := hb.im; omega) (fun j hj h => by have := hF _ h; have := hb.s j hj; omega)
    (fun p hp h => by have := hF _ h; have := hb.L p hp; omega)
theorem rem_sub {p : Nat} : ∀ q ∈ remP p L, q ∈ L := fun q hq => (List.mem_filter.mp hq).1
theorem SvAt.put {p : Nat} {x : Lk} (h : SvAt H i ic im s c many L) (hp : H[p]? = some (some (.cells 0 (lkC x)))) (y : Lk) : SvAt (H.set p (some (.cells 0 (lkC y)))) i ic im s c many L :=
  h.keep (F := [p]) (Keeps.setF (by simp)) (by simpa using (h.lk_i hp).symm) (by simpa using (lk_ic h hp).symm) (by simpa using (lk_im h hp).symm) (fun j hj => by simpa using (h.lk_b hp j hj).symm)
    (fun q hq hm => by simp only [List.mem_singleton] at hm; subst hm; exact ⟨y, List.getElem?_set_self (lt_of_get hp)⟩)
theorem SvAt.app {K : Heap} (h : SvAt H i ic im s c many L) : SvAt (H ++ K) i ic im s c many L := h.keep (F := []) Keeps.app (by simp) (by simp) (by simp) (by simp) (by simp)
end

theorem c_solve_Solver_fail {H : Heap} {i ic im : Nat} {s : PV} {c : SCfg} {many : Int} {L : List Nat} (h : SvAt H i ic im s c many L) (hl : L.length < 1000000) {p : Nat} {x : Lk} (hp : H[p]? = some (some (.cells 0 (lkC x)))) (e : Int) :
    SCall Try.prog 16 [.ptr i 0 0, .ptr p 0 0, .int .i64 e] H fun r H' => r = .agg (evC 2 x.n 0 [] 0 0 e) ∧ ∃ s', SvAt H' i ic im s' c many (remP p L) ∧ (s' = .nils ∨ bufN s' = bufN s) ∧ Keeps (i :: bufN s) H H' := by
  have hb0 := h.bnd
  refine scall_ofd (ord := ordSQ) (tdOf_ok _) (rs := [.cell 6 32]) Try.func16 rfl (by kernel_rfl) (by kernel_rfl) (by kernel_rfl) Try.ntmps16 fun hb hargs => go 200 (fun _ => false) mixed ?_
  simp (disch := omega) only [↓reduceIte, go_sem] <;> repeat with_reducible refine And.intro (by first | omega | decide) ?_
  refine (c_solve_Solver_over (h.app (K := [some (.cells 0 [.int .i64 0, .int .i64 0, .int .i64 0, .str (bs []), .int .i64 0, .int .i64 0, .nils, .int .i64 0])])) hl (get_app hp) 2 0 0 [] 0 0 e).mono fun r H3 ⟨e1, s', hs', hbs, hK⟩ => ?_
  rw [e1]
  have hg : H3[H.length]? = some (some (.cells 0 [.int .i64 0, .int .i64 0, .int .i64 0, .str (bs []), .int .i64 0, .int .i64 0, .nils, .int .i64 0])) := hK.get (by rw [get_tail0]; rfl) (by
    simp only [List.mem_cons, not_or]
    exact ⟨by have := hb0.i; omega, fun hm => by have := hb0.s _ hm; omega⟩)
  have og := obj_of hg
  have lg := lt_of_get hg
  refine go 200 (fun _ => false) mixed ?_
  simp (disch := omega) only [↓reduceIte, go_sem, og, evC] <;> repeat with_reducible refine And.intro (by first | omega | decide) ?_
  refine EndsD.same (.inr rfl) (r := .agg (evC 2 x.n 0 [] 0 0 e)) (by simp (disch := omega) only [↓reduceIte, go_sem, evC] <;> repeat with_reducible refine And.intro (by first | omega | decide) ?_) ⟨rfl, s', hs'.fresh (b := H.length) (hb0.sub hbs rem_sub) (Keeps.setF (F := [H.length]) (by simp)) (by simp), hbs, ?_⟩
  exact (((Keeps.app (F := H.length :: i :: bufN s)).trans (hK.mono fun j hj => .inl (List.mem_cons_of_mem _ hj))).trans (Keeps.setF (i := H.length) (F := H.length :: i :: bufN s) (by simp))).mono (by
    intro j hj
    rcases List.mem_cons.mp hj with rfl | hj
    · exact .inr (Nat.le_refl _)
    · exact .inl hj)

def ordSD : Nat → List Nat
  | 1 => [1013]
  | 3 => [1009]
  | _ => []
theorem ordSD_1 : ordSD 1 = [1013] := rfl
theorem ordSD_3 : ordSD 3 = [1009] := rfl

theorem c_solve_Solver_send {H : Heap} {i ic im : Nat} {s : PV} {c : SCfg} {many : Int} {L : List Nat} (h : SvAt H i ic im s c many L) (hw1 : 1 ≤ c.wt) (hw2 : c.wt ≤ 1000) {p : Nat} {x : Lk} (hp : H[p]? = some (some (.cells 0 (lkC x))))
    (nm : List UInt8) (sv d now : Int) (d1 : -9223372036854775808 ≤ d) (d2 : d ≤ 9223372036854775807) (n1 : 0 ≤ now) (n2 : now ≤ 1000000000) :
    SCall Try.prog 19 [.ptr i 0 0, .ptr p 0 0, .str (bs nm), .int .i64 sv, .int .i64 d, .int .i64 now] H fun r H' => r = .agg (evC 0 x.n (aroundF d 65536 : Nat) nm x.qt sv 0) ∧
      H'[p]? = some (some (.cells 0 (lkC { x with qi := (aroundF d 65536 : Nat), qn := nm, qs := sv, til := now + c.wt }))) ∧ Keeps [p] H H' ∧ SvAt H' i ic im s c many L := by
  have oc := obj_of h.own
  have op := obj_of hp
  have hi := lt_of_get h.own
  have hpl := lt_of_get hp
  have hip : p ≠ i := h.lk_i hp
  have hw : IntKind.i64.wrap (now + c.wt) = now + c.wt := w64 (by omega) (by omega)
  refine scall_ofd (ord := ordSD) (tdOf_ok _) (rs := [.cell 12 32]) Try.func19 rfl (by kernel_rfl) (by kernel_rfl) (by kernel_rfl) Try.ntmps19 fun hb hargs => go 200 (fun _ => false) mixed ?_
  simp (disch := omega) only [↓reduceIte, go_sem, ordSD_1] <;> repeat with_reducible refine And.intro (by first | omega | decide) ?_
  refine (c_solve_id d d1 d2).onq (go 200 (fun _ => false) mixed ?_)
  simp (disch := omega) only [↓reduceIte, go_sem, oc, op, lkC, ordSD_1, ordSD_3, hw] <;> repeat with_reducible refine And.intro (by first | omega | decide) ?_
  exact EndsD.same (.inr rfl) (r := .agg (evC 0 x.n (aroundF d 65536 : Nat) nm x.qt sv 0)) (by simp (disch := omega) only [↓reduceIte, go_sem, evC] <;> repeat with_reducible refine And.intro (by first | omega | decide) ?_) ⟨rfl, by rw [get_app_lt (by simp; omega), get_set_self hpl], (Keeps.setF (by simp)).trans Keeps.app,
    (h.put hp { x with qi := (aroundF d 65536 : Nat), qn := nm, qs := sv, til := now + c.wt }).app⟩

def ordAG : Nat → List Nat
  | 4 => [0, 1, 2, 3, 4, 5, 6, 7, 8, 9, 10, 11, 12, 13, 14, 15, 16, 17, 18, 19, 20, 21, 22]
  | _ => []
theorem ordAG_4 : ordAG 4 = [0, 1, 2, 3, 4, 5, 6, 7, 8, 9, 10, 11, 12, 13, 14, 15, 16, 17, 18, 19, 20, 21, 22] := rfl
theorem ordAG_2 : ordAG 2 = [] := rfl

theorem again_last {H : Heap} {i ic im : Nat} {s : PV} {c : SCfg} {many : Int} {L : List Nat} (h : SvAt H i ic im s c many L) (hl : L.length < 1000000) {p : Nat} {x : Lk} (hp : H[p]? = some (some (.cells 0 (lkC x)))) (x1 : 0 ≤ x.sent) (x2 : x.sent ≤ 1000) (ht : c.tr ≤ x.sent + 1) (d now : Int) :
    SCall Try.prog 21 [.ptr i 0 0, .ptr p 0 0, .int .i64 d, .int .i64 now] H fun r H' => r = .agg (evC 2 x.n 0 [] 0 0 9) ∧ ∃ s', SvAt H' i ic im s' c many (remP p L) ∧ (s' = .nils ∨ bufN s' = bufN s) ∧ Keeps (p :: i :: bufN s) H H' := by
  have hb0 := h.bnd
  have oc := obj_of h.own
  have op := obj_of hp
  have hi := lt_of_get h.own
  have hpl := lt_of_get hp
  have hip : p ≠ i := h.lk_i hp
  refine scall_ofd (ord := ordAG) (tdOf_ok _) (rs := [.cell 8 32]) Try.func21 rfl (by kernel_rfl) (by kernel_rfl) (by kernel_rfl) Try.ntmps21 fun hb hargs => go 200 (fun _ => false) mixed ?_
  simp (disch := omega) only [↓reduceIte, go_sem, oc, op, lkC, ordAG_2, ordAG_4, ht] <;> repeat with_reducible refine And.intro (by first | omega | decide) ?_
  have h1 := h.put hp { x with sent := x.sent + 1 }
  have hp1 : (H.set p (some (.cells 0 (lkC { x with sent := x.sent + 1 }))))[p]? = some (some (.cells 0 (lkC { x with sent := x.sent + 1 }))) := get_set_self hpl
  have e0 : [PV.int .i64 x.n, .int .i64 (x.sent + 1), .int .i64 x.til, .int .i64 x.steps, .int .i64 x.ttl, .str (bs x.name), .int .i64 x.qi, .str (bs x.qn), .int .i64 x.qt, .int .i64 x.qs] = lkC { x with sent := x.sent + 1 } := rfl
  have hK0 : Keeps [p] H (H.set p (some (.cells 0 (lkC { x with sent := x.sent + 1 })))) := Keeps.setF (by simp)
  rw [e0]
  refine (c_solve_Solver_fail (h1.app (K := [some (.cells 0 [.int .i64 0, .int .i64 0, .int .i64 0, .str (bs []), .int .i64 0, .int .i64 0, .nils, .int .i64 0])])) hl (get_app hp1) 9).mono fun r H3 ⟨e1, s', hs', hbs, hK⟩ => ?_
  rw [e1]
  have hg : H3[H.length]? = some (some (.cells 0 [.int .i64 0, .int .i64 0, .int .i64 0, .str (bs []), .int .i64 0, .int .i64 0, .nils, .int .i64 0])) := hK.get (by rw [get_tail0s]; rfl) (by
    simp only [List.mem_cons, not_or]
    exact ⟨by have := hb0.i; omega, fun hm => by have := hb0.s _ hm; omega⟩)
  have og := obj_of hg
  have lg := lt_of_get hg
  refine go 200 (fun _ => false) mixed ?_
  simp (disch := omega) only [↓reduceIte, go_sem, og, evC] <;> repeat with_reducible refine And.intro (by first | omega | decide) ?_
  refine EndsD.same (.inr rfl) (r := .agg (evC 2 x.n 0 [] 0 0 9)) (by simp (disch := omega) only [↓reduceIte, go_sem, evC] <;> repeat with_reducible refine And.intro (by first | omega | decide) ?_) ⟨rfl, s', hs'.fresh (b := H.length) (hb0.sub hbs rem_sub) (Keeps.setF (F := [H.length]) (by simp)) (by simp), hbs, ?_⟩
  exact (((hK0.mono (G := H.length :: p :: i :: bufN s) (by simp)).trans ((Keeps.app (F := H.length :: p :: i :: bufN s)).trans (hK.mono fun j hj => .inl (List.mem_cons_of_mem _ (List.mem_cons_of_mem _ hj))))).trans (Keeps.setF (i := H.length) (F := H.length :: p :: i :: bufN s) (by simp))).mono (by
    intro j hj
    rcases List.mem_cons.mp hj with rfl | hj
    · exact .inr (Nat.le_refl _)
    · exact .inl hj)

theorem again_more {H : Heap} {i ic im : Nat} {s : PV} {c : SCfg} {many : Int} {L : List Nat} (h : SvAt H i ic im s c many L) (hl : L.length < 1000000) (hw1 : 1 ≤ c.wt) (hw2 : c.wt ≤ 1000) (hs1 : 1 ≤ c.sv) (hs2 : c.sv ≤ 1000) {p : Nat} {x : Lk} (hp : H[p]? = some (some (.cells 0 (lkC x))))
    (x1 : 0 ≤ x.sent) (x2 : x.sent ≤ 1000) (x3 : 0 ≤ x.qs) (x4 : x.qs ≤ 1000) (ht : ¬ c.tr ≤ x.sent + 1) (d now : Int) (d1 : -9223372036854775808 ≤ d) (d2 : d ≤ 9223372036854775807) (n1 : 0 ≤ now) (n2 : now ≤ 1000000000) :
    SCall Try.prog 21 [.ptr i 0 0, .ptr p 0 0, .int .i64 d, .int .i64 now] H fun r H' => r = .agg (evC 0 x.n (aroundF d 65536 : Nat) x.qn x.qt ((x.qs + 1).tmod c.sv) 0) ∧
      H'[p]? = some (some (.cells 0 (lkC { x with sent := x.sent + 1, qi := (aroundF d 65536 : Nat), qs := (x.qs + 1).tmod c.sv, til := now + c.wt }))) ∧ Keeps [p] H H' ∧ SvAt H' i ic im s c many L := by
  have hb0 := h.bnd
  have oc := obj_of h.own
  have op := obj_of hp
  have hi := lt_of_get h.own
  have hpl := lt_of_get hp
  have hip : p ≠ i := h.lk_i hp
  have hsv : ¬ c.sv = 0 := by omega
  refine scall_ofd (ord := ordAG) (tdOf_ok _) (rs := [.cell 8 32]) Try.func21 rfl (by kernel_rfl) (by kernel_rfl) (by kernel_rfl) Try.ntmps21 fun hb hargs => go 200 (fun _ => false) mixed ?_
  simp (disch := omega) only [↓reduceIte, go_sem, oc, op, lkC, ordAG_2, ordAG_4, ht, hsv] <;> repeat with_reducible refine And.intro (by first | omega | decide) ?_
  have h1 := h.put hp { x with sent := x.sent + 1 }
  have hp1 : (H.set p (some (.cells 0 (lkC { x with sent := x.sent + 1 }))))[p]? = some (some (.cells 0 (lkC { x with sent := x.sent + 1 }))) := get_set_self hpl
  have e0 : [PV.int .i64 x.n, .int .i64 (x.sent + 1), .int .i64 x.til, .int .i64 x.steps, .int .i64 x.ttl, .str (bs x.name), .int .i64 x.qi, .str (bs x.qn), .int .i64 x.qt, .int .i64 x.qs] = lkC { x with sent := x.sent + 1 } := rfl
  have hK0 : Keeps [p] H (H.set p (some (.cells 0 (lkC { x with sent := x.sent + 1 })))) := Keeps.setF (by simp)
  rw [e0]
  refine (c_solve_Solver_send (h1.app (K := [some (.cells 0 [.int .i64 0, .int .i64 0, .int .i64 0, .str (bs []), .int .i64 0, .int .i64 0, .nils, .int .i64 0])])) hw1 hw2 (get_app hp1) x.qn ((x.qs + 1).tmod c.sv) d now d1 d2 n1 n2).mono fun r H3 ⟨e1, hp3, hK, hs3⟩ => ?_
  rw [e1]
  have hg : H3[H.length]? = some (some (.cells 0 [.int .i64 0, .int .i64 0, .int .i64 0, .str (bs []), .int .i64 0, .int .i64 0, .nils, .int .i64 0])) := hK.get (by rw [get_tail0s]; rfl) (by
    simp only [List.mem_singleton]; omega)
  have og := obj_of hg
  have lg := lt_of_get hg
  refine go 200 (fun _ => false) mixed ?_
  simp (disch := omega) only [↓reduceIte, go_sem, og, evC] <;> repeat with_reducible refine And.intro (by first | omega | decide) ?_
  refine EndsD.same (.inr rfl) (r := .agg (evC 0 x.n (aroundF d 65536 : Nat) x.qn x.qt ((x.qs + 1).tmod c.sv) 0)) (by simp (disch := omega) only [↓reduceIte, go_sem, evC] <;> repeat with_reducible refine And.intro (by first | omega | decide) ?_) ⟨rfl, ?_, ?_, hs3.fresh (b := H.length) hb0 (Keeps.setF (F := [H.length]) (by simp)) (by simp)⟩
  · rw [get_set_ne (by omega)]; exact hp3
  · exact (((hK0.mono (G := [H.length, p]) (by simp)).trans ((Keeps.app (F := [H.length, p])).trans (hK.mono (by simp)))).trans (Keeps.setF (i := H.length) (F := [H.length, p]) (by simp))).mono (by
      intro j hj
      rcases List.mem_cons.mp hj with rfl | hj
      · exact .inr (Nat.le_refl _)
      · exact .inl hj)
end Go.Proofs.GoC
