/-
  What the functions compute: one lookup is tried again; the document's example; the law SolveFull. No claim by itself.
-/
import Derived.Test.YtcohhicfpghdpaaGoSolve5
namespace Go.Proofs.GoC
open Go Go.Proofs.SL
set_option linter.unusedSimpArgs false
set_option linter.unusedVariables false
set_option maxRecDepth 10000
set_option maxHeartbeats 4000000

def oneN : Option Heap → Nat
  | none => 0
  | some _ => 1

theorem tick_more {H : Heap} {i ic im : Nat} {s : PV} {c : SCfg} {many : Int} {p : Nat} (h : SvAt H i ic im s c many [p]) (hw1 : 1 ≤ c.wt) (hw2 : c.wt ≤ 1000) (hs1 : 1 ≤ c.sv) (hs2 : c.sv ≤ 1000) {x : Lk} (hp : H[p]? = some (some (.cells 0 (lkC x))))
    (now d : Int) (x0 : x.til ≤ now) (x1 : 0 ≤ x.sent) (x2 : x.sent ≤ 1000) (x3 : 0 ≤ x.qs) (x4 : x.qs ≤ 1000) (ht : ¬ c.tr ≤ x.sent + 1) (d1 : -9223372036854775808 ≤ d) (d2 : d ≤ 9223372036854775807) (n1 : 0 ≤ now) (n2 : now ≤ 1000000000) :
    SCall Try.prog 9 [.ptr i 0 0, .int .i64 now, .int .i64 d] H fun r H' => r = .sl 8 [.agg (evC 0 x.n (aroundF d 65536 : Nat) x.qn x.qt ((x.qs + 1).tmod c.sv) 0)] ∧
      H'[p]? = some (some (.cells 0 (lkC { x with sent := x.sent + 1, qi := (aroundF d 65536 : Nat), qs := (x.qs + 1).tmod c.sv, til := now + c.wt }))) ∧ Keeps [p] H H' ∧ SvAt H' i ic im s c many [p] := by
  have hb0 := h.bnd
  have oc := obj_of h.own
  have hi := lt_of_get h.own
  have hpl := lt_of_get hp
  have hd0 : IntKind.i64.wrap (d + 0) = d := by rw [Int.add_zero]; exact w64 d1 d2
  have hcl := c_slices_Clone_solve_lookup_solve_lookup h.arr hb0.L (by simp)
  have hag := again_more (H := H ++ [some (.cells 0 [])]) h.app (by simp) hw1 hw2 hs1 hs2 (get_app hp) x1 x2 x3 x4 ht d now d1 d2 n1 n2
  refine scall_of (ord := fun _ => []) (rs := [6]) Try.func9 rfl (by kernel_rfl) (by kernel_rfl) (by kernel_rfl) Try.ntmps9 fun hb hargs => go 200 (fun _ => false) mixed ?_
  simp (disch := omega) only [↓reduceIte, go_sem, oc] <;> repeat with_reducible refine And.intro (by first | omega | decide) ?_
  refine hcl.mono fun r H1 ⟨hr, e2⟩ => ?_
  rw [e2]
  obtain rfl : r = .sl 1 [.ptr p 0 0] := by
    rcases hr with ⟨_, h⟩ | h
    · cases h
    · exact h
  refine go 200 (fun _ => false) mixed ?_
  simp (disch := omega) only [↓reduceIte, go_sem] <;> repeat with_reducible refine And.intro (by first | omega | decide) ?_
  refine Runs.ghost (by rfl) (Ghost.grow (t := 7) (m := 8) rfl) ?_
  refine runs_loopA (fun a : Option Heap => match a with
      | none => True
      | some K => K[H.length]? = some (some (.cells 1 (evC 0 x.n (aroundF d 65536 : Nat) x.qn x.qt ((x.qs + 1).tmod c.sv) 0))) ∧ K[p]? = some (some (.cells 0 (lkC { x with sent := x.sent + 1, qi := (aroundF d 65536 : Nat), qs := (x.qs + 1).tmod c.sv, til := now + c.wt }))) ∧ Keeps [p] H K ∧ SvAt K i ic im s c many [p])
    (fun a => 1 - oneN a) [true, true, true, false, false, false, false, true, false, false, false, false, false, false, true, true, true]
    (fun a => slots 39 [.ptr i 0 0, .int .i64 now, .int .i64 d, .any, .any, .any, .any, .buf H.length (oneN a) 0 (oneN a) 8 true, .any, .any, .any, .any, .any, .any, .sl 1 [.ptr p 0 0], .int .i64 1, .int .i64 (oneN a)]) (fun a => a.getD (H ++ [some (.cells 0 [])])) (by rfl)
    none trivial rfl rfl ?_
  rintro (_ | K) hI
  · have op := obj_of hp
    refine go 200 (fun _ => false) mixed ?_
    simp (disch := omega) only [↓reduceIte, go_sem, oneN, Option.getD, op, lkC, x0, hd0] <;> repeat with_reducible refine And.intro (by first | omega | decide) ?_
    refine hag.mono fun r K1 ⟨e5, hp5, k5, hs5⟩ => ?_
    rw [e5]
    have ho1 : K1[H.length]? = some (some (.cells 0 [])) := k5.get (by rw [get_tail0]; rfl) (by simp; omega)
    have oo := obj_of ho1
    have lo := lt_of_get ho1
    refine go 200 (fun _ => false) mixed ?_
    simp (disch := omega) only [↓reduceIte, go_sem, oo, evC, most] <;> repeat with_reducible refine And.intro (by first | omega | decide) ?_
    refine rnd_next (some (K1.set H.length (some (.cells 1 (evC 0 x.n (aroundF d 65536 : Nat) x.qn x.qt ((x.qs + 1).tmod c.sv) 0))))) ⟨get_set_self lo, by rw [get_set_ne (by omega)]; exact hp5, ?_, hs5.fresh (b := H.length) hb0 (Keeps.setF (F := [H.length]) (by simp)) (by simp)⟩ (Nat.zero_lt_one) rfl rfl
    exact (((Keeps.app (F := [H.length, p])).trans (k5.mono (by simp))).trans (Keeps.setF (by simp))).mono (by simp)
  · obtain ⟨ho, hpK, hK, hsv⟩ := hI
    refine go 200 (fun _ => false) mixed ?_
    simp (disch := omega) only [↓reduceIte, go_sem, oneN, Option.getD] <;> repeat with_reducible refine And.intro (by first | omega | decide) ?_
    refine go 200 (fun _ => false) mixed ?_
    simp (disch := omega) only [↓reduceIte, go_sem] <;> repeat with_reducible refine And.intro (by first | omega | decide) ?_
    refine ⟨trivial, _, _, Ghost.freeze (t := 6) (xs := [.agg (evC 0 x.n (aroundF d 65536 : Nat) x.qn x.qt ((x.qs + 1).tmod c.sv) 0)]) rfl ho ?_ rfl ?_, rfl, ?_, ?_, ?_⟩
    · rfl
    · intro y hy; simp only [List.mem_singleton] at hy; subst hy; rfl
    · rw [get_set_ne (by omega)]; exact hpK
    · exact ((hK.mono (G := [H.length, p]) (by simp)).trans (Keeps.setF (by simp))).mono (by simp)
    · exact hsv.fresh (b := H.length) hb0 (Keeps.setF (F := [H.length]) (by simp)) (by simp)

theorem c_solve_Solver_Config {H : Heap} {i ic im : Nat} {s : PV} {c : SCfg} {many : Int} {L : List Nat} (h : SvAt H i ic im s c many L) : SCall Try.prog 11 [.ptr i 0 0] H fun r H' => r = .agg (cfgC c) ∧ H' = H := by
  have oc := obj_of h.own
  have hi := lt_of_get h.own
  refine scall_ofc (ord := fun _ => []) (tdOf_ok _) (rs := [.cell 2 26]) Try.func11 rfl (by kernel_rfl) (by kernel_rfl) (by kernel_rfl) Try.ntmps11 fun hb hargs => go 200 (fun _ => false) mixed ?_
  simp (disch := omega) only [↓reduceIte, go_sem, oc] <;> repeat with_reducible refine And.intro (by first | omega | decide) ?_
  refine fin_c (r := .agg (cfgC c)) (.inr rfl) hb ?_ (bdd_agg.mpr fun p hp => by simp only [cfgC, List.mem_cons, List.not_mem_nil, or_false] at hp; rcases hp with rfl | rfl | rfl | rfl <;> simp)
  simp (disch := omega) only [↓reduceIte, go_sem, cfgC] <;> repeat with_reducible refine And.intro (by first | omega | decide) ?_

theorem may_a : mayN [97] = true := by decide
theorem bs_a : bs [97] = ⟨#[97]⟩ := rfl

theorem c_abatislaw12_lives : PCall Try.prog 10 [] (.bool true) := by
  intro H
  refine scall_of (ord := fun _ => []) (rs := [0]) Try.func10 rfl (by kernel_rfl) (by kernel_rfl) (by kernel_rfl) Try.ntmps10 fun hb hargs => go 200 (fun _ => false) mixed ?_
  simp (disch := omega) only [↓reduceIte, go_sem] <;> repeat with_reducible refine And.intro (by first | omega | decide) ?_
  refine (c_solve_New 2 2 5 1).mono fun r H1 ⟨i, ic, im, e1, hs1, k1, hle⟩ => ?_
  rw [e1]
  have hst := start_ok hs1 (by simp) (by decide) (by decide) (by decide) (by decide) [97] (by decide) (by simp) may_a 1 (.inl rfl) 7 0 (by decide) (by decide) (by decide) (by decide)
  have hc : (⟨cutS 2 4, cutS 2 5, cutS 5 1000, cutS 1 64⟩ : SCfg) = ⟨2, 2, 5, 1⟩ := by simp [cutS]
  rw [hc] at hs1 hst
  refine go 200 (fun _ => false) mixed ?_
  simp (disch := omega) only [↓reduceIte, go_sem] <;> repeat with_reducible refine And.intro (by first | omega | decide) ?_
  refine hst.mono fun r H2 ⟨e2, p, s2, hs2, hp2, lp2, k2, hb2⟩ => ?_
  rw [e2]
  have hbd2 := hs2.bnd
  have hpl2 := lt_of_get hp2
  have hs2 := hs2.app (K := [some (.cells 0 (evC 0 0 (aroundF 7 65536 : Nat) [97] 1 0 0))])
  have hp2 := get_app (S := [some (.cells 0 (evC 0 0 (aroundF 7 65536 : Nat) [97] 1 0 0))]) hp2
  have ht1 := tick_more hs2 (by decide) (by decide) (by decide) (by decide) hp2 5 8 (by decide) (by decide) (by decide) (by decide) (by decide) (by decide) (by decide) (by decide) (by decide) (by decide)
  have a7 : aroundF 7 65536 = 7 := by decide
  rw [a7] at ht1 hs2 hp2
  refine go 200 (fun _ => false) mixed ?_
  simp (disch := omega) only [↓reduceIte, go_sem, evC, a7] <;> repeat with_reducible refine And.intro (by first | omega | decide) ?_
  refine ht1.mono fun r H3 ⟨e3, hp3, k3, hs3⟩ => ?_
  rw [e3]
  have ht2 := tick_all hs3 (by simp) 10 9 (fun q hq => by
    simp only [List.nil_append, List.mem_singleton] at hq
    subst hq
    exact ⟨_, hp3, by decide, by decide, by decide, by decide⟩)
  have he3 : H3[H2.length]? = some (some (.cells 0 (evC 0 0 7 [97] 1 0 0))) := k3.get (by rw [get_tail0]; rfl) (by simp only [List.mem_singleton]; omega)
  refine go 200 (fun _ => false) mixed ?_
  simp (disch := omega) only [↓reduceIte, go_sem] <;> repeat with_reducible refine And.intro (by first | omega | decide) ?_
  refine ht2.mono fun r H4 ⟨hr, s4, hs4, hb4, k4⟩ => ?_
  obtain ⟨n, rfl⟩ : ∃ n, r = .sl 8 [.agg (lastE n)] := by
    rcases hr with ⟨_, h⟩ | ⟨es, rfl, hl, hes⟩
    · cases h
    · cases es with
      | nil => cases hl
      | cons e es =>
        cases es with
        | nil => obtain ⟨n, rfl⟩ := hes e (by simp); exact ⟨n, rfl⟩
        | cons e' es => simp at hl
  have he4 := k4.get he3 (by
    simp only [List.mem_cons, List.mem_append, List.nil_append, List.not_mem_nil, or_false, not_or]
    exact ⟨by have := hbd2.i; omega, fun hm => by have := hbd2.s _ hm; omega, by omega⟩)
  have oe4 := obj_of he4
  refine go 200 (fun _ => false) mixed ?_
  have htm : Int.tmod 1 2 = 1 := by decide
  simp (disch := omega) only [↓reduceIte, go_sem, oe4, evC, lastE, htm] <;> repeat with_reducible refine And.intro (by first | omega | decide) ?_
  have hl1 : H.length ≤ H1.length := k1.1
  obtain ⟨L', rfl⟩ : ∃ L', H4 = H ++ L' := ((k1.mono (G := i :: p :: bufN s2) (by simp)).trans ((k2.mono (by simp [bufN])).trans (Keeps.app.trans ((k3.mono (by simp)).trans (k4.mono fun j hj => .inl (by
    simp only [List.mem_cons, List.mem_append, List.nil_append, List.not_mem_nil, or_false] at hj ⊢
    rcases hj with h | h | h
    · exact .inl h
    · exact .inr (.inr h)
    · exact .inr (.inl h))))))).split fun j hj => by
      simp only [List.mem_cons] at hj
      rcases hj with h | h | h
      · omega
      · omega
      · rcases hb2 j h with h | h
        · cases h
        · omega
  exact fin_drop (.inr rfl) hb rfl (by simp)
end Go.Proofs.GoC
