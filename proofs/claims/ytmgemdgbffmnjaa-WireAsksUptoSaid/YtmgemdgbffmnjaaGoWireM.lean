/-
  What the functions compute: whether two messages are one; the law of what asks, and answers. No claim by itself.
-/
import Derived.Test.YtmgemdgbffmnjaaGoWireL
namespace Go.Proofs.GoC
open Go Go.Proofs.SL
set_option linter.unusedSimpArgs false
set_option linter.unusedVariables false
set_option maxRecDepth 10000
set_option maxHeartbeats 4000000

theorem c_wire_Same_1 {H : Heap} {i j k : Nat} {a b : Ms} {x y : List Rc} (hi : H[i]? = some (some (.cells 0 (msC a)))) (hj : H[j]? = some (some (.cells 0 (msC b)))) (hk : k < 6)
    (hx : (msC a).getD k .any = .sl 23 (rcsV x)) (hy : (msC b).getD k .any = .sl 23 (rcsV y)) (hxl : x.length < 1100000) (hyl : y.length < 1100000) (hxa : ∀ r ∈ x, r.ab.length = 16) (hya : ∀ r ∈ y, r.ab.length = 16) :
    SCall Try.prog 54 [.ptr i 0 k, .ptr j 0 k] H fun r H' => r = .bool (decide (x = y)) ∧ H' = H := by
  have o1 := obj_of hi
  have o2 := obj_of hj
  have key := c_slices_Equal_api_Record_api_Record x y hxa hya hxl hyl
  have hl1 : (msC a).length = 6 := rfl
  have hl2 : (msC b).length = 6 := rfl
  refine scall_of (ord := fun _ => []) (rs := [4]) Try.func54 rfl (by kernel_rfl) (by kernel_rfl) (by kernel_rfl) Try.ntmps54 fun hb hargs => go 200 (fun _ => false) mixed ?_
  simp (disch := omega) only [↓reduceIte, go_sem, o1, o2, hl1, hl2, hx, hy] <;> repeat with_reducible refine And.intro (by first | omega | decide) ?_
  refine key.onq (go 200 (fun _ => false) mixed ?_)
  simp (disch := omega) only [↓reduceIte, go_sem] <;> repeat with_reducible refine And.intro (by first | omega | decide) ?_
  exact fin rfl rfl

theorem c_slices_EqualFunc_api_Record_api_Record_api_Record_api_Record {H : Heap} {i j : Nat} {a b : Ms} (hi : H[i]? = some (some (.cells 0 (msC a)))) (hj : H[j]? = some (some (.cells 0 (msC b)))) (ha : MsC a) (hbk : MsC b) :
    SCall Try.prog 53 [.sl 1 [.ptr i 0 3, .ptr i 0 4, .ptr i 0 5], .sl 1 [.ptr j 0 3, .ptr j 0 4, .ptr j 0 5], .func (.func 54) [] []] H
      fun r H' => r = .bool (decide (a.an = b.an) && (decide (a.au = b.au) && decide (a.mo = b.mo))) ∧ H' = H := by
  have k1 := c_wire_Same_1 (k := 3) hi hj (by omega) rfl rfl ha.an.1 hbk.an.1 ha.an.2 hbk.an.2
  have k2 := c_wire_Same_1 (k := 4) hi hj (by omega) rfl rfl ha.au.1 hbk.au.1 ha.au.2 hbk.au.2
  have k3 := c_wire_Same_1 (k := 5) hi hj (by omega) rfl rfl ha.mo.1 hbk.mo.1 ha.mo.2 hbk.mo.2
  generalize decide (a.an = b.an) = r1 at *
  generalize decide (a.au = b.au) = r2 at *
  generalize decide (a.mo = b.mo) = r3 at *
  refine scall_of (ord := fun _ => []) (rs := [6]) Try.func53 rfl (by kernel_rfl) (by kernel_rfl) (by kernel_rfl) Try.ntmps53 fun hb hargs => go 200 (fun _ => false) mixed ?_
  simp (disch := omega) only [↓reduceIte, go_sem] <;> repeat with_reducible refine And.intro (by first | omega | decide) ?_
  refine runs_rounds 4 (by rfl) (ru_go [true, true, true, false, false, false, false, false, false, false, false, false, false, false, false, true, true, true] (go 200 (fun _ => false) mixed ?_))
  simp (disch := omega) only [↓reduceIte, go_sem] <;> repeat with_reducible refine And.intro (by first | omega | decide) ?_
  refine k1.mono fun r H' ⟨e1, e2⟩ => ?_
  rw [e1, e2]
  cases r1 with
  | false =>
    refine go 200 (fun _ => false) mixed ?_
    simp (disch := omega) only [↓reduceIte, go_sem] <;> repeat with_reducible refine And.intro (by first | omega | decide) ?_
    exact fin rfl rfl
  | true =>
  refine go 200 (fun _ => false) mixed ?_
  simp (disch := omega) only [↓reduceIte, go_sem] <;> repeat with_reducible refine And.intro (by first | omega | decide) ?_
  refine ru_go [true, true, true, false, false, false, false, false, false, false, false, false, false, false, false, true, true, true] (go 200 (fun _ => false) mixed ?_)
  simp (disch := omega) only [↓reduceIte, go_sem] <;> repeat with_reducible refine And.intro (by first | omega | decide) ?_
  refine k2.mono fun r H' ⟨e1, e2⟩ => ?_
  rw [e1, e2]
  cases r2 with
  | false =>
    refine go 200 (fun _ => false) mixed ?_
    simp (disch := omega) only [↓reduceIte, go_sem] <;> repeat with_reducible refine And.intro (by first | omega | decide) ?_
    exact fin rfl rfl
  | true =>
  refine go 200 (fun _ => false) mixed ?_
  simp (disch := omega) only [↓reduceIte, go_sem] <;> repeat with_reducible refine And.intro (by first | omega | decide) ?_
  refine ru_go [true, true, true, false, false, false, false, false, false, false, false, false, false, false, false, true, true, true] (go 200 (fun _ => false) mixed ?_)
  simp (disch := omega) only [↓reduceIte, go_sem] <;> repeat with_reducible refine And.intro (by first | omega | decide) ?_
  refine k3.mono fun r H' ⟨e1, e2⟩ => ?_
  rw [e1, e2]
  cases r3 with
  | false =>
    refine go 200 (fun _ => false) mixed ?_
    simp (disch := omega) only [↓reduceIte, go_sem] <;> repeat with_reducible refine And.intro (by first | omega | decide) ?_
    exact fin rfl rfl
  | true =>
  refine go 200 (fun _ => false) mixed ?_
  simp (disch := omega) only [↓reduceIte, go_sem] <;> repeat with_reducible refine And.intro (by first | omega | decide) ?_
  refine ru_go [true, true, true, false, false, false, false, false, false, false, false, false, false, false, false, true, true, true] (go 200 (fun _ => false) mixed ?_)
  simp (disch := omega) only [↓reduceIte, go_sem] <;> repeat with_reducible refine And.intro (by first | omega | decide) ?_
  refine go 200 (fun _ => false) mixed ?_
  simp (disch := omega) only [↓reduceIte, go_sem] <;> repeat with_reducible refine And.intro (by first | omega | decide) ?_
  exact fin rfl rfl

theorem c_wire_Same (a b : Ms) (ha : MsC a) (hbk : MsC b) : PCall Try.prog 22 [msV a, msV b] (.bool (sameM a b)) := by
  intro H
  have kq := c_slices_Equal_api_Question_api_Question a.qs b.qs ha.qs hbk.qs
  have kE := c_slices_EqualFunc_api_Record_api_Record_api_Record_api_Record (H := H ++ [some (.cells 0 (msC a)), some (.cells 0 (msC b))]) (i := H.length) (j := H.length + 1) (by rw [get_tail0]; rfl) (by rw [get_tail]; rfl) ha hbk
  have kL := fun i => c_wire_lists (H := H ++ [some (.cells 0 (msC a)), some (.cells 0 (msC b))]) (i := i)
  have hs : sameM a b = (decide (a.id = b.id) && (decide (a.fl = b.fl) && (decide (a.qs = b.qs) && (decide (a.an = b.an) && (decide (a.au = b.au) && decide (a.mo = b.mo)))))) := rfl
  rw [hs]
  clear hs
  generalize decide (a.qs = b.qs) = rq at *
  generalize (decide (a.an = b.an) && (decide (a.au = b.au) && decide (a.mo = b.mo))) = rr at *
  refine scall_of (ord := fun _ => []) (rs := [4]) Try.func22 rfl (by kernel_rfl) (by kernel_rfl) (by kernel_rfl) Try.ntmps22 fun hb hargs => go 10 (fun _ => false) mixed ?_
  simp (disch := omega) only [↓reduceIte, go_sem, msV, msC] <;> repeat with_reducible refine And.intro (by first | omega | decide) ?_
  by_cases h1 : a.id = b.id
  · rw [decide_eq_true h1]
    by_cases h2 : a.fl = b.fl
    · rw [decide_eq_true h2]
      have h1 : (a.id = b.id) = True := eq_true h1
      have h2 : (a.fl = b.fl) = True := eq_true h2
      refine go 30 (fun _ => false) mixed ?_
      simp (disch := omega) only [↓reduceIte, go_sem, h1, h2] <;> repeat with_reducible refine And.intro (by first | omega | decide) ?_
      refine go 200 (fun _ => false) mixed ?_
      simp (disch := omega) only [↓reduceIte, go_sem, h1, h2] <;> repeat with_reducible refine And.intro (by first | omega | decide) ?_
      refine kq.on (go 200 (fun _ => false) mixed ?_)
      cases rq with
      | false =>
        simp (disch := omega) only [↓reduceIte, go_sem] <;> repeat with_reducible refine And.intro (by first | omega | decide) ?_
        exact fin_drop (.inr rfl) hb rfl (by simp)
      | true =>
      simp (disch := omega) only [↓reduceIte, go_sem] <;> repeat with_reducible refine And.intro (by first | omega | decide) ?_
      refine (kL _).mono fun r H' ⟨e1, e2⟩ => ?_
      rw [e1, e2]
      refine go 200 (fun _ => false) mixed ?_
      simp (disch := omega) only [↓reduceIte, go_sem] <;> repeat with_reducible refine And.intro (by first | omega | decide) ?_
      refine (kL _).mono fun r H' ⟨e1, e2⟩ => ?_
      rw [e1, e2]
      refine go 200 (fun _ => false) mixed ?_
      simp (disch := omega) only [↓reduceIte, go_sem] <;> repeat with_reducible refine And.intro (by first | omega | decide) ?_
      refine kE.mono fun r H' ⟨e1, e2⟩ => ?_
      rw [e1, e2]
      refine go 200 (fun _ => false) mixed ?_
      simp (disch := omega) only [↓reduceIte, go_sem] <;> repeat with_reducible refine And.intro (by first | omega | decide) ?_
      exact fin_drop (.inr rfl) hb rfl (by simp)
    · rw [decide_eq_false h2]
      refine go 30 (fun _ => false) mixed ?_
      simp (disch := omega) only [↓reduceIte, go_sem, h1, h2] <;> repeat with_reducible refine And.intro (by first | omega | decide) ?_
      refine go 200 (fun _ => false) mixed ?_
      simp (disch := omega) only [↓reduceIte, go_sem, h1, h2] <;> repeat with_reducible refine And.intro (by first | omega | decide) ?_
      exact fin_drop (.inr rfl) hb rfl (by simp)
  · rw [decide_eq_false h1]
    refine go 30 (fun _ => false) mixed ?_
    simp (disch := omega) only [↓reduceIte, go_sem, h1] <;> repeat with_reducible refine And.intro (by first | omega | decide) ?_
    refine go 200 (fun _ => false) mixed ?_
    simp (disch := omega) only [↓reduceIte, go_sem, h1] <;> repeat with_reducible refine And.intro (by first | omega | decide) ?_
    exact fin_drop (.inr rfl) hb rfl (by simp)

/-- A struct that is a message's, whose lists may be nil. -/
theorem PCall.fixArg {P : Program} {f : FuncId} {x p r : PV} (h : PCall P f [x, GoC.fixM p] r) : PCall P f [x, p] r := fun H =>
  SCall.weaken (args' := [x, GoC.fixM p]) rfl (fun k p1 p2 h1 h2 β w v hv => by
    match k, h1, h2 with
    | 0, h1, h2 => cases h1; cases h2; exact hv
    | 1, h1, h2 => cases h1; cases h2; exact GoC.V.fixM hv
    | k + 2, h1, _ => simp at h1) (h H)
theorem PCall.fixArg0 {P : Program} {f : FuncId} {p r : PV} (h : PCall P f [GoC.fixM p] r) : PCall P f [p] r := fun H =>
  SCall.weaken (args' := [GoC.fixM p]) rfl (fun k p1 p2 h1 h2 β w v hv => by
    match k, h1, h2 with
    | 0, h1, h2 => cases h1; cases h2; exact GoC.V.fixM hv
    | k + 1, h1, _ => simp at h1) (h H)

theorem c_abatislaw09_WireAsks (id : Int) (name : List UInt8) (kind : Int) (l : List Rc) (hl : l.length < 1100000) (hr : ∀ r ∈ l, RcOk r) : GCall 6 [.int .i64 id, .str (bs name), .int .i64 kind, .sl 23 (rcsV l)] (.bool true) := by
  intro H hG
  have hG2 : ∀ L, GTab (H ++ L) := fun L => hG.keep (F := []) Keeps.app (by simp)
  have hL := fun L => c_abatislaw09_lives (H ++ L) (hG2 L)
  have main : ∀ (l : List Rc), l.length < 1100000 → (∀ r ∈ l, r.ab.length = 16) → True := fun _ _ _ => trivial
  have hA := c_wire_Ask id name kind
  have hab : ∀ r ∈ l.take 3, r.ab.length = 16 := fun r h => (hr r (List.mem_of_mem_take h)).2.2.2.2.1
  have hl3 : (l.take 3).length < 1100000 := by rw [List.length_take]; omega
  have hAn := c_wire_Answer (askM id name kind) (l.take 3) (show 1 < 1100000 by decide) hl3 hab
  have cq : MsC (askM id name kind) := ⟨show 1 < 1100000 by decide, ⟨show 0 < 1100000 by decide, by simp [askM]⟩, ⟨show 0 < 1100000 by decide, by simp [askM]⟩, ⟨show 0 < 1100000 by decide, by simp [askM]⟩⟩
  have ca : MsC ⟨id, 33152, [⟨name, kind, 1⟩], l.take 3, [], []⟩ := ⟨show 1 < 1100000 by decide, ⟨hl3, hab⟩, ⟨show 0 < 1100000 by decide, by simp⟩, ⟨show 0 < 1100000 by decide, by simp⟩⟩
  have s1 : PCall Try.prog 21 [msV (askM id name kind), .agg [.int .i64 id, .int .i64 256, .sl 3 [quV ⟨name, kind, 1⟩], .nils, .nils, .nils]] (.bool true) := by
    have := c_abatisref09_Same (askM id name kind) (askM id name kind) cq cq
    rw [sameM_iff.mpr rfl] at this
    exact PCall.fixArg this
  have s2 : PCall Try.prog 21 [msV ⟨id, 33152, [⟨name, kind, 1⟩], l.take 3, [], []⟩, .agg [.int .i64 id, .int .i64 33152, .sl 3 [quV ⟨name, kind, 1⟩], .sl 23 (rcsV (l.take 3)), .nils, .nils]] (.bool true) := by
    have := c_abatisref09_Same ⟨id, 33152, [⟨name, kind, 1⟩], l.take 3, [], []⟩ ⟨id, 33152, [⟨name, kind, 1⟩], l.take 3, [], []⟩ ca ca
    rw [sameM_iff.mpr rfl] at this
    exact PCall.fixArg this
  have s3 := c_wire_Same ⟨id, 33152, [⟨name, kind, 1⟩], l.take 3, [], []⟩ (askM id name kind) ca cq
  have s4 := c_abatisref09_Same ⟨id, 33152, [⟨name, kind, 1⟩], l.take 3, [], []⟩ (askM id name kind) ca cq
  generalize sameM ⟨id, 33152, [⟨name, kind, 1⟩], l.take 3, [], []⟩ (askM id name kind) = sb at *
  have hta : List.take 3 (rcsV l) = rcsV (l.take 3) := by simp [rcsV, List.map_take]
  have hmq : msV (askM id name kind) = .agg [.int .i64 id, .int .i64 256, .sl 3 [quV ⟨name, kind, 1⟩], .sl 23 [], .sl 23 [], .sl 23 []] := rfl
  have hma : msV ⟨id, 33152, [⟨name, kind, 1⟩], l.take 3, [], []⟩ = .agg [.int .i64 id, .int .i64 33152, .sl 3 [quV ⟨name, kind, 1⟩], .sl 23 (rcsV (l.take 3)), .sl 23 [], .sl 23 []] := rfl
  have hma2 : msV ⟨(askM id name kind).id, 33152, (askM id name kind).qs, l.take 3, [], []⟩ = .agg [.int .i64 id, .int .i64 33152, .sl 3 [quV ⟨name, kind, 1⟩], .sl 23 (rcsV (l.take 3)), .sl 23 [], .sl 23 []] := rfl
  rw [hma2, hmq] at hAn
  rw [hmq] at hA s1 s3 s4
  rw [hma] at s2 s3 s4
  clear main
  refine scall_of (ord := fun _ => []) (rs := [8]) Try.func6 rfl (by kernel_rfl) (by kernel_rfl) (by kernel_rfl) Try.ntmps6 fun hb hargs => go 12 (fun _ => false) mixed ?_
  by_cases h3 : 3 < l.length
  · have h3i : (3 : Int) < (l.length : Nat) := by omega
    simp (disch := omega) only [↓reduceIte, go_sem, h3, h3i, hta] <;> repeat with_reducible refine And.intro (by first | omega | decide) ?_
    refine go 200 (fun _ => false) mixed ?_
    simp (disch := omega) only [↓reduceIte, go_sem, h3, h3i, hta] <;> repeat with_reducible refine And.intro (by first | omega | decide) ?_
    refine hA.on (go 200 (fun _ => false) mixed ?_)
    simp (disch := omega) only [↓reduceIte, go_sem] <;> repeat with_reducible refine And.intro (by first | omega | decide) ?_
    refine hAn.on (go 200 (fun _ => false) mixed ?_)
    simp (disch := omega) only [↓reduceIte, go_sem] <;> repeat with_reducible refine And.intro (by first | omega | decide) ?_
    refine s1.onq (go 200 (fun _ => false) mixed ?_)
    simp (disch := omega) only [↓reduceIte, go_sem] <;> repeat with_reducible refine And.intro (by first | omega | decide) ?_
    refine s2.onq (go 200 (fun _ => false) mixed ?_)
    simp (disch := omega) only [↓reduceIte, go_sem] <;> repeat with_reducible refine And.intro (by first | omega | decide) ?_
    refine s3.onq (go 200 (fun _ => false) mixed ?_)
    simp (disch := omega) only [↓reduceIte, go_sem] <;> repeat with_reducible refine And.intro (by first | omega | decide) ?_
    refine s4.onq (go 200 (fun _ => false) mixed ?_)
    simp (disch := omega) only [↓reduceIte, go_sem] <;> repeat with_reducible refine And.intro (by first | omega | decide) ?_
    refine (hL _).onq (go 200 (fun _ => false) mixed ?_)
    simp (disch := omega) only [↓reduceIte, go_sem] <;> repeat with_reducible refine And.intro (by first | omega | decide) ?_
    exact fin_drop (.inr rfl) hb rfl (by simp)
  · have e3 : l.take 3 = l := List.take_of_length_le (by omega)
    rw [e3] at hAn s2 s3 s4
    have h3i : ¬ (3 : Int) < (l.length : Nat) := by omega
    simp (disch := omega) only [↓reduceIte, go_sem, h3, h3i] <;> repeat with_reducible refine And.intro (by first | omega | decide) ?_
    refine go 200 (fun _ => false) mixed ?_
    simp (disch := omega) only [↓reduceIte, go_sem, h3, h3i] <;> repeat with_reducible refine And.intro (by first | omega | decide) ?_
    refine hA.on (go 200 (fun _ => false) mixed ?_)
    simp (disch := omega) only [↓reduceIte, go_sem] <;> repeat with_reducible refine And.intro (by first | omega | decide) ?_
    refine hAn.on (go 200 (fun _ => false) mixed ?_)
    simp (disch := omega) only [↓reduceIte, go_sem] <;> repeat with_reducible refine And.intro (by first | omega | decide) ?_
    refine s1.onq (go 200 (fun _ => false) mixed ?_)
    simp (disch := omega) only [↓reduceIte, go_sem] <;> repeat with_reducible refine And.intro (by first | omega | decide) ?_
    refine s2.onq (go 200 (fun _ => false) mixed ?_)
    simp (disch := omega) only [↓reduceIte, go_sem] <;> repeat with_reducible refine And.intro (by first | omega | decide) ?_
    refine s3.onq (go 200 (fun _ => false) mixed ?_)
    simp (disch := omega) only [↓reduceIte, go_sem] <;> repeat with_reducible refine And.intro (by first | omega | decide) ?_
    refine s4.onq (go 200 (fun _ => false) mixed ?_)
    simp (disch := omega) only [↓reduceIte, go_sem] <;> repeat with_reducible refine And.intro (by first | omega | decide) ?_
    refine (hL _).onq (go 200 (fun _ => false) mixed ?_)
    simp (disch := omega) only [↓reduceIte, go_sem] <;> repeat with_reducible refine And.intro (by first | omega | decide) ?_
    exact fin_drop (.inr rfl) hb rfl (by simp)
end Go.Proofs.GoC
