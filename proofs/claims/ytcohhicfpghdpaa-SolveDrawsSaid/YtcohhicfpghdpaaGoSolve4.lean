/-
  What the functions compute: a solver's lookups begin. No claim by itself.
-/
import Derived.Test.YtcohhicfpghdpaaGoSolve3
namespace Go.Proofs.GoC
open Go Go.Proofs.SL
set_option linter.unusedSimpArgs false
set_option linter.unusedVariables false
set_option maxRecDepth 10000
set_option maxHeartbeats 4000000

/-- A solver whose list may grow. -/
structure SvT (H : Heap) (i ic im j vj : Nat) (c : SCfg) (many : Int) (L : List Nat) : Prop where
  own : H[i]? = some (some (.cells 0 [.ptr ic 0 0, .int .i64 c.sv, .int .i64 c.tr, .int .i64 c.wt, .int .i64 c.rm, .buf j vj 0 L.length 1 true, .int .i64 many]))
  cache : H[ic]? = some (some (.cells 0 [.int .i64 c.rm, .mp im]))
  map : H[im]? = some (some (.map []))
  arr : H[j]? = some (some (.cells vj (ptrsV L)))
  nodup : L.Nodup
  lks : ∀ p ∈ L, ∃ x : Lk, H[p]? = some (some (.cells 0 (lkC x))) ∧ p ≠ j
  ji : j ≠ i
  ici : ic ≠ i
  imi : im ≠ i
  icj : ic ≠ j
  imj : im ≠ j

theorem SvAt.tight {H : Heap} {i ic im : Nat} {s : PV} {c : SCfg} {many : Int} {L : List Nat} (h : SvAt H i ic im s c many L) :
    ∃ K j vj, (∀ H0 σ, Ghost H0 σ H σ K) ∧ SvT K i ic im j vj c many L ∧ Keeps (i :: bufN s) H K ∧ (j ∈ bufN s ∨ H.length ≤ j) := by
  have hb0 := h.bnd
  have hil := lt_of_get h.own
  rcases h.arr with ⟨rfl, rfl⟩ | ⟨j, vj, n, rfl, h2, h3, h4⟩
  · refine ⟨_, H.length, 0, fun H0 σ => Ghost.growCell (i := i) (ver := 0) 5 1 h.own rfl, ⟨?_, ?_, ?_, ?_, List.nodup_nil, by simp, by have := hb0.i; omega, h.ne_ic, h.ne_im, by have := hb0.ic; omega, by have := hb0.im; omega⟩, (Keeps.setF (by simp)).trans Keeps.app, .inr (Nat.le_refl _)⟩
    · rw [get_set_app hil, get_set_self hil]; rfl
    · rw [get_set_app hb0.ic, get_set_ne h.ne_ic.symm]; exact h.cache
    · rw [get_set_app hb0.im, get_set_ne h.ne_im.symm]; exact h.map
    · rw [get_tail0s]; rfl
  · have hjl := lt_of_get h2
    have hlk : ∀ p ∈ L, ∃ x : Lk, H[p]? = some (some (.cells 0 (lkC x))) ∧ p ≠ j := fun p hp => by
      obtain ⟨x, hx⟩ := h.lks p hp
      exact ⟨x, hx, h.lk_b hx j (by simp [bufN])⟩
    by_cases hn : n = 0
    · subst hn
      have e0 : ptrsV L ++ nilsV 0 = ptrsV L := List.append_nil _
      rw [e0] at h2
      exact ⟨H, j, vj, fun H0 σ => Ghost.refl, ⟨h.own, h.cache, h.map, h2, h.nodup, hlk, h4, h.ne_ic, h.ne_im, h.ic_b j (by simp [bufN]), h.im_b j (by simp [bufN])⟩, Keeps.refl, .inl (by simp [bufN])⟩
    · have hct : ∀ H0 σ, Ghost H0 σ H σ _ := fun H0 σ => Ghost.cutCell (H0 := H0) (σ := σ) 5 h.own rfl h2 h4.symm (by rw [List.length_append, ptrsV_len]; simp only [nilsV, List.length_replicate]; omega)
      have e1 : (ptrsV L ++ nilsV n).take (L.length * 1) = ptrsV L := by
        rw [Nat.mul_one, List.take_append_of_le_length (by rw [ptrsV_len]; exact Nat.le_refl _)]
        exact List.take_of_length_le (by rw [ptrsV_len]; exact Nat.le_refl _)
      simp only [e1] at hct
      refine ⟨_, j, vj + 1, hct, ⟨?_, ?_, ?_, ?_, h.nodup, fun p hp => ?_, h4, h.ne_ic, h.ne_im, h.ic_b j (by simp [bufN]), h.im_b j (by simp [bufN])⟩, (Keeps.setF (by simp [bufN])).trans (Keeps.setF (by simp)), .inl (by simp [bufN])⟩
      · rw [get_set_self (by simpa using hil)]; rfl
      · rw [get_set_ne h.ne_ic.symm, get_set_ne (h.ic_b j (by simp [bufN])).symm]; exact h.cache
      · rw [get_set_ne h.ne_im.symm, get_set_ne (h.im_b j (by simp [bufN])).symm]; exact h.map
      · rw [get_set_ne h4.symm, get_set_self hjl]
      · obtain ⟨x, hx, hpj⟩ := hlk p hp
        exact ⟨x, by rw [get_set_ne (h.lk_i hx).symm, get_set_ne hpj.symm]; exact hx, hpj⟩

def ordST : Nat → List Nat
  | 4 => [0, 1, 2, 4, 5, 9, 4, 3, 6, 7, 8, 6, 3, 7, 8]
  | 7 => [0, 1, 2, 4, 5, 6, 7, 11, 4, 3, 8, 9, 10, 8, 3, 9, 10]
  | 9 => [0, 1, 2, 4, 5, 9, 4, 3, 6, 7, 8, 6, 3, 7, 8]
  | 11 => [0, 1, 2, 4, 5, 6, 7, 8, 12, 4, 3, 9, 10, 11, 9, 3, 10, 11]
  | _ => []
theorem ordST_9 : ordST 9 = [0, 1, 2, 4, 5, 9, 4, 3, 6, 7, 8, 6, 3, 7, 8] := rfl
theorem ordST_11 : ordST 11 = [0, 1, 2, 4, 5, 6, 7, 8, 12, 4, 3, 9, 10, 11, 9, 3, 10, 11] := rfl

theorem start_ok {H : Heap} {i ic im : Nat} {s : PV} {c : SCfg} {many : Int} {L : List Nat} (h : SvAt H i ic im s c many L) (hl : L.length < 16) (hw1 : 1 ≤ c.wt) (hw2 : c.wt ≤ 1000) (m1 : 0 ≤ many) (m2 : many ≤ 1000000)
    (nm : List UInt8) (hnl : nm.length < 1000) (hn0 : nm ≠ []) (hmay : mayN nm = true) (kind : Int) (hk : kind = 1 ∨ kind = 28) (d now : Int) (d1 : -9223372036854775808 ≤ d) (d2 : d ≤ 9223372036854775807) (n1 : 0 ≤ now) (n2 : now ≤ 1000000000) :
    SCall Try.prog 7 [.ptr i 0 0, .str (bs nm), .int .i64 kind, .int .i64 d, .int .i64 now] H fun r H' => r = .tup [.int .i64 many, .agg (evC 0 many (aroundF d 65536 : Nat) nm kind 0 0)] ∧
      ∃ p s', SvAt H' i ic im s' c (many + 1) (L ++ [p]) ∧ H'[p]? = some (some (.cells 0 (lkC ⟨many, 0, now + c.wt, 0, 604800, nm, (aroundF d 65536 : Nat), nm, kind, 0⟩))) ∧ H.length ≤ p ∧ Keeps (i :: bufN s) H H' ∧ (∀ j ∈ bufN s', j ∈ bufN s ∨ H.length ≤ j) := by
  obtain ⟨K, j, vj, hG, hT, hHK, hjs⟩ := h.tight
  have hb0 := h.bnd
  have hKl : H.length ≤ K.length := hHK.1
  have oc := obj_of hT.own
  have hi := lt_of_get hT.own
  have oj := obj_of hT.arr
  have hj := lt_of_get hT.arr
  have hji := hT.ji
  have hw : IntKind.i64.wrap (many + 1) = many + 1 := w64 (by omega) (by omega)
  have hne : (bs nm = bs []) = False := eq_false fun e => hn0 (bs_inj.mp e)
  have hMay := c_label_May nm (by omega)
  rw [hmay] at hMay
  refine scall_ofd (ord := ordST) (tdOf_ok _) (rs := [.tmp 10, .cell 11 32]) Try.func7 rfl (by kernel_rfl) (by kernel_rfl) (by kernel_rfl) Try.ntmps7 fun hb hargs => ?_
  refine Runs.ghost (by rfl) (hG _ _) ?_
  refine go 200 (fun _ => false) mixed ?_
  simp (disch := omega) only [↓reduceIte, go_sem, oc, hw, hne] <;> repeat with_reducible refine And.intro (by first | omega | decide) ?_
  refine hMay.on (go 200 (fun _ => false) mixed ?_)
  have hkk : ¬ (kind ≠ 1 ∧ kind ≠ 28) := by omega
  have ho2 : (K.set i (some (.cells 0 [.ptr ic 0 0, .int .i64 c.sv, .int .i64 c.tr, .int .i64 c.wt, .int .i64 c.rm, .buf j vj 0 L.length 1 true, .int .i64 (many + 1)])))[i]? = some (some (.cells 0 [.ptr ic 0 0, .int .i64 c.sv, .int .i64 c.tr, .int .i64 c.wt, .int .i64 c.rm, .buf j vj 0 L.length 1 true, .int .i64 (many + 1)])) := get_set_self hi
  have hc2 : (K.set i (some (.cells 0 [.ptr ic 0 0, .int .i64 c.sv, .int .i64 c.tr, .int .i64 c.wt, .int .i64 c.rm, .buf j vj 0 L.length 1 true, .int .i64 (many + 1)])))[ic]? = some (some (.cells 0 [.int .i64 c.rm, .mp im])) := by rw [get_set_ne hT.ici.symm]; exact hT.cache
  have hm2 : (K.set i (some (.cells 0 [.ptr ic 0 0, .int .i64 c.sv, .int .i64 c.tr, .int .i64 c.wt, .int .i64 c.rm, .buf j vj 0 L.length 1 true, .int .i64 (many + 1)])))[im]? = some (some (.map [])) := by rw [get_set_ne hT.imi.symm]; exact hT.map
  have ha2 : (K.set i (some (.cells 0 [.ptr ic 0 0, .int .i64 c.sv, .int .i64 c.tr, .int .i64 c.wt, .int .i64 c.rm, .buf j vj 0 L.length 1 true, .int .i64 (many + 1)])))[j]? = some (some (.cells vj (ptrsV L))) := by rw [get_set_ne hT.ji.symm]; exact hT.arr
  have hl2 : ∀ p ∈ L, ∃ x : Lk, (K.set i (some (.cells 0 [.ptr ic 0 0, .int .i64 c.sv, .int .i64 c.tr, .int .i64 c.wt, .int .i64 c.rm, .buf j vj 0 L.length 1 true, .int .i64 (many + 1)])))[p]? = some (some (.cells 0 (lkC x))) ∧ p ≠ j ∧ p ≠ i := fun p hp => by
    obtain ⟨x, hx, hpj⟩ := hT.lks p hp
    have hpi : p ≠ i := fun e => by have := hT.own; rw [← e, hx] at this; simp [lkC] at this
    exact ⟨x, by rw [get_set_ne hpi.symm]; exact hx, hpj, hpi⟩
  have hK2 : Keeps [i] K (K.set i (some (.cells 0 [.ptr ic 0 0, .int .i64 c.sv, .int .i64 c.tr, .int .i64 c.wt, .int .i64 c.rm, .buf j vj 0 L.length 1 true, .int .i64 (many + 1)]))) := Keeps.setF (by simp)
  have hkl : (K.set i (some (.cells 0 [.ptr ic 0 0, .int .i64 c.sv, .int .i64 c.tr, .int .i64 c.wt, .int .i64 c.rm, .buf j vj 0 L.length 1 true, .int .i64 (many + 1)]))).length = K.length := by simp
  have hl16 : ¬ (16 : Int) ≤ L.length := by omega
  have hl16n : ¬ 16 ≤ L.length := by omega
  by_cases hk1 : kind = 1
  · subst hk1
    simp (disch := omega) only [↓reduceIte, go_sem, oc] <;> repeat with_reducible refine And.intro (by first | omega | decide) ?_
    rw [← hkl]
    generalize K.set i (some (.cells 0 [.ptr ic 0 0, .int .i64 c.sv, .int .i64 c.tr, .int .i64 c.wt, .int .i64 c.rm, .buf j vj 0 L.length 1 true, .int .i64 (many + 1)])) = K2 at *
    refine (get_none (get_app hc2) (get_app hm2) nm (by omega) _ now).mono fun r H4 ⟨e1, e2⟩ => ?_
    rw [e1, e2]
    have oc2 := obj_of ho2
    have oj2 := obj_of ha2
    have li2 := lt_of_get ho2
    have lj2 := lt_of_get ha2
    refine go 200 (fun _ => false) mixed ?_
    simp (disch := omega) only [↓reduceIte, go_sem, oc2, oj2, hl16, hl16n, most, ordST_11] <;> repeat with_reducible refine And.intro (by first | omega | decide) ?_
    generalize hN : K2.length = N
    have hK4l : ((K2.set j (some (.cells (vj + 1) (ptrsV L ++ [.ptr (N + 1) 0 0])))).set i (some (.cells 0 [.ptr ic 0 0, .int .i64 c.sv, .int .i64 c.tr, .int .i64 c.wt, .int .i64 c.rm, .buf j (vj + 1) 0 (L.length + 1) 1 true, .int .i64 (many + 1)]))).length = N := by simp [hN]
    have ho4 : ((K2.set j (some (.cells (vj + 1) (ptrsV L ++ [.ptr (N + 1) 0 0])))).set i (some (.cells 0 [.ptr ic 0 0, .int .i64 c.sv, .int .i64 c.tr, .int .i64 c.wt, .int .i64 c.rm, .buf j (vj + 1) 0 (L.length + 1) 1 true, .int .i64 (many + 1)])))[i]? = some (some (.cells 0 [.ptr ic 0 0, .int .i64 c.sv, .int .i64 c.tr, .int .i64 c.wt, .int .i64 c.rm, .buf j (vj + 1) 0 (L.length + 1) 1 true, .int .i64 (many + 1)])) := get_set_self (by simpa using li2)
    have ha4 : ((K2.set j (some (.cells (vj + 1) (ptrsV L ++ [.ptr (N + 1) 0 0])))).set i (some (.cells 0 [.ptr ic 0 0, .int .i64 c.sv, .int .i64 c.tr, .int .i64 c.wt, .int .i64 c.rm, .buf j (vj + 1) 0 (L.length + 1) 1 true, .int .i64 (many + 1)])))[j]? = some (some (.cells (vj + 1) (ptrsV L ++ [.ptr (N + 1) 0 0]))) := by rw [get_set_ne hji.symm, get_set_self lj2]
    have hk4 : Keeps [i, j] K2 ((K2.set j (some (.cells (vj + 1) (ptrsV L ++ [.ptr (N + 1) 0 0])))).set i (some (.cells 0 [.ptr ic 0 0, .int .i64 c.sv, .int .i64 c.tr, .int .i64 c.wt, .int .i64 c.rm, .buf j (vj + 1) 0 (L.length + 1) 1 true, .int .i64 (many + 1)]))) := (Keeps.setF (by simp)).trans (Keeps.setF (by simp))
    generalize (K2.set j (some (.cells (vj + 1) (ptrsV L ++ [.ptr (N + 1) 0 0])))).set i (some (.cells 0 [.ptr ic 0 0, .int .i64 c.sv, .int .i64 c.tr, .int .i64 c.wt, .int .i64 c.rm, .buf j (vj + 1) 0 (L.length + 1) 1 true, .int .i64 (many + 1)])) = K4 at *
    subst hK4l
    let x0 : Lk := ⟨many, 0, 0, 0, 604800, nm, 0, [], 1, 0⟩
    have hS : SvAt (K4 ++ [some (.cells 0 [.int .i64 0, .int .i64 0, .int .i64 0, .str (bs []), .int .i64 0, .int .i64 0, .nils, .int .i64 0]), some (.cells 0 (lkC x0))]) i ic im (.buf j (vj + 1) 0 (L ++ [K4.length + 1]).length 1 true) c (many + 1) (L ++ [K4.length + 1]) := by
      have hll : (L ++ [K4.length + 1]).length = L.length + 1 := by simp
      refine ⟨?_, ?_, ?_, .inr ⟨j, vj + 1, 0, rfl, ?_, by omega, hji⟩, ?_, fun q hq => ?_⟩
      · rw [hll]; exact get_app ho4
      · exact get_app (hk4.get hc2 (by simp [hT.ici, hT.icj]))
      · exact get_app (hk4.get hm2 (by simp [hT.imi, hT.imj]))
      · rw [ptrsV_app]
        simp only [nilsV, List.replicate_zero, List.append_nil]
        exact get_app ha4
      · rw [List.nodup_append]
        refine ⟨hT.nodup, by simp, fun q hq r hr => ?_⟩
        simp only [List.mem_singleton] at hr
        obtain ⟨x, hx, _⟩ := hl2 q hq
        have := lt_of_get hx
        omega
      · rcases List.mem_append.mp hq with hq | hq
        · obtain ⟨x, hx, hqj, hqi⟩ := hl2 q hq
          exact ⟨x, get_app (hk4.get hx (by simp [hqj, hqi]))⟩
        · simp only [List.mem_singleton] at hq
          subst hq
          exact ⟨x0, by rw [get_tail]; rfl⟩
    have hp0 : (K4 ++ [some (.cells 0 [.int .i64 0, .int .i64 0, .int .i64 0, .str (bs []), .int .i64 0, .int .i64 0, .nils, .int .i64 0]), some (.cells 0 (lkC x0))])[K4.length + 1]? = some (some (.cells 0 (lkC x0))) := by rw [get_tail]; rfl
    have hsend := c_solve_Solver_send hS hw1 hw2 hp0 nm 0 d now d1 d2 n1 n2
    have hend : ∀ H5 : Heap, Keeps [K4.length + 1] (K4 ++ [some (.cells 0 [.int .i64 0, .int .i64 0, .int .i64 0, .str (bs []), .int .i64 0, .int .i64 0, .nils, .int .i64 0]), some (.cells 0 (lkC x0))]) H5 → H5[K4.length]? = some (some (.cells 0 [.int .i64 0, .int .i64 0, .int .i64 0, .str (bs []), .int .i64 0, .int .i64 0, .nils, .int .i64 0])) := fun H5 k5 =>
      k5.get (by rw [get_tail0]; rfl) (by simp)
    have hfin : ∀ (H5 : Heap) (X : Option OB), H5[K4.length + 1]? = some (some (.cells 0 (lkC ⟨many, 0, now + c.wt, 0, 604800, nm, (aroundF d 65536 : Nat), nm, 1, 0⟩))) → Keeps [K4.length + 1] (K4 ++ [some (.cells 0 [.int .i64 0, .int .i64 0, .int .i64 0, .str (bs []), .int .i64 0, .int .i64 0, .nils, .int .i64 0]), some (.cells 0 (lkC x0))]) H5 →
        SvAt H5 i ic im (.buf j (vj + 1) 0 (L ++ [K4.length + 1]).length 1 true) c (many + 1) (L ++ [K4.length + 1]) →
        ∃ p s', SvAt (H5.set K4.length X) i ic im s' c (many + 1) (L ++ [p]) ∧ (H5.set K4.length X)[p]? = some (some (.cells 0 (lkC ⟨many, 0, now + c.wt, 0, 604800, nm, (aroundF d 65536 : Nat), nm, 1, 0⟩))) ∧ H.length ≤ p ∧ Keeps (i :: bufN s) H (H5.set K4.length X) ∧ (∀ j ∈ bufN s', j ∈ bufN s ∨ H.length ≤ j) := fun H5 X hp5 k5 hs5 => by
      have bi := lt_of_get ho4
      have bc := lt_of_get (hk4.get hc2 (by simp [hT.ici, hT.icj]))
      have bm := lt_of_get (hk4.get hm2 (by simp [hT.imi, hT.imj]))
      have bj := lt_of_get ha4
      refine ⟨K4.length + 1, _, hs5.keep (Keeps.setF (i := K4.length) (F := [K4.length]) (by simp)) (by simp; omega) (by simp; omega) (by simp; omega) (fun j' hj' => by simp only [bufN, List.mem_singleton] at hj' ⊢; omega) (fun q hq hm => ?_), by rw [get_set_ne (by omega)]; exact hp5, by omega, ?_, fun j' hj' => ?_⟩
      · simp only [List.mem_singleton] at hm
        rcases List.mem_append.mp hq with hq | hq
        · obtain ⟨x, hx, _⟩ := hl2 q hq
          have := lt_of_get hx
          omega
        · simp only [List.mem_singleton] at hq
          omega
      · have k : Keeps (i :: j :: K4.length :: (K4.length + 1) :: bufN s) H (H5.set K4.length X) :=
          (hHK.mono (by intro q hq; refine .inl ?_; simp only [List.mem_cons] at hq ⊢; rcases hq with hq | hq <;> simp [hq])).trans ((hK2.mono (by simp)).trans ((hk4.mono (by simp)).trans (Keeps.app.trans ((k5.mono (by simp)).trans (Keeps.setF (by simp))))))
        refine k.mono fun q hq => ?_
        simp only [List.mem_cons] at hq ⊢
        rcases hq with hq | hq | hq | hq | hq
        · exact .inl (.inl hq)
        · subst hq
          rcases hjs with h | h
          · exact .inl (.inr h)
          · exact .inr h
        · exact .inr (by omega)
        · exact .inr (by omega)
        · exact .inl (.inr hq)
      · simp only [bufN, List.mem_singleton] at hj'
        subst hj'
        exact hjs
    refine runs_fork (l1 := [3, 9, 10, 11]) (l2 := [9, 3, 10, 11]) rfl rfl (go 200 (fun _ => false) mixed ?_) (go 200 (fun _ => false) mixed ?_)
    · simp (disch := omega) only [↓reduceIte, go_sem] <;> repeat with_reducible refine And.intro (by first | omega | decide) ?_
      refine hsend.mono fun r H5 ⟨e5, hp5, k5, hs5⟩ => ?_
      rw [e5]
      have og := obj_of (hend H5 k5)
      have op5 := obj_of hp5
      have lg := lt_of_get (hend H5 k5)
      refine go 200 (fun _ => false) mixed ?_
      simp (disch := omega) only [↓reduceIte, go_sem, og, op5, lkC, evC] <;> repeat with_reducible refine And.intro (by first | omega | decide) ?_
      exact EndsD.same (.inr rfl) (r := .tup [.int .i64 many, .agg (evC 0 many (aroundF d 65536 : Nat) nm 1 0 0)]) (by (simp (disch := omega) only [↓reduceIte, go_sem] <;> repeat with_reducible refine And.intro (by first | omega | decide) ?_); rfl) ⟨rfl, hfin H5 _ hp5 k5 hs5⟩
    · simp (disch := omega) only [↓reduceIte, go_sem] <;> repeat with_reducible refine And.intro (by first | omega | decide) ?_
      refine hsend.mono fun r H5 ⟨e5, hp5, k5, hs5⟩ => ?_
      rw [e5]
      have og := obj_of (hend H5 k5)
      have op5 := obj_of hp5
      have lg := lt_of_get (hend H5 k5)
      refine go 200 (fun _ => false) mixed ?_
      simp (disch := omega) only [↓reduceIte, go_sem, og, op5, lkC, evC] <;> repeat with_reducible refine And.intro (by first | omega | decide) ?_
      exact EndsD.same (.inr rfl) (r := .tup [.int .i64 many, .agg (evC 0 many (aroundF d 65536 : Nat) nm 1 0 0)]) (by (simp (disch := omega) only [↓reduceIte, go_sem] <;> repeat with_reducible refine And.intro (by first | omega | decide) ?_); rfl) ⟨rfl, hfin H5 _ hp5 k5 hs5⟩
  · obtain rfl : kind = 28 := by omega
    simp (disch := omega) only [↓reduceIte, go_sem, oc] <;> repeat with_reducible refine And.intro (by first | omega | decide) ?_
    rw [← hkl]
    generalize K.set i (some (.cells 0 [.ptr ic 0 0, .int .i64 c.sv, .int .i64 c.tr, .int .i64 c.wt, .int .i64 c.rm, .buf j vj 0 L.length 1 true, .int .i64 (many + 1)])) = K2 at *
    refine (get_none (get_app hc2) (get_app hm2) nm (by omega) _ now).mono fun r H4 ⟨e1, e2⟩ => ?_
    rw [e1, e2]
    have oc2 := obj_of ho2
    have oj2 := obj_of ha2
    have li2 := lt_of_get ho2
    have lj2 := lt_of_get ha2
    refine go 200 (fun _ => false) mixed ?_
    simp (disch := omega) only [↓reduceIte, go_sem, oc2, oj2, hl16, hl16n, most, ordST_11] <;> repeat with_reducible refine And.intro (by first | omega | decide) ?_
    generalize hN : K2.length = N
    have hK4l : ((K2.set j (some (.cells (vj + 1) (ptrsV L ++ [.ptr (N + 1) 0 0])))).set i (some (.cells 0 [.ptr ic 0 0, .int .i64 c.sv, .int .i64 c.tr, .int .i64 c.wt, .int .i64 c.rm, .buf j (vj + 1) 0 (L.length + 1) 1 true, .int .i64 (many + 1)]))).length = N := by simp [hN]
    have ho4 : ((K2.set j (some (.cells (vj + 1) (ptrsV L ++ [.ptr (N + 1) 0 0])))).set i (some (.cells 0 [.ptr ic 0 0, .int .i64 c.sv, .int .i64 c.tr, .int .i64 c.wt, .int .i64 c.rm, .buf j (vj + 1) 0 (L.length + 1) 1 true, .int .i64 (many + 1)])))[i]? = some (some (.cells 0 [.ptr ic 0 0, .int .i64 c.sv, .int .i64 c.tr, .int .i64 c.wt, .int .i64 c.rm, .buf j (vj + 1) 0 (L.length + 1) 1 true, .int .i64 (many + 1)])) := get_set_self (by simpa using li2)
    have ha4 : ((K2.set j (some (.cells (vj + 1) (ptrsV L ++ [.ptr (N + 1) 0 0])))).set i (some (.cells 0 [.ptr ic 0 0, .int .i64 c.sv, .int .i64 c.tr, .int .i64 c.wt, .int .i64 c.rm, .buf j (vj + 1) 0 (L.length + 1) 1 true, .int .i64 (many + 1)])))[j]? = some (some (.cells (vj + 1) (ptrsV L ++ [.ptr (N + 1) 0 0]))) := by rw [get_set_ne hji.symm, get_set_self lj2]
    have hk4 : Keeps [i, j] K2 ((K2.set j (some (.cells (vj + 1) (ptrsV L ++ [.ptr (N + 1) 0 0])))).set i (some (.cells 0 [.ptr ic 0 0, .int .i64 c.sv, .int .i64 c.tr, .int .i64 c.wt, .int .i64 c.rm, .buf j (vj + 1) 0 (L.length + 1) 1 true, .int .i64 (many + 1)]))) := (Keeps.setF (by simp)).trans (Keeps.setF (by simp))
    generalize (K2.set j (some (.cells (vj + 1) (ptrsV L ++ [.ptr (N + 1) 0 0])))).set i (some (.cells 0 [.ptr ic 0 0, .int .i64 c.sv, .int .i64 c.tr, .int .i64 c.wt, .int .i64 c.rm, .buf j (vj + 1) 0 (L.length + 1) 1 true, .int .i64 (many + 1)])) = K4 at *
    subst hK4l
    let x0 : Lk := ⟨many, 0, 0, 0, 604800, nm, 0, [], 28, 0⟩
    have hS : SvAt (K4 ++ [some (.cells 0 [.int .i64 0, .int .i64 0, .int .i64 0, .str (bs []), .int .i64 0, .int .i64 0, .nils, .int .i64 0]), some (.cells 0 (lkC x0))]) i ic im (.buf j (vj + 1) 0 (L ++ [K4.length + 1]).length 1 true) c (many + 1) (L ++ [K4.length + 1]) := by
      have hll : (L ++ [K4.length + 1]).length = L.length + 1 := by simp
      refine ⟨?_, ?_, ?_, .inr ⟨j, vj + 1, 0, rfl, ?_, by omega, hji⟩, ?_, fun q hq => ?_⟩
      · rw [hll]; exact get_app ho4
      · exact get_app (hk4.get hc2 (by simp [hT.ici, hT.icj]))
      · exact get_app (hk4.get hm2 (by simp [hT.imi, hT.imj]))
      · rw [ptrsV_app]
        simp only [nilsV, List.replicate_zero, List.append_nil]
        exact get_app ha4
      · rw [List.nodup_append]
        refine ⟨hT.nodup, by simp, fun q hq r hr => ?_⟩
        simp only [List.mem_singleton] at hr
        obtain ⟨x, hx, _⟩ := hl2 q hq
        have := lt_of_get hx
        omega
      · rcases List.mem_append.mp hq with hq | hq
        · obtain ⟨x, hx, hqj, hqi⟩ := hl2 q hq
          exact ⟨x, get_app (hk4.get hx (by simp [hqj, hqi]))⟩
        · simp only [List.mem_singleton] at hq
          subst hq
          exact ⟨x0, by rw [get_tail]; rfl⟩
    have hp0 : (K4 ++ [some (.cells 0 [.int .i64 0, .int .i64 0, .int .i64 0, .str (bs []), .int .i64 0, .int .i64 0, .nils, .int .i64 0]), some (.cells 0 (lkC x0))])[K4.length + 1]? = some (some (.cells 0 (lkC x0))) := by rw [get_tail]; rfl
    have hsend := c_solve_Solver_send hS hw1 hw2 hp0 nm 0 d now d1 d2 n1 n2
    have hend : ∀ H5 : Heap, Keeps [K4.length + 1] (K4 ++ [some (.cells 0 [.int .i64 0, .int .i64 0, .int .i64 0, .str (bs []), .int .i64 0, .int .i64 0, .nils, .int .i64 0]), some (.cells 0 (lkC x0))]) H5 → H5[K4.length]? = some (some (.cells 0 [.int .i64 0, .int .i64 0, .int .i64 0, .str (bs []), .int .i64 0, .int .i64 0, .nils, .int .i64 0])) := fun H5 k5 =>
      k5.get (by rw [get_tail0]; rfl) (by simp)
    have hfin : ∀ (H5 : Heap) (X : Option OB), H5[K4.length + 1]? = some (some (.cells 0 (lkC ⟨many, 0, now + c.wt, 0, 604800, nm, (aroundF d 65536 : Nat), nm, 28, 0⟩))) → Keeps [K4.length + 1] (K4 ++ [some (.cells 0 [.int .i64 0, .int .i64 0, .int .i64 0, .str (bs []), .int .i64 0, .int .i64 0, .nils, .int .i64 0]), some (.cells 0 (lkC x0))]) H5 →
        SvAt H5 i ic im (.buf j (vj + 1) 0 (L ++ [K4.length + 1]).length 1 true) c (many + 1) (L ++ [K4.length + 1]) →
        ∃ p s', SvAt (H5.set K4.length X) i ic im s' c (many + 1) (L ++ [p]) ∧ (H5.set K4.length X)[p]? = some (some (.cells 0 (lkC ⟨many, 0, now + c.wt, 0, 604800, nm, (aroundF d 65536 : Nat), nm, 28, 0⟩))) ∧ H.length ≤ p ∧ Keeps (i :: bufN s) H (H5.set K4.length X) ∧ (∀ j ∈ bufN s', j ∈ bufN s ∨ H.length ≤ j) := fun H5 X hp5 k5 hs5 => by
      have bi := lt_of_get ho4
      have bc := lt_of_get (hk4.get hc2 (by simp [hT.ici, hT.icj]))
      have bm := lt_of_get (hk4.get hm2 (by simp [hT.imi, hT.imj]))
      have bj := lt_of_get ha4
      refine ⟨K4.length + 1, _, hs5.keep (Keeps.setF (i := K4.length) (F := [K4.length]) (by simp)) (by simp; omega) (by simp; omega) (by simp; omega) (fun j' hj' => by simp only [bufN, List.mem_singleton] at hj' ⊢; omega) (fun q hq hm => ?_), by rw [get_set_ne (by omega)]; exact hp5, by omega, ?_, fun j' hj' => ?_⟩
      · simp only [List.mem_singleton] at hm
        rcases List.mem_append.mp hq with hq | hq
        · obtain ⟨x, hx, _⟩ := hl2 q hq
          have := lt_of_get hx
          omega
        · simp only [List.mem_singleton] at hq
          omega
      · have k : Keeps (i :: j :: K4.length :: (K4.length + 1) :: bufN s) H (H5.set K4.length X) :=
          (hHK.mono (by intro q hq; refine .inl ?_; simp only [List.mem_cons] at hq ⊢; rcases hq with hq | hq <;> simp [hq])).trans ((hK2.mono (by simp)).trans ((hk4.mono (by simp)).trans (Keeps.app.trans ((k5.mono (by simp)).trans (Keeps.setF (by simp))))))
        refine k.mono fun q hq => ?_
        simp only [List.mem_cons] at hq ⊢
        rcases hq with hq | hq | hq | hq | hq
        · exact .inl (.inl hq)
        · subst hq
          rcases hjs with h | h
          · exact .inl (.inr h)
          · exact .inr h
        · exact .inr (by omega)
        · exact .inr (by omega)
        · exact .inl (.inr hq)
      · simp only [bufN, List.mem_singleton] at hj'
        subst hj'
        exact hjs
    refine runs_fork (l1 := [3, 9, 10, 11]) (l2 := [9, 3, 10, 11]) rfl rfl (go 200 (fun _ => false) mixed ?_) (go 200 (fun _ => false) mixed ?_)
    · simp (disch := omega) only [↓reduceIte, go_sem] <;> repeat with_reducible refine And.intro (by first | omega | decide) ?_
      refine hsend.mono fun r H5 ⟨e5, hp5, k5, hs5⟩ => ?_
      rw [e5]
      have og := obj_of (hend H5 k5)
      have op5 := obj_of hp5
      have lg := lt_of_get (hend H5 k5)
      refine go 200 (fun _ => false) mixed ?_
      simp (disch := omega) only [↓reduceIte, go_sem, og, op5, lkC, evC] <;> repeat with_reducible refine And.intro (by first | omega | decide) ?_
      exact EndsD.same (.inr rfl) (r := .tup [.int .i64 many, .agg (evC 0 many (aroundF d 65536 : Nat) nm 28 0 0)]) (by (simp (disch := omega) only [↓reduceIte, go_sem] <;> repeat with_reducible refine And.intro (by first | omega | decide) ?_); rfl) ⟨rfl, hfin H5 _ hp5 k5 hs5⟩
    · simp (disch := omega) only [↓reduceIte, go_sem] <;> repeat with_reducible refine And.intro (by first | omega | decide) ?_
      refine hsend.mono fun r H5 ⟨e5, hp5, k5, hs5⟩ => ?_
      rw [e5]
      have og := obj_of (hend H5 k5)
      have op5 := obj_of hp5
      have lg := lt_of_get (hend H5 k5)
      refine go 200 (fun _ => false) mixed ?_
      simp (disch := omega) only [↓reduceIte, go_sem, og, op5, lkC, evC] <;> repeat with_reducible refine And.intro (by first | omega | decide) ?_
      exact EndsD.same (.inr rfl) (r := .tup [.int .i64 many, .agg (evC 0 many (aroundF d 65536 : Nat) nm 28 0 0)]) (by (simp (disch := omega) only [↓reduceIte, go_sem] <;> repeat with_reducible refine And.intro (by first | omega | decide) ?_); rfl) ⟨rfl, hfin H5 _ hp5 k5 hs5⟩
end Go.Proofs.GoC
