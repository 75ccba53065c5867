/-
  What the functions compute: lists of pointers: found, taken out, cloned. No claim by itself.
-/
import Derived.Test.YtcohhicfpghdpaaGoLabel1
import Derived.Test.YtcohhicfpghdpaaGoMaps
import Derived.Test.YtcohhicfpghdpaaGoAround
import Derived.Test.YtcohhicfpghdpaaSlHp
namespace Go.Proofs.GoC
open Go Go.Proofs.SL
set_option linter.unusedSimpArgs false
set_option linter.unusedVariables false
set_option maxRecDepth 10000
set_option maxHeartbeats 4000000

section
variable {H L : Heap} {i j ver : Nat} {x y : Option OB}
@[go_sem] theorem obj_set_app (h : j < H.length) : obj (H.set i x ++ L) j ver = obj (H.set i x) j ver := by unfold obj; rw [List.getElem?_append_left (by rw [List.length_set]; exact h)]
@[go_sem] theorem get_set_app (h : j < H.length) : (H.set i x ++ L)[j]? = (H.set i x)[j]? := List.getElem?_append_left (by rw [List.length_set]; exact h)
@[go_sem] theorem set_set_app (h : j < H.length) : (H.set i x ++ L).set j y = (H.set i x).set j y ++ L := List.set_append_left _ _ (by rw [List.length_set]; exact h)
end

/-- Pointers, as cells hold them. -/
def ptrsV (L : List Nat) : List PV := L.map fun p => .ptr p 0 0
@[go_sem] theorem ptrsV_len {L : List Nat} : (ptrsV L).length = L.length := List.length_map ..
theorem ptrsV_app {L M : List Nat} : ptrsV (L ++ M) = ptrsV L ++ ptrsV M := List.map_append ..
theorem ptrsV_get {L : List Nat} {J : List PV} {k : Nat} (h : k < L.length) : (ptrsV L ++ J).getD k .any = .ptr (L.getD k 0) 0 0 := by
  rw [List.getD_eq_getElem?_getD, List.getElem?_append_left (by rw [ptrsV_len]; exact h)]
  simp [ptrsV, List.getD_eq_getElem?_getD, h]
theorem ptrsV_one {L : List Nat} : (ptrsV L).all PV.one = true := by simp [ptrsV, PV.one]

/-- Where a pointer stands. -/
def idxP (x : Nat) : List Nat → Int → Int
  | [], _ => -1
  | a :: l, i => if a = x then i else idxP x l (i + 1)
theorem idxP_no {x : Nat} : ∀ {L : List Nat} {i : Int}, x ∉ L → idxP x L i = -1
  | [], _, _ => rfl
  | a :: l, i, h => by
    rw [List.mem_cons, not_or] at h
    unfold idxP
    rw [if_neg (fun e => h.1 e.symm)]
    exact idxP_no h.2
theorem idxP_at {x : Nat} : ∀ {L : List Nat} {i : Int}, x ∈ L → ∃ k : Nat, idxP x L i = i + k ∧ L[k]? = some x
  | [], _, h => by cases h
  | a :: l, i, h => by
    unfold idxP
    by_cases e : a = x
    · rw [if_pos e]; exact ⟨0, by simp, by simp [e]⟩
    · rw [if_neg e]
      rcases List.mem_cons.mp h with h | h
      · exact absurd h.symm e
      · obtain ⟨k, h1, h2⟩ := idxP_at (i := i + 1) h
        exact ⟨k + 1, by rw [h1]; omega, by simpa using h2⟩
/-- A list without a pointer. -/
def remP (x : Nat) (L : List Nat) : List Nat := L.filter fun y => !decide (y = x)
theorem remP_not {x : Nat} {L : List Nat} (h : x ∉ L) : remP x L = L := List.filter_eq_self.mpr fun y hy => by
  have : y ≠ x := fun e => h (e ▸ hy)
  simp [this]
theorem remP_at {x : Nat} {L : List Nat} {k : Nat} (hn : L.Nodup) (h : L[k]? = some x) : remP x L = L.take k ++ L.drop (k + 1) := by
  have hk : k < L.length := (List.getElem?_eq_some_iff.mp h).1
  have e : L = L.take k ++ x :: L.drop (k + 1) := by
    have h2 : L[k] = x := (List.getElem?_eq_some_iff.mp h).2
    rw [← h2, ← List.drop_eq_getElem_cons hk, List.take_append_drop]
  have hn' := hn
  rw [e, List.nodup_append, List.nodup_cons] at hn'
  have h1 : x ∉ L.take k := fun hm => hn'.2.2 x hm x (List.mem_cons_self ..) rfl
  unfold remP
  conv => lhs; rw [e]
  rw [List.filter_append, List.filter_cons_of_neg (by simp)]
  congr 1
  · exact remP_not h1
  · exact remP_not hn'.2.1.1
theorem remP_nodup {x : Nat} {L : List Nat} (h : L.Nodup) : (remP x L).Nodup := h.sublist List.filter_sublist

theorem c_solve_Solver_over_1 {H : Heap} {bx x y : Nat} {cx cy : List PV} (hbx : H[bx]? = some (some (.cells 0 [.ptr x 0 0]))) (hx : H[x]? = some (some (.cells 0 cx))) (hy : H[y]? = some (some (.cells 0 cy))) :
    SCall Try.prog 28 [.ptr y 0 0, .ptr bx 0 0] H fun r H' => r = .bool (decide (y = x)) ∧ H' = H := by
  have o1 := obj_of hbx
  have o2 := obj_of hx
  have o3 := obj_of hy
  refine scall_of (ord := fun _ => []) (rs := [3]) Try.func28 rfl (by kernel_rfl) (by kernel_rfl) (by kernel_rfl) Try.ntmps28 fun hb hargs => go 200 (fun _ => false) mixed ?_
  simp (disch := omega) only [↓reduceIte, go_sem, o1, o2, o3] <;> repeat with_reducible refine And.intro (by first | omega | decide) ?_
  exact fin (by simp [retV]) rfl

theorem c_slices_IndexFunc_solve_lookup_solve_lookup {H : Heap} {f : Nat} {caps : List PV} {x : Nat} {L : List Nat} {s : PV} (hl : L.length < 1000002)
    (hs : (s = .nils ∧ L = []) ∨ ∃ j vj J, s = .buf j vj 0 L.length 1 true ∧ H[j]? = some (some (.cells vj (ptrsV L ++ J))))
    (hf : ∀ y ∈ L, SCall Try.prog f (.ptr y 0 0 :: caps) H fun r H' => r = .bool (decide (y = x)) ∧ H' = H) :
    SCall Try.prog 33 [s, .func (.func f) [] caps] H fun r H' => r = .int .i64 (idxP x L 0) ∧ H' = H := by
  refine scall_of (ord := fun _ => []) (rs := [4]) Try.func33 rfl (by kernel_rfl) (by kernel_rfl) (by kernel_rfl) Try.ntmps33 fun hb hargs => go 200 (fun _ => false) mixed ?_
  rcases hs with ⟨rfl, rfl⟩ | ⟨j, vj, J, rfl, hj⟩
  · simp (disch := omega) only [↓reduceIte, go_sem] <;> repeat with_reducible refine And.intro (by first | omega | decide) ?_
    refine runs_loopA (fun k : Nat => k = 0) (fun k => 0) [true, true, false, false, false, false, false, true, true]
      (fun k => slots 19 [.nils, .func (.func f) [] caps, .any, .any, .any, .any, .any, .int .i64 0, .int .i64 0]) (fun k => H) (by rfl) 0 rfl rfl rfl ?_
    rintro k rfl
    refine go 200 (fun _ => false) mixed ?_
    simp (disch := omega) only [↓reduceIte, go_sem] <;> repeat with_reducible refine And.intro (by first | omega | decide) ?_
    refine go 200 (fun _ => false) mixed ?_
    simp (disch := omega) only [↓reduceIte, go_sem] <;> repeat with_reducible refine And.intro (by first | omega | decide) ?_
    exact fin rfl rfl
  · have oj := obj_of hj
    simp (disch := omega) only [↓reduceIte, go_sem] <;> repeat with_reducible refine And.intro (by first | omega | decide) ?_
    refine runs_loopA (fun k : Nat => k ≤ L.length ∧ idxP x L 0 = idxP x (L.drop k) k) (fun k => L.length - k) [true, true, false, false, false, false, false, true, true]
      (fun k => slots 19 [.buf j vj 0 L.length 1 true, .func (.func f) [] caps, .any, .any, .any, .any, .any, .int .i64 L.length, .int .i64 k]) (fun k => H) (by rfl) 0 ⟨Nat.zero_le _, rfl⟩ rfl rfl ?_
    rintro k ⟨hk, hall⟩
    refine go 200 (fun _ => false) mixed ?_
    by_cases hlt : k < L.length
    · have hm : L.getD k 0 ∈ L := by rw [List.getD_eq_getElem?_getD, List.getElem?_eq_getElem hlt]; exact List.getElem_mem _
      rw [List.drop_eq_getElem_cons hlt, show L[k] = L.getD k 0 by simp [List.getD_eq_getElem?_getD, hlt], idxP] at hall
      have hpk := hf _ hm
      have hget := ptrsV_get (J := J) hlt
      have hcl : k < (ptrsV L ++ J).length := by rw [List.length_append, ptrsV_len]; omega
      simp (disch := omega) only [↓reduceIte, go_sem, hlt, hget, oj, hcl] <;> repeat with_reducible refine And.intro (by first | omega | decide) ?_
      refine hpk.mono fun r H1 ⟨e1, e2⟩ => ?_
      rw [e1, e2]
      refine go 200 (fun _ => false) mixed ?_
      by_cases hc : L.getD k 0 = x
      · rw [if_pos hc] at hall
        simp (disch := omega) only [↓reduceIte, go_sem, hlt, hget, hc] <;> repeat with_reducible refine And.intro (by first | omega | decide) ?_
        exact fin (by rw [hall]; rfl) rfl
      · rw [if_neg hc] at hall
        simp (disch := omega) only [↓reduceIte, go_sem, hlt, hget, hc] <;> repeat with_reducible refine And.intro (by first | omega | decide) ?_
        exact rnd_next (k + 1) ⟨by omega, by rw [hall]; rfl⟩ (by show L.length - (k + 1) < L.length - k; omega) rfl rfl
    · rw [List.drop_eq_nil_of_le (by omega), idxP] at hall
      simp (disch := omega) only [↓reduceIte, go_sem, hlt] <;> repeat with_reducible refine And.intro (by first | omega | decide) ?_
      refine go 200 (fun _ => false) mixed ?_
      simp (disch := omega) only [↓reduceIte, go_sem] <;> repeat with_reducible refine And.intro (by first | omega | decide) ?_
      exact fin (by rw [hall]; rfl) rfl

theorem set_same {H : Heap} {i : Nat} {x : Option OB} (h : H[i]? = some x) : H.set i x = H := by
  have hlt : i < H.length := (List.getElem?_eq_some_iff.mp h).1
  rw [List.getElem?_eq_getElem hlt, Option.some.injEq] at h
  rw [← h]; exact List.set_getElem_self hlt
/-- A list of pointers as it is made shorter: what stands behind goes one place ahead. -/
def delS (L M : List Nat) (m : Nat) : List Nat := M.take m ++ L.drop m
theorem delS_set {L M : List Nat} {m : Nat} (h1 : m < M.length) (h2 : m < L.length) {y : Nat} (hy : M[m]? = some y) : (delS L M m).set m y = delS L M (m + 1) := by
  have e1 : (M.take m).length = m := by rw [List.length_take]; omega
  unfold delS
  rw [List.set_append_right _ _ (by omega), e1, Nat.sub_self, List.drop_eq_getElem_cons h2, List.set_cons_zero, List.take_add_one, hy]
  simp
theorem ptrsV_set {L : List Nat} {J : List PV} {m y : Nat} (h : m < L.length) : (ptrsV L ++ J).set m (.ptr y 0 0) = ptrsV (L.set m y) ++ J := by
  rw [List.set_append_left _ _ (by rw [ptrsV_len]; exact h)]
  congr 1
  simp [ptrsV, List.map_set]

/-- The object of a slice. -/
def bufN : PV → List Nat
  | .buf j _ _ _ _ _ => [j]
  | _ => []
theorem c_slices_DeleteFunc_solve_lookup_solve_lookup {H : Heap} {f : Nat} {caps : List PV} {x : Nat} {L : List Nat} {s : PV} (hl : L.length < 1000002) (hn : L.Nodup)
    (hs : (s = .nils ∧ L = []) ∨ ∃ j vj J, s = .buf j vj 0 L.length 1 true ∧ H[j]? = some (some (.cells vj (ptrsV L ++ J))))
    (hf : ∀ j ∈ bufN s, ∀ Hc : Heap, Keeps [j] H Hc → ∀ y ∈ L, SCall Try.prog f (.ptr y 0 0 :: caps) Hc fun r H' => r = .bool (decide (y = x)) ∧ H' = Hc) :
    SCall Try.prog 27 [s, .func (.func f) [] caps] H fun r H' =>
      (x ∉ L ∧ r = s ∧ H' = H) ∨ (x ∈ L ∧ ∃ j vj J, s = .buf j vj 0 L.length 1 true ∧ H[j]? = some (some (.cells vj (ptrsV L ++ J))) ∧ r = .buf j vj 0 (remP x L).length 1 true ∧ H' = H.set j (some (.cells vj (ptrsV (remP x L) ++ (.nilp :: J))))) := by
  have hidx := c_slices_IndexFunc_solve_lookup_solve_lookup (H := H) (f := f) (caps := caps) (x := x) (L := L) (s := s) hl hs (fun y hy => by
    rcases hs with ⟨_, rfl⟩ | ⟨j, vj, J, rfl, hj⟩
    · cases hy
    · exact hf j (by simp [bufN]) H Keeps.refl y hy)
  by_cases hx : x ∈ L
  · obtain ⟨i, hi, hiL⟩ := idxP_at (i := 0) hx
    rw [show (0 : Int) + i = i by omega] at hi
    rw [hi] at hidx
    rcases hs with ⟨_, rfl⟩ | ⟨j, vj, J, rfl, hj⟩
    · cases hx
    have hil : i < L.length := (List.getElem?_eq_some_iff.mp hiL).1
    have hrem := remP_at hn hiL
    have hrl : (remP x L).length + 1 = L.length := by rw [hrem, List.length_append, List.length_take, List.length_drop]; omega
    have hjl := lt_of_get hj
    have hM : ∀ m, i ≤ m → m + 1 < L.length → (remP x L)[m]? = L[m + 1]? := fun m h1 h2 => by
      rw [hrem, List.getElem?_append_right (by rw [List.length_take]; omega), List.length_take, List.getElem?_drop]
      congr 1; omega
    have hst0 : delS L (remP x L) i = L := by
      unfold delS
      rw [hrem, List.take_append_of_le_length (by rw [List.length_take]; omega), List.take_take, Nat.min_self, List.take_append_drop]
    generalize remP x L = M at *
    refine scall_of (ord := fun _ => []) (rs := [4]) Try.func27 rfl (by kernel_rfl) (by kernel_rfl) (by kernel_rfl) Try.ntmps27 fun hb hargs => go 200 (fun _ => false) mixed ?_
    have hni : ¬ (i : Int) = -1 := by omega
    simp (disch := omega) only [↓reduceIte, go_sem] <;> repeat with_reducible refine And.intro (by first | omega | decide) ?_
    refine hidx.mono fun r H1 ⟨e1, e2⟩ => ?_
    rw [e1, e2]
    refine go 200 (fun _ => false) mixed ?_
    simp (disch := omega) only [↓reduceIte, go_sem, hni] <;> repeat with_reducible refine And.intro (by first | omega | decide) ?_
    refine runs_loopA (fun m : Nat => i ≤ m ∧ m + 1 ≤ L.length) (fun m => L.length - m) [true, true, false, false, false, true, true]
      (fun m => slots 42 [.buf j vj 0 L.length 1 true, .func (.func f) [] caps, .any, .any, .any, .int .i64 m, .int .i64 (m + 1 : Nat)]) (fun m => H.set j (some (.cells vj (ptrsV (delS L M m) ++ J)))) (by rfl) i ⟨Nat.le_refl _, by omega⟩ ?_ ?_ ?_
    · rfl
    · rw [hst0, set_same hj]
    rintro m ⟨hm1, hm2⟩
    refine go 200 (fun _ => false) mixed ?_
    have hdl : (delS L M m).length = L.length := by unfold delS; rw [List.length_append, List.length_take, List.length_drop]; omega
    have hdc : (ptrsV (delS L M m) ++ J).length = L.length + J.length := by rw [List.length_append, ptrsV_len, hdl]
    by_cases hlt : m + 1 < L.length
    · have hgm : (delS L M m).getD (m + 1) 0 = L.getD (m + 1) 0 := by
        unfold delS
        rw [List.getD_eq_getElem?_getD, List.getD_eq_getElem?_getD, List.getElem?_append_right (by rw [List.length_take]; omega), List.length_take, List.getElem?_drop]
        congr 2; omega
      have hget := ptrsV_get (J := J) (L := delS L M m) (k := m + 1) (by omega)
      rw [hgm] at hget
      have hy? : L[m + 1]? = some (L.getD (m + 1) 0) := by simp [List.getD_eq_getElem?_getD, hlt]
      have hyL : L.getD (m + 1) 0 ∈ L := List.mem_of_getElem? hy?
      have hyx : L.getD (m + 1) 0 ≠ x := fun e => by
        rw [e] at hy?
        refine List.pairwise_iff_getElem.mp hn i (m + 1) hil hlt (by omega) ?_
        rw [(List.getElem?_eq_some_iff.mp hiL).2, (List.getElem?_eq_some_iff.mp hy?).2]
      have hset := delS_set (L := L) (M := M) (m := m) (by omega) (by omega) ((hM m hm1 hlt).trans hy?)
      have hcall := hf j (by simp [bufN]) (H.set j (some (.cells vj (ptrsV (delS L M m) ++ J)))) (Keeps.setF (by simp)) _ hyL
      have hps := ptrsV_set (L := delS L M m) (J := J) (m := m) (y := L.getD (m + 1) 0) (by omega)
      generalize L.getD (m + 1) 0 = y at *
      have hlt' : ((m + 1 : Nat) : Int) < L.length := by omega
      simp (disch := omega) only [↓reduceIte, go_sem, hlt, hlt', hget, hdc] <;> repeat with_reducible refine And.intro (by first | omega | decide) ?_
      refine hcall.mono fun r H1 ⟨e1, e2⟩ => ?_
      rw [e1, e2]
      refine go 200 (fun _ => false) mixed ?_
      simp (disch := omega) only [↓reduceIte, go_sem, hyx, hdc] <;> repeat with_reducible refine And.intro (by first | omega | decide) ?_
      exact rnd_next (m + 1) ⟨by omega, by omega⟩ (by show L.length - (m + 1) < L.length - m; omega) rfl (by rw [hps, hset])
    · have hlt' : ¬ ((m + 1 : Nat) : Int) < L.length := by omega
      simp (disch := omega) only [↓reduceIte, go_sem, hlt, hlt'] <;> repeat with_reducible refine And.intro (by first | omega | decide) ?_
      refine go 200 (fun _ => false) mixed ?_
      simp (disch := omega) only [↓reduceIte, go_sem, hdc] <;> repeat with_reducible refine And.intro (by first | omega | decide) ?_
      obtain rfl : m = M.length := by omega
      have e0 : M.length - 0 = M.length := rfl
      have e1 : L.length - M.length = 1 := by omega
      have e2 : delS L M M.length = M ++ L.drop M.length := by unfold delS; rw [List.take_length]
      have e3 : (L.drop M.length).length = 1 := by rw [List.length_drop]; exact e1
      have e4 : List.take M.length (ptrsV (delS L M M.length) ++ J) = ptrsV M := by
        rw [e2, ptrsV_app, List.append_assoc, List.take_append_of_le_length (by rw [ptrsV_len]; exact Nat.le_refl _)]
        exact List.take_of_length_le (by rw [ptrsV_len]; exact Nat.le_refl _)
      have e5 : List.drop (M.length + 1) (ptrsV (delS L M M.length) ++ J) = J := by
        rw [List.drop_append_of_le_length (by rw [ptrsV_len, hdl]; omega), List.drop_eq_nil_of_le (by rw [ptrsV_len, hdl]; omega), List.nil_append]
      rw [e1, e4, e5]
      exact Ends.same (.inr rfl) (.inr ⟨hx, j, vj, J, rfl, hj, rfl, by simp [flat, PV.cells]⟩)
  · rw [idxP_no hx] at hidx
    refine scall_of (ord := fun _ => []) (rs := [4]) Try.func27 rfl (by kernel_rfl) (by kernel_rfl) (by kernel_rfl) Try.ntmps27 fun hb hargs => go 200 (fun _ => false) mixed ?_
    simp (disch := omega) only [↓reduceIte, go_sem] <;> repeat with_reducible refine And.intro (by first | omega | decide) ?_
    refine hidx.mono fun r H1 ⟨e1, e2⟩ => ?_
    rw [e1, e2]
    refine go 200 (fun _ => false) mixed ?_
    simp (disch := omega) only [↓reduceIte, go_sem] <;> repeat with_reducible refine And.intro (by first | omega | decide) ?_
    exact Ends.same (.inr rfl) (.inl ⟨hx, rfl, rfl⟩)
end Go.Proofs.GoC
