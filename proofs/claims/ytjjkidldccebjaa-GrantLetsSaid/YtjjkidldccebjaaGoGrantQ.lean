/-
  What the functions compute: a full book. No claim by itself.
-/
import Derived.Test.YtjjkidldccebjaaGoGrantO
import Derived.Test.YtjjkidldccebjaaGoGrantN
import Derived.Test.YtjjkidldccebjaaGoGrantI
namespace Go.Proofs.GoC
open Go Go.Proofs.SL
set_option linter.unusedSimpArgs false
set_option linter.unusedVariables false
set_option maxRecDepth 10000
set_option maxHeartbeats 4000000

theorem sorted_strict {ks : List OKey} (hn : (ks.map (·.1)).Nodup) (hs : ∀ a b, a < b → b < ks.length → ltOf (fun x y : OKey => cmpK x.1 y.1) (ks.getD b default) (ks.getD a default) = false) : (ks.map (·.1)).Pairwise ltK := by
  rw [List.pairwise_iff_getElem]
  intro i j hi hj hij
  rw [List.length_map] at hi hj
  have h := hs i j hij hj
  rw [show ks.getD i default = ks[i] by simp [List.getD_eq_getElem?_getD, hi], show ks.getD j default = ks[j] by simp [List.getD_eq_getElem?_getD, hj]] at h
  unfold ltOf at h
  simp only [decide_eq_false_iff_not] at h
  simp only [List.getElem_map]
  refine ltK_of_ge h fun e => ?_
  have := (List.pairwise_iff_getElem.mp hn) i j (by simpa using hi) (by simpa using hj) hij
  simp only [List.getElem_map] at this
  exact this e.symm

/-- A book's keys, where there is one: in the row. -/
theorem keys_row {H : Heap} {i j : Nat} {room : Int} {es : Grants} (h : BkAt H i j room es) (hn : (es.map (·.1)).Nodup) (hl : es.length < 1000000) (h0 : 0 < es.length) :
    SCall Try.prog 22 [.ptr i 0 0] H fun r H' =>
      ∃ (ks : List GKey) (ob ver : Nat), r = .buf ob ver 0 ks.length 24 true ∧ H'[ob]? = some (some (.cells ver (flat (ksW ks)))) ∧ ks.Perm (es.map (·.1)) ∧ ks.Pairwise ltK ∧ BkAt H' i j room es ∧ Keeps [j] H H' ∧ H.length ≤ ob :=
  (keys_some h hn hl h0).mono fun r H' ⟨ks, ob, ver, e1, e2, e3, e4, e5, e6, e7⟩ => ⟨ks.map (·.1), ob, ver, by rw [List.length_map]; exact e1, by rw [e2]; unfold ksW; rw [List.map_map]; rfl, e3, sorted_strict (e3.nodup_iff.mpr hn) e4, e5, e6, e7⟩

theorem key0_drop {k : GKey} (h : KeyOk k) : List.drop 24 (keyC k) = [] := List.drop_eq_nil_of_le (by rw [keyC_len h]; omega)

def ordMR : Nat → List Nat
  | 6 => [1005]
  | _ => []
theorem ordMR_6 : ordMR 6 = [1005] := rfl

theorem c_grant_Book_makeRoom {H : Heap} {i j : Nat} {room : Int} {es : Grants} (h : BkAt H i j room es) (hn : (es.map (·.1)).Nodup) (hl : es.length < 1000000) (h0 : 0 < es.length) (now : Int) :
    SCall Try.prog 31 [.ptr i 0 0, .int .i64 now] H fun r H' => ∃ es' g b, r = .tup [.agg (keyC g), .bool b] ∧ MkRoom es now es' g b ∧ KeyOk g ∧ BkAt H' i j room es' ∧ Keeps [j] H H' := by
  have hi := lt_of_get h.cell
  have hj := lt_of_get h.map
  have hne := h.ne
  have oc := obj_of h.cell
  have om := h.map
  have k0 := keyC_len key0_ok
  have k0d := key0_drop key0_ok
  have z0 := keyC_0
  refine scall_ofd (ord := ordMR) (tdOf_ok _) (rs := [.cell 4 30, .tmp 5]) Try.func31 rfl (by kernel_rfl) (by kernel_rfl) (by kernel_rfl) Try.ntmps31 fun hb hargs => go 200 (fun _ => false) mixed ?_
  simp (disch := omega) only [↓reduceIte, go_sem, oc, om, mapV_len] <;> repeat with_reducible refine And.intro (by first | omega | decide) ?_
  have hm : (H ++ [some (.cells 0 [.ptr i 0 0]), some (.cells 0 [.int .i64 now]), some (.cells 0 (keyC key0))])[j]? = some (some (.map (mapV keyV untV es))) := by rw [get_app_lt hj]; exact om
  have hij : H.length + 1 ≠ j := by omega
  refine (delfunc hm h.ok hn 43 [.ptr (H.length + 1) 0 0] (fun _ x => decide (x ≤ now)) (fun Hc hK k x hk => c_grant_Book_makeRoom_1 (hK.get (by rw [get_tail]; rfl) (by simpa using hij)) k hk x)).mono fun r H3 ⟨h3, hK3⟩ => ?_
  have hc3 : H3[i]? = some (some (.cells 0 [.int .i64 room, .mp j])) := hK3.get (by rw [get_app_lt hi]; exact h.cell) (by simpa using hne)
  have hb3 : H3[H.length]? = some (some (.cells 0 [.ptr i 0 0])) := hK3.get (by rw [get_tail0]; rfl) (by simp; omega)
  have hn3 : H3[H.length + 1]? = some (some (.cells 0 [.int .i64 now])) := hK3.get (by rw [get_tail]; rfl) (by simp; omega)
  have hr3 : H3[H.length + 2]? = some (some (.cells 0 (keyC key0))) := hK3.get (by rw [get_tail]; rfl) (by simp; omega)
  have oc3 := obj_of hc3
  have ob3 := obj_of hb3
  have on3 := obj_of hn3
  have or3 := obj_of hr3
  have hl3 := lt_of_get hr3
  have hj3 := lt_of_get h3
  have kk3 : Keeps [j] H H3 := (Keeps.app.trans hK3).mono (by simp)
  have hfl := List.length_filter_le (fun e : GKey × Int => !decide (e.2 ≤ now)) es
  refine go 200 (fun _ => false) mixed ?_
  by_cases hlt : (es.filter fun e : GKey × Int => !decide (e.2 ≤ now)).length < es.length
  · simp (disch := omega) only [↓reduceIte, go_sem, oc3, ob3, h3, mapV_len, hlt, or3, k0, k0d] <;> repeat with_reducible refine And.intro (by first | omega | decide) ?_
    refine EndsD.same (r := .tup [.agg (keyC key0), .bool false]) (.inr rfl) (by simp (disch := omega) only [↓reduceIte, go_sem, keyC_0] <;> repeat with_reducible refine And.intro (by first | omega | decide) ?_) ⟨_, key0, false, rfl, .inl ⟨rfl, hlt, rfl, rfl⟩, key0_ok, ⟨?_, ?_, fun e he => h.ok e (List.mem_filter.mp he).1⟩, ?_⟩
    · rw [get_set_ne (by omega)]; exact hc3
    · rw [get_set_ne (by omega)]; exact h3
    · exact ((kk3.mono (G := [j, H.length + 2]) (by simp)).trans (Keeps.setF (by simp))).mono (by simp)
  · have hfe : (es.filter fun e : GKey × Int => !decide (e.2 ≤ now)) = es := List.filter_sublist.eq_of_length (by omega)
    have hall : ∀ e ∈ es, now < e.2 := fun e he => by
      have := List.filter_eq_self.mp hfe e he
      simpa using this
    rw [hfe] at h3
    have hB3 : BkAt H3 i j room es := ⟨hc3, h3, h.ok⟩
    simp (disch := omega) only [↓reduceIte, go_sem, oc3, ob3, h3, mapV_len] <;> repeat with_reducible refine And.intro (by first | omega | decide) ?_
    refine (keys_row hB3 hn hl h0).mono fun r H4 ⟨ks, ob, ver, e1, hob, hp, hrow, hB4, k4, hobl⟩ => ?_
    rw [e1]
    have hkl : ks.length = es.length := by rw [hp.length_eq, List.length_map]
    have hko : ∀ k ∈ ks, KeyOk k := fun k hk => by
      obtain ⟨e, he, rfl⟩ := List.mem_map.mp (hp.mem_iff.mp hk)
      exact h.ok e he
    have hb4 : H4[H.length]? = some (some (.cells 0 [.ptr i 0 0])) := k4.get hb3 (by simp; omega)
    have hr4 : H4[H.length + 2]? = some (some (.cells 0 (keyC key0))) := k4.get hr3 (by simp; omega)
    have hmin := c_slices_MinFunc_grant_Key_grant_Key (H := H4) hko (by omega) (by omega) hob 45 [.ptr H.length 0 0] (fun x y => cmpI (untilF x es).1 (untilF y es).1)
      (fun L x y hx hy => c_grant_Book_makeRoom_2 (get_app hb4) hB4.app x y hx hy)
    have hleast := mn_least hn hp hrow (by omega)
    generalize mnC (fun x y => cmpI (untilF x es).1 (untilF y es).1) ks (ks.length - 1) = g at *
    have hgo : KeyOk g := by
      obtain ⟨e, he, rfl⟩ := List.mem_map.mp hleast.mem
      exact h.ok e he
    have gl := keyC_len hgo
    have gt := keyC_take hgo
    have gg := keyC_tag hgo
    have gd := key0_drop hgo
    have kk4 : Keeps [j] H H4 := kk3.trans (k4.mono (by simp))
    have hl4 := lt_of_get hr4
    refine go 200 (fun _ => false) mixed ?_
    simp (disch := omega) only [↓reduceIte, go_sem] <;> repeat with_reducible refine And.intro (by first | omega | decide) ?_
    refine hmin.mono fun r H5 ⟨e2, L, e3⟩ => ?_
    rw [e2, e3]
    have oc4 := obj_of (get_app (S := L) hB4.cell)
    have om4 := get_app (S := L) hB4.map
    have ob4 := obj_of (get_app (S := L) hb4)
    have or4 := obj_of (get_app (S := L) hr4)
    have hr5 := get_app (S := L) hr4
    have hB5 := hB4.app (L := L)
    have kk5 : Keeps [j] H (H4 ++ L) := kk4.trans Keeps.app
    have hl5 : H.length + 2 < (H4 ++ L).length := lt_of_get (get_app (S := L) hr4)
    have hj5 := lt_of_get om4
    have kb := keysB_ok h.ok
    have dm : delM (.agg (keyC g)) (mapV keyV untV es) = mapV keyV untV (noK g es) := (del_map (vf := untV) key_rep g es).trans (by rw [del_noK hn])
    generalize H4 ++ L = H5 at *
    refine go 3 (fun _ => false) mixed ?_
    simp (disch := omega) only [↓reduceIte, go_sem, gl, gt, gd, keyC_one, oc4, om4, ob4, or4, k0, k0d] <;> repeat with_reducible refine And.intro (by first | omega | decide) ?_
    refine go 3 (fun _ => false) mixed ?_
    simp (disch := omega) only [↓reduceIte, go_sem, gl, gt, gd, keyC_one, oc4, om4, ob4, or4, k0, k0d] <;> repeat with_reducible refine And.intro (by first | omega | decide) ?_
    refine go 1 (fun _ => false) mixed ?_
    simp (disch := omega) only [↓reduceIte, go_sem, gl, gt, gd, keyC_one, oc4, om4, ob4, or4, k0, k0d] <;> repeat with_reducible refine And.intro (by first | omega | decide) ?_
    refine go 1 (fun _ => false) mixed ?_
    simp (disch := omega) only [↓reduceIte, go_sem, gl, gt, gd, keyC_one, oc4, om4, ob4, or4, k0, k0d] <;> repeat with_reducible refine And.intro (by first | omega | decide) ?_
    refine go 1 (fun _ => false) mixed ?_
    simp (disch := omega) only [↓reduceIte, go_sem, gl, gt, gd, keyC_one, oc4, om4, ob4, or4, k0, k0d] <;> repeat with_reducible refine And.intro (by first | omega | decide) ?_
    refine go 1 (fun _ => false) mixed ?_
    simp (disch := omega) only [↓reduceIte, go_sem, gl, gt, gd, keyC_one, oc4, om4, ob4, or4, k0, k0d] <;> repeat with_reducible refine And.intro (by first | omega | decide) ?_
    refine go 1 (fun _ => false) mixed ?_
    simp (disch := omega) only [↓reduceIte, go_sem, gl, gt, gd, keyC_one, oc4, om4, ob4, or4, k0, k0d] <;> repeat with_reducible refine And.intro (by first | omega | decide) ?_
    refine go 1 (fun _ => false) mixed ?_
    simp (disch := omega) only [↓reduceIte, go_sem, gl, gt, gd, keyC_one, oc4, om4, ob4, or4, k0, k0d] <;> repeat with_reducible refine And.intro (by first | omega | decide) ?_
    refine go 1 (fun _ => false) mixed ?_
    simp (disch := omega) only [↓reduceIte, go_sem, gl, gt, gd, keyC_one, oc4, om4, ob4, or4, k0, k0d] <;> repeat with_reducible refine And.intro (by first | omega | decide) ?_
    refine go 1 (fun _ => false) mixed ?_
    simp (disch := omega) only [↓reduceIte, go_sem, gl, gt, gd, keyC_one, oc4, om4, ob4, or4, k0, k0d] <;> repeat with_reducible refine And.intro (by first | omega | decide) ?_
    refine go 1 (fun _ => false) mixed ?_
    simp (disch := omega) only [↓reduceIte, go_sem, gl, gt, gd, keyC_one, oc4, om4, ob4, or4, k0, k0d] <;> repeat with_reducible refine And.intro (by first | omega | decide) ?_
    refine go 1 (fun _ => false) mixed ?_
    simp (disch := omega) only [↓reduceIte, go_sem, gl, gt, gd, keyC_one, oc4, om4, ob4, or4, k0, k0d] <;> repeat with_reducible refine And.intro (by first | omega | decide) ?_
    refine go 1 (fun _ => false) mixed ?_
    simp (disch := omega) only [↓reduceIte, go_sem, gl, gt, gd, keyC_one, oc4, om4, ob4, or4, k0, k0d] <;> repeat with_reducible refine And.intro (by first | omega | decide) ?_
    refine go 1 (fun _ => false) mixed ?_
    simp (disch := omega) only [↓reduceIte, go_sem, gl, gt, gd, keyC_one, oc4, om4, ob4, or4, k0, k0d] <;> repeat with_reducible refine And.intro (by first | omega | decide) ?_
    refine go 1 (fun _ => false) mixed ?_
    simp (disch := omega) only [↓reduceIte, go_sem, gl, gt, gd, keyC_one, oc4, om4, ob4, or4, k0, k0d] <;> repeat with_reducible refine And.intro (by first | omega | decide) ?_
    refine go 1 (fun _ => false) mixed ?_
    simp (disch := omega) only [↓reduceIte, go_sem, gl, gt, gd, keyC_one, oc4, om4, ob4, or4, k0, k0d] <;> repeat with_reducible refine And.intro (by first | omega | decide) ?_
    refine ⟨⟨gg, kb _ _ _ _⟩, ?_⟩
    rw [dm]
    have hob6 : ∀ x cs, x ≠ j → H5[x]? = some (some (.cells 0 cs)) → (H5.set j (some (.map (mapV keyV untV (noK g es)))))[x]? = some (some (.cells 0 cs)) := fun x cs hx h => by rw [get_set_ne (Ne.symm hx)]; exact h
    have hlen6 : (H5.set j (some (.map (mapV keyV untV (noK g es))))).length = H5.length := by simp
    have hB6 : BkAt (H5.set j (some (.map (mapV keyV untV (noK g es))))) i j room (noK g es) := ⟨hob6 i _ hne hB5.cell, get_set_self hj5, fun e he => h.ok e (List.mem_filter.mp he).1⟩
    have or6 := hob6 (H.length + 2) _ (by omega) hr5
    have kk6 : Keeps [j] H (H5.set j (some (.map (mapV keyV untV (noK g es))))) := kk5.trans (Keeps.setF (by simp))
    rw [← hlen6] at hl5 ⊢
    generalize H5.set j (some (.map (mapV keyV untV (noK g es)))) = K at *
    have or7 := obj_of or6
    refine go 200 (fun _ => false) mixed ?_
    simp (disch := omega) only [↓reduceIte, go_sem, gl, gt, gd, keyC_one, or7, k0, k0d] <;> repeat with_reducible refine And.intro (by first | omega | decide) ?_
    refine EndsD.same (r := .tup [.agg (keyC g), .bool true]) (.inr rfl) (by simp (disch := omega) only [↓reduceIte, go_sem, gl, gt] <;> repeat with_reducible refine And.intro (by first | omega | decide) ?_) ⟨_, g, true, rfl, .inr ⟨hall, hleast, rfl, rfl⟩, hgo, ⟨?_, ?_, hB6.ok⟩, ?_⟩
    · rw [get_app_lt (by simp; exact lt_of_get hB6.cell), get_set_ne (by omega)]; exact hB6.cell
    · rw [get_app_lt (by simp; exact lt_of_get hB6.map), get_set_ne (by omega)]; exact hB6.map
    · exact ((kk6.mono (G := [j, H.length + 2]) (by simp)).trans ((Keeps.setF (by simp)).trans Keeps.app)).mono (by simp)
end Go.Proofs.GoC
