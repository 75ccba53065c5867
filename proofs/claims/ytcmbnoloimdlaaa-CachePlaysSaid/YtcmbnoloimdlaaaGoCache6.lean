/-
  What the functions compute: Sweep, Keys, first, the copy of a list of addresses, Get. No claim by itself.
-/
import Derived.Test.YtcmbnoloimdlaaaGoCacheP
import Derived.Test.YtcmbnoloimdlaaaGoKeep
namespace Go.Proofs.GoC
open Go Go.Proofs.SL
set_option linter.unusedSimpArgs false
set_option linter.unusedVariables false
set_option maxRecDepth 10000
set_option maxHeartbeats 4000000

theorem c_cache_Cache_Sweep_1 {H : Heap} {a : Nat} {now : Int} (ha : H[a]? = some (some (.cells 0 [.int .i64 now]))) (k : CKey) (x : Ent) :
    SCall Try.prog 32 ([] ++ [.agg (ckC k), .agg (entC x)] ++ [.ptr a 0 0]) H fun r H' => r = .bool (decide (x.til ≤ now)) ∧ H' = H := by
  have hi := lt_of_get ha
  have oc := obj_of ha
  refine scall_of (ord := fun _ => []) (rs := [5]) Try.func32 rfl (by kernel_rfl) (by kernel_rfl) (by kernel_rfl) Try.ntmps32 fun hb hargs => go 200 (fun _ => false) mixed ?_
  simp (disch := omega) only [↓reduceIte, go_sem, oc, ckC, entC] <;> repeat with_reducible refine And.intro (by first | omega | decide) ?_
  exact fin_drop (.inr rfl) hb rfl (by simp)

theorem c_cache_Cache_Sweep {H : Heap} {i j : Nat} {room : Int} {es : Ents} (h : CaAt H i j room es) (hn : (es.map (·.1)).Nodup) (hl : es.length < 1000000) (now : Int) :
    SCall Try.prog 17 [.ptr i 0 0, .int .i64 now] H fun r H' => r = .int .i64 ((es.length : Nat) - ((liveC now es).length : Nat)) ∧ CaAt H' i j room (liveC now es) ∧ Keeps [j] H H' := by
  have hi := lt_of_get h.cell
  have hj := lt_of_get h.map
  have hne := h.ne
  have oc := obj_of h.cell
  have om := h.map
  refine scall_of (ord := fun _ => []) (rs := [4]) Try.func17 rfl (by kernel_rfl) (by kernel_rfl) (by kernel_rfl) Try.ntmps17 fun hb hargs => go 200 (fun _ => false) mixed ?_
  simp (disch := omega) only [↓reduceIte, go_sem, oc, om, mapV_len] <;> repeat with_reducible refine And.intro (by first | omega | decide) ?_
  have hm : (H ++ [some (.cells 0 [.int .i64 now])])[j]? = some (some (.map (mapV ckV entV es))) := by rw [get_app_lt hj]; exact om
  have hij : H.length ≠ j := by omega
  refine (delfuncC hm cks_ok hn 32 [.ptr H.length 0 0] (fun _ x => decide (x.til ≤ now)) (fun Hc hK k x hk => c_cache_Cache_Sweep_1 (hK.get (by rw [get_tail0]; rfl) (by simpa using hij)) k x)).mono fun r H3 ⟨h3, hK3⟩ => ?_
  rw [liveC_eq] at h3
  have hc3 : H3[i]? = some (some (.cells 0 [.int .i64 room, .mp j])) := hK3.get (by rw [get_app_lt hi]; exact h.cell) (by simpa using hne)
  have oc3 := obj_of hc3
  have hw : IntKind.i64.wrap ((es.length : Int) - (liveC now es).length) = (es.length : Int) - (liveC now es).length := by
    have := List.length_filter_le (fun e : CKey × Ent => decide (now < e.2.til)) es
    unfold liveC
    exact w64 (by omega) (by omega)
  refine go 200 (fun _ => false) mixed ?_
  simp (disch := omega) only [↓reduceIte, go_sem, oc3, h3, mapV_len, hw] <;> repeat with_reducible refine And.intro (by first | omega | decide) ?_
  exact Ends.same (.inr rfl) ⟨rfl, ⟨hc3, h3, fun e he => h.ok e (List.mem_filter.mp he).1⟩, (Keeps.app.trans hK3).mono (by simp)⟩

theorem keysC_row {H : Heap} {i j : Nat} {room : Int} {es : Ents} (h : CaAt H i j room es) (hn : (es.map (·.1)).Nodup) (hl : es.length < 1000000) (h0 : 0 < es.length) :
    SCall Try.prog 24 [.ptr i 0 0] H fun r H' =>
      ∃ (ks : List CKey) (ob ver : Nat), r = .buf ob ver 0 ks.length 2 true ∧ H'[ob]? = some (some (.cells ver (flat (cksW ks)))) ∧ ks.Perm (es.map (·.1)) ∧ ks.Pairwise ltC ∧ CaAt H' i j room es ∧ Keeps [j] H H' ∧ H.length ≤ ob :=
  (keysC_some h hn hl h0).mono fun r H' ⟨ks, ob, ver, e1, e2, e3, e4, e5, e6, e7⟩ => ⟨ks.map (·.1), ob, ver, by rw [List.length_map]; exact e1, by rw [e2]; unfold cksW; rw [List.map_map]; rfl, e3, sortedC_strict (e3.nodup_iff.mpr hn) e4, e5, e6, e7⟩

/-- A cache's keys: in the row. -/
theorem c_cache_Cache_Keys {H : Heap} {i j : Nat} {room : Int} {es gs : Ents} (h : CaAt H i j room es) (hs : Three room es gs) (r2 : room ≤ 64) :
    SCall Try.prog 24 [.ptr i 0 0] H fun r H' =>
      ∃ (ob ver : Nat), r = .buf ob ver 0 gs.length 2 true ∧ H'[ob]? = some (some (.cells ver (flat (cksW (gs.map (·.1)))))) ∧ CaAt H' i j room es ∧ Keeps [j] H H' ∧ H.length ≤ ob := by
  have hlen := hs.two.len
  have hle := hs.len
  by_cases h0 : 0 < es.length
  · refine (keysC_row h hs.two.nodup (by omega) h0).mono fun r H' ⟨ks, ob, ver, e1, ho, hp, hrow, hB, hk, hl⟩ => ?_
    have e := hs.keys hp hrow
    subst e
    exact ⟨ob, ver, by rw [e1, List.length_map], ho, hB, hk, hl⟩
  · have he : es = [] := List.eq_nil_of_length_eq_zero (by omega)
    have hg : gs = [] := List.eq_nil_of_length_eq_zero (by omega)
    subst he
    subst hg
    have oc := obj_of h.cell
    have hi := lt_of_get h.cell
    have hne := h.ne
    refine scall_of (ord := fun _ => []) (rs := [2]) Try.func24 rfl (by kernel_rfl) (by kernel_rfl) (by kernel_rfl) Try.ntmps24 fun hb hargs => go 200 (fun _ => false) mixed ?_
    simp (disch := omega) only [↓reduceIte, go_sem, oc] <;> repeat with_reducible refine And.intro (by first | omega | decide) ?_
    refine c_maps_Keys_map_cache_Key_cache_entry_cache_Key_cache_entry.mono fun r H1 ⟨e1, e2⟩ => ?_
    rw [e1, e2]
    refine go 200 (fun _ => false) mixed ?_
    simp (disch := omega) only [↓reduceIte, go_sem] <;> repeat with_reducible refine And.intro (by first | omega | decide) ?_
    refine (sortedC_no (H := H ++ [some (.cells 0 [.mp j])]) (by rw [get_tail0]; rfl) (get_app h.map)).mono fun r H2 ⟨ob, ver, e3, ho, hm, k2, hob⟩ => ?_
    rw [e3]
    refine go 200 (fun _ => false) mixed ?_
    simp (disch := omega) only [↓reduceIte, go_sem] <;> repeat with_reducible refine And.intro (by first | omega | decide) ?_
    exact Ends.same (.inr rfl) ⟨ob, ver, rfl, ho, ⟨k2.get (get_app h.cell) (by simpa using hne), hm, h.ok⟩, Keeps.app.trans k2, by simp at hob; omega⟩

theorem ca_til {es : Ents} {k : CKey} {z : Ent} (hz : z.til = 0) : ∃ e : Ent, lookM (.agg (ckC k)) (entV z) (mapV ckV entV es) = (entV e, (tilF k es).2) ∧ e.til = (tilF k es).1 := by
  unfold tilF
  cases hf : findA k es with
  | some e => exact ⟨e, look_has (kf := ckV) (vf := entV) ck_rep _ hf, rfl⟩
  | none => exact ⟨z, look_not (kf := ckV) (vf := entV) ck_rep _ hf, hz⟩

theorem c_cache_Cache_first_1 {H : Heap} {a i j : Nat} {room : Int} {es : Ents} (ha : H[a]? = some (some (.cells 0 [.ptr i 0 0]))) (h : CaAt H i j room es) (x y : CKey) :
    SCall Try.prog 39 ([] ++ [.agg (ckC x), .agg (ckC y)] ++ [.ptr a 0 0]) H fun r H' => r = .int .i64 (cmpI (tilF x es).1 (tilF y es).1) ∧ H' = H := by
  have hal := lt_of_get ha
  have hi := lt_of_get h.cell
  have hj := lt_of_get h.map
  have oa := obj_of ha
  have oc := obj_of h.cell
  have om := h.map
  have kb := @keysB_ck es
  have lk : ∀ (k : CKey), lookM (.agg (ckC k)) (.agg [.nils, .int .i64 0]) (mapV ckV entV es) = (match findA k es with | some e => (entV e, true) | none => (.agg [.nils, .int .i64 0], false)) := fun k => by
    cases hf : findA k es with
    | some e => exact look_has (kf := ckV) (vf := entV) ck_rep _ hf
    | none => exact look_not (kf := ckV) (vf := entV) ck_rep _ hf
  have lx := lk x
  have ly := lk y
  have hcmp := c_cmp_Compare_int (tilF x es).1 (tilF y es).1
  unfold tilF at hcmp ⊢
  refine scall_of (ord := ordCQ) (rs := [5]) Try.func39 rfl (by kernel_rfl) (by kernel_rfl) (by kernel_rfl) Try.ntmps39 fun hb hargs => go 200 (fun _ => false) mixed ?_
  cases hx : findA x es with
  | some ex =>
    rw [hx] at lx hcmp
    cases hy : findA y es with
    | some ey =>
      rw [hy] at ly hcmp
      simp (disch := omega) only [↓reduceIte, go_sem, oa, oc, om, ckC_len, ckC_take, ckC_one, ckC_tag, kb, lx, ly, entV, entC] <;> repeat with_reducible refine And.intro (by first | omega | decide) ?_
      refine hcmp.onq (go 200 (fun _ => false) mixed ?_)
      simp (disch := omega) only [↓reduceIte, go_sem] <;> repeat with_reducible refine And.intro (by first | omega | decide) ?_
      exact fin_drop (.inr rfl) hb rfl (by simp)
    | none =>
      rw [hy] at ly hcmp
      simp (disch := omega) only [↓reduceIte, go_sem, oa, oc, om, ckC_len, ckC_take, ckC_one, ckC_tag, kb, lx, ly, entV, entC] <;> repeat with_reducible refine And.intro (by first | omega | decide) ?_
      refine hcmp.onq (go 200 (fun _ => false) mixed ?_)
      simp (disch := omega) only [↓reduceIte, go_sem] <;> repeat with_reducible refine And.intro (by first | omega | decide) ?_
      exact fin_drop (.inr rfl) hb rfl (by simp)
  | none =>
    rw [hx] at lx hcmp
    cases hy : findA y es with
    | some ey =>
      rw [hy] at ly hcmp
      simp (disch := omega) only [↓reduceIte, go_sem, oa, oc, om, ckC_len, ckC_take, ckC_one, ckC_tag, kb, lx, ly, entV, entC] <;> repeat with_reducible refine And.intro (by first | omega | decide) ?_
      refine hcmp.onq (go 200 (fun _ => false) mixed ?_)
      simp (disch := omega) only [↓reduceIte, go_sem] <;> repeat with_reducible refine And.intro (by first | omega | decide) ?_
      exact fin_drop (.inr rfl) hb rfl (by simp)
    | none =>
      rw [hy] at ly hcmp
      simp (disch := omega) only [↓reduceIte, go_sem, oa, oc, om, ckC_len, ckC_take, ckC_one, ckC_tag, kb, lx, ly, entV, entC] <;> repeat with_reducible refine And.intro (by first | omega | decide) ?_
      refine hcmp.onq (go 200 (fun _ => false) mixed ?_)
      simp (disch := omega) only [↓reduceIte, go_sem] <;> repeat with_reducible refine And.intro (by first | omega | decide) ?_
      exact fin_drop (.inr rfl) hb rfl (by simp)

theorem c_cache_Cache_first {H : Heap} {i j : Nat} {room : Int} {es : Ents} (h : CaAt H i j room es) (hn : (es.map (·.1)).Nodup) (hl : es.length < 1000000) (h0 : 0 < es.length) :
    SCall Try.prog 29 [.ptr i 0 0] H fun r H' => ∃ g, r = .agg (ckC g) ∧ LeastC es g ∧ CaAt H' i j room es ∧ Keeps [j] H H' := by
  have hi := lt_of_get h.cell
  have hj := lt_of_get h.map
  have hne := h.ne
  refine scall_ofd (ord := ordCQ) (tdOf_ok _) (rs := [.cell 2 37]) Try.func29 rfl (by kernel_rfl) (by kernel_rfl) (by kernel_rfl) Try.ntmps29 fun hb hargs => go 200 (fun _ => false) mixed ?_
  simp (disch := omega) only [↓reduceIte, go_sem] <;> repeat with_reducible refine And.intro (by first | omega | decide) ?_
  refine (keysC_row (h.app (L := _)) hn hl h0).mono fun r H4 ⟨ks, ob, ver, e1, hob, hp, hrow, hB4, k4, hobl⟩ => ?_
  rw [e1]
  have hkl : ks.length = es.length := by rw [hp.length_eq, List.length_map]
  have hb4 : H4[H.length]? = some (some (.cells 0 [.ptr i 0 0])) := k4.get (by rw [get_tail0]; rfl) (by simp; omega)
  have hr4 : H4[H.length + 1]? = some (some (.cells 0 (ckC ck0))) := k4.get (by rw [get_tail]; rfl) (by simp; omega)
  have hmin := c_slices_MinFunc_cache_Key_cache_Key (H := H4) (fun _ _ => trivial) (by omega) (by omega) hob 39 [.ptr H.length 0 0] (fun x y => cmpI (tilF x es).1 (tilF y es).1)
    (fun L x y hx hy => c_cache_Cache_first_1 (get_app hb4) hB4.app x y)
  have hleast := mnC_least hn hp hrow (by omega)
  generalize mnD (fun x y => cmpI (tilF x es).1 (tilF y es).1) ks (ks.length - 1) = g at *
  have kk4 : Keeps [j] H H4 := (Keeps.app.trans k4).mono (by simp)
  refine go 200 (fun _ => false) mixed ?_
  simp (disch := omega) only [↓reduceIte, go_sem] <;> repeat with_reducible refine And.intro (by first | omega | decide) ?_
  refine hmin.mono fun r H5 ⟨e2, L, e3⟩ => ?_
  rw [e2, e3]
  have or5 := obj_of (get_app (S := L) hr4)
  have l5 := lt_of_get (get_app (S := L) hr4)
  refine go 200 (fun _ => false) mixed ?_
  simp (disch := omega) only [↓reduceIte, go_sem, or5, ckC_len, ckC_one, ckC_drop] <;> repeat with_reducible refine And.intro (by first | omega | decide) ?_
  exact EndsD.same (r := .agg (ckC g)) (.inr rfl) (by simp (disch := omega) only [↓reduceIte, go_sem, ckC_len, ckC_take] <;> repeat with_reducible refine And.intro (by first | omega | decide) ?_) ⟨g, rfl, hleast, (hB4.app (L := L)).setN (by omega) (by omega), keep_setN (kk4.trans Keeps.app) (by omega)⟩
end Go.Proofs.GoC
