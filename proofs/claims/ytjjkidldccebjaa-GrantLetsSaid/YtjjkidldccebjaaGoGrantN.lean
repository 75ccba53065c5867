/-
  What the functions compute: a book's keys, sorted. No claim by itself. (begun)
-/
import Derived.Test.YtjjkidldccebjaaGoGrantL
import Derived.Test.YtjjkidldccebjaaSlSortC
import Derived.Test.YtjjkidldccebjaaSortK
import Derived.Test.YtjjkidldccebjaaGoPlain
namespace Go.Proofs.GoC
open Go Go.Proofs.SL
set_option linter.unusedSimpArgs false
set_option linter.unusedVariables false
set_option maxRecDepth 10000
set_option maxHeartbeats 4000000

theorem key_plain {k : GKey} : ∀ p ∈ keyC k, plainP p = true := fun p hp => by
  simp only [keyC, orgC, adrC, u8s, List.cons_append, List.nil_append, List.mem_cons, List.mem_map] at hp
  rcases hp with rfl | rfl | rfl | rfl | rfl | rfl | rfl | rfl | ⟨x, _, rfl⟩ <;> rfl
abbrev OKey := { k : GKey // KeyOk k }
instance : Inhabited OKey := ⟨⟨⟨⟨[], [], 0⟩, ⟨[], [], 0⟩, [], 0, z16⟩, rfl, by decide⟩⟩
def encK (k : OKey) : List Value := (keyC k.1).map toV

theorem cmpK_swo : Go.Sort.SWO (ltOf fun x y : OKey => cmpK x.1 y.1) where
  irrefl x := by
    unfold ltOf
    show decide (cmpK x.1 x.1 < 0) = false
    rw [(cmpK_ord.zero x.1 x.1).mpr rfl]; rfl
  trans x y z h1 h2 := by
    unfold ltOf at *
    simp only [decide_eq_true_eq] at *
    have h3 := cmpK_ord.trans x.1 y.1 z.1 (by omega) (by omega)
    rcases Int.lt_or_eq_of_le h3 with h | h
    · exact h
    · have e := (cmpK_ord.zero x.1 z.1).mp h
      have h4 := cmpK_ord.neg x.1 y.1
      rw [e] at h4 h1
      omega
  ntrans x y z h1 h2 := by
    unfold ltOf at *
    simp only [decide_eq_false_iff_not] at *
    have h3 := cmpK_ord.neg x.1 y.1
    have h4 := cmpK_ord.neg y.1 z.1
    have h5 := cmpK_ord.neg x.1 z.1
    have h6 := cmpK_ord.trans z.1 y.1 x.1 (by omega) (by omega)
    omega

theorem c_slices_SortFunc_grant_Key_grant_Key {H : Heap} {ob ver : Nat} {d : List OKey} (hd0 : 0 < d.length) (hdl : d.length < 1000000000) (ho : H[ob]? = some (some (.cells ver (flat (d.map fun x => .agg (keyC x.1)))))) :
    SCall Try.prog 47 [.buf ob ver 0 d.length 24 true, .func (.func 8) [] []] H fun r H' => r = .tup [] ∧ ∃ d' : List OKey, d'.Perm d ∧
      (∀ a b, a < b → b < d'.length → ltOf (fun x y : OKey => cmpK x.1 y.1) (d'.getD b default) (d'.getD a default) = false) ∧ H' = H.set ob (some (.cells ver (flat (d'.map fun x => .agg (keyC x.1))))) := by
  refine sort_call (ρ := Try.sortKey_ren) Try.sortKey (k := 24) (by decide) ?_ ?_ (enc := encK) (pv := fun x => keyC x.1) (cf := fun x y => cmpK x.1 y.1) (fun x => ?_) (fun x => keyC_len x.2) ?_ ?_ ?_ ?_ (fun x y => ?_) hd0 hdl ho
  · exact Try.isAgg30
  · exact Try.sizeOf30
  · unfold encK; rw [List.length_map]; exact keyC_len x.2
  · intro x v hv
    obtain ⟨p, hp, rfl⟩ := List.mem_map.mp hv
    exact plain_one (key_plain p hp)
  · intro x i v p h1 h2 β H w
    unfold encK at h1
    rw [List.getElem?_map, h2] at h1
    cases h1
    exact plain_V (key_plain p (List.mem_of_getElem? h2)) β H w
  · intro x i v p β H w hv h2
    unfold encK
    rw [List.getElem?_map, h2, plain_inv (key_plain p (List.mem_of_getElem? h2)) hv]; rfl
  · exact cmpK_swo
  · exact (c_grant_Compare x.1 y.1 x.2 y.2 []).mono fun r H' h => h.1

theorem c_maps_Keys_map_grant_Key_int_grant_Key_int {H : Heap} {m : Nat} : SCall Try.prog 39 [.mp m] H fun r H' => r = .func (.func 48) [] [.ptr H.length 0 0] ∧ H' = H ++ [some (.cells 0 [.mp m])] := by
  refine scall_of (ord := fun _ => []) (rs := [2]) Try.func39 rfl (by kernel_rfl) (by kernel_rfl) (by kernel_rfl) Try.ntmps39 fun hb hargs => go 200 (fun _ => false) mixed ?_
  simp (disch := omega) only [↓reduceIte, go_sem] <;> repeat with_reducible refine And.intro (by first | omega | decide) ?_
  exact Ends.same (.inr rfl) ⟨rfl, rfl⟩

theorem c_slices_Collect_grant_Key {H : Heap} {bx m : Nat} {es : Grants} (hbx : H[bx]? = some (some (.cells 0 [.mp m]))) (hm : H[m]? = some (some (.map (mapV keyV untV es)))) (hk : KeysOk es) (hn : (es.map (·.1)).Nodup) (hl : es.length < 1000000) :
    SCall Try.prog 46 [.func (.func 48) [] [.ptr bx 0 0]] H fun r H' =>
      ∃ (done : List GKey) (ob : Nat), r = .buf ob done.length 0 done.length 24 true ∧ H'[ob]? = some (some (.cells done.length (flat (ksW done)))) ∧ done.Perm (es.map (·.1)) ∧ H'[m]? = some (some (.map (mapV keyV untV es))) ∧ Keeps [m] H H' ∧ H.length ≤ ob := by
  refine scall_of (ord := fun _ => []) (rs := [2]) Try.func46 rfl (by kernel_rfl) (by kernel_rfl) (by kernel_rfl) Try.ntmps46 fun hb hargs => go 200 (fun _ => false) mixed ?_
  simp (disch := omega) only [↓reduceIte, go_sem] <;> repeat with_reducible refine And.intro (by first | omega | decide) ?_
  refine (append_seq hbx hm hk hn hl).mono fun r H1 ⟨done, ob, e1, h2⟩ => ?_
  rw [e1]
  refine go 200 (fun _ => false) mixed ?_
  simp (disch := omega) only [↓reduceIte, go_sem] <;> repeat with_reducible refine And.intro (by first | omega | decide) ?_
  exact Ends.same (.inr rfl) ⟨done, ob, rfl, h2⟩

/-- The keys, sorted: where there is one. -/
theorem sorted_keys {H : Heap} {bx m : Nat} {es : Grants} (hbx : H[bx]? = some (some (.cells 0 [.mp m]))) (hm : H[m]? = some (some (.map (mapV keyV untV es)))) (hk : KeysOk es) (hn : (es.map (·.1)).Nodup) (hl : es.length < 1000000) (h0 : 0 < es.length) :
    SCall Try.prog 38 [.func (.func 48) [] [.ptr bx 0 0], .func (.func 8) [] []] H fun r H' =>
      ∃ (ks : List OKey) (ob ver : Nat), r = .buf ob ver 0 ks.length 24 true ∧ H'[ob]? = some (some (.cells ver (flat (ks.map fun x => .agg (keyC x.1))))) ∧ (ks.map (·.1)).Perm (es.map (·.1)) ∧
        (∀ a b, a < b → b < ks.length → ltOf (fun x y : OKey => cmpK x.1 y.1) (ks.getD b default) (ks.getD a default) = false) ∧ H'[m]? = some (some (.map (mapV keyV untV es))) ∧ Keeps [m] H H' ∧ H.length ≤ ob := by
  have hml := lt_of_get hm
  refine scall_of (ord := fun _ => []) (rs := [4]) Try.func38 rfl (by kernel_rfl) (by kernel_rfl) (by kernel_rfl) Try.ntmps38 fun hb hargs => go 200 (fun _ => false) mixed ?_
  simp (disch := omega) only [↓reduceIte, go_sem] <;> repeat with_reducible refine And.intro (by first | omega | decide) ?_
  refine (c_slices_Collect_grant_Key hbx hm hk hn hl).mono fun r H1 ⟨done, ob, e1, ho, hp, hm1, k1, hob⟩ => ?_
  rw [e1]
  have hdk : ∀ q ∈ done, KeyOk q := fun q hq => by
    obtain ⟨e, he, rfl⟩ := List.mem_map.mp (hp.mem_iff.mp hq)
    exact hk e he
  obtain ⟨ds, hds⟩ : ∃ ds : List OKey, ds.map (·.1) = done := ⟨done.attach.map fun q => ⟨q.1, hdk q.1 q.2⟩, by simp⟩
  have hdl : ds.length = done.length := by rw [← hds, List.length_map]
  have hel : done.length = es.length := by rw [hp.length_eq, List.length_map]
  have hfe : flat (ksW done) = flat (ds.map fun x => PV.agg (keyC x.1)) := by rw [← hds]; unfold ksW; rw [List.map_map]; rfl
  rw [hfe] at ho
  rw [← hdl] at ho ⊢
  have hsort := c_slices_SortFunc_grant_Key_grant_Key (H := H1) (ob := ob) (ver := ds.length) (d := ds) (by omega) (by omega) ho
  refine go 200 (fun _ => false) mixed ?_
  simp (disch := omega) only [↓reduceIte, go_sem] <;> repeat with_reducible refine And.intro (by first | omega | decide) ?_
  refine hsort.mono fun r H2 ⟨e2, d', hp2, hs2, e3⟩ => ?_
  rw [e2, e3]
  have hl2 : d'.length = ds.length := hp2.length_eq
  refine go 200 (fun _ => false) mixed ?_
  simp (disch := omega) only [↓reduceIte, go_sem] <;> repeat with_reducible refine And.intro (by first | omega | decide) ?_
  have hol := lt_of_get ho
  refine Ends.same (.inr rfl) ⟨d', ob, ds.length, by rw [hl2]; rfl, get_set_self hol, ?_, hs2, ?_, ?_, hob⟩
  · exact (hp2.map _).trans (by rw [hds]; exact hp)
  · rw [get_set_ne (by omega)]; exact hm1
  · exact ((k1.mono (G := [m, ob]) (by simp)).trans (Keeps.setF (by simp))).mono (by simp; omega)

/-- A book's keys, where there is one. -/
theorem keys_some {H : Heap} {i j : Nat} {room : Int} {es : Grants} (h : BkAt H i j room es) (hn : (es.map (·.1)).Nodup) (hl : es.length < 1000000) (h0 : 0 < es.length) :
    SCall Try.prog 22 [.ptr i 0 0] H fun r H' =>
      ∃ (ks : List OKey) (ob ver : Nat), r = .buf ob ver 0 ks.length 24 true ∧ H'[ob]? = some (some (.cells ver (flat (ks.map fun x => .agg (keyC x.1))))) ∧ (ks.map (·.1)).Perm (es.map (·.1)) ∧
        (∀ a b, a < b → b < ks.length → ltOf (fun x y : OKey => cmpK x.1 y.1) (ks.getD b default) (ks.getD a default) = false) ∧ BkAt H' i j room es ∧ Keeps [j] H H' ∧ H.length ≤ ob := by
  have oc := obj_of h.cell
  have hi := lt_of_get h.cell
  have hne := h.ne
  refine scall_of (ord := fun _ => []) (rs := [2]) Try.func22 rfl (by kernel_rfl) (by kernel_rfl) (by kernel_rfl) Try.ntmps22 fun hb hargs => go 200 (fun _ => false) mixed ?_
  simp (disch := omega) only [↓reduceIte, go_sem, oc] <;> repeat with_reducible refine And.intro (by first | omega | decide) ?_
  refine c_maps_Keys_map_grant_Key_int_grant_Key_int.mono fun r H1 ⟨e1, e2⟩ => ?_
  rw [e1, e2]
  refine go 200 (fun _ => false) mixed ?_
  simp (disch := omega) only [↓reduceIte, go_sem] <;> repeat with_reducible refine And.intro (by first | omega | decide) ?_
  refine (sorted_keys (H := H ++ [some (.cells 0 [.mp j])]) (by rw [get_tail0]; rfl) (get_app h.map) h.ok hn hl h0).mono fun r H2 ⟨ks, ob, ver, e3, ho, hp, hs, hm, k2, hob⟩ => ?_
  rw [e3]
  refine go 200 (fun _ => false) mixed ?_
  simp (disch := omega) only [↓reduceIte, go_sem] <;> repeat with_reducible refine And.intro (by first | omega | decide) ?_
  exact Ends.same (.inr rfl) ⟨ks, ob, ver, rfl, ho, hp, hs, ⟨k2.get (get_app h.cell) (by simpa using hne), hm, h.ok⟩, Keeps.app.trans k2, by simp at hob; omega⟩
end Go.Proofs.GoC
