/-
  What the functions compute: a cache's keys, sorted. No claim by itself. (Printed by mkcache.py.)
-/
import Derived.Test.YtcmbnoloimdlaaaGoCache2
import Derived.Test.YtcmbnoloimdlaaaGoPlain
import Derived.Test.YtcmbnoloimdlaaaSlSortC
import Derived.Test.YtcmbnoloimdlaaaSlSortN
import Derived.Test.YtcmbnoloimdlaaaSortK
namespace Go.Proofs.GoC
open Go Go.Proofs.SL
set_option linter.unusedSimpArgs false
set_option linter.unusedVariables false
set_option maxRecDepth 10000
set_option maxHeartbeats 4000000

theorem ck_plain {k : CKey} : ∀ p ∈ ckC k, plainP p = true := fun p hp => by
  simp only [ckC, List.mem_cons, List.not_mem_nil, or_false] at hp
  rcases hp with rfl | rfl <;> rfl
abbrev OCKey := { k : CKey // CkOk k }
instance : Inhabited OCKey := ⟨⟨ck0, trivial⟩⟩
def encC (k : OCKey) : List Value := (ckC k.1).map toV

theorem cmpC_swo : Go.Sort.SWO (ltOf fun x y : OCKey => cmpC x.1 y.1) where
  irrefl x := by
    unfold ltOf
    show decide (cmpC x.1 x.1 < 0) = false
    rw [(cmpC_ord.zero x.1 x.1).mpr rfl]; rfl
  trans x y z h1 h2 := by
    unfold ltOf at *
    simp only [decide_eq_true_eq] at *
    have h3 := cmpC_ord.trans x.1 y.1 z.1 (by omega) (by omega)
    rcases Int.lt_or_eq_of_le h3 with h | h
    · exact h
    · have e := (cmpC_ord.zero x.1 z.1).mp h
      have h4 := cmpC_ord.neg x.1 y.1
      rw [e] at h4 h1
      omega
  ntrans x y z h1 h2 := by
    unfold ltOf at *
    simp only [decide_eq_false_iff_not] at *
    have h3 := cmpC_ord.neg x.1 y.1
    have h4 := cmpC_ord.neg y.1 z.1
    have h5 := cmpC_ord.neg x.1 z.1
    have h6 := cmpC_ord.trans z.1 y.1 x.1 (by omega) (by omega)
    omega

theorem c_slices_SortFunc_cache_Key_cache_Key {H : Heap} {ob ver : Nat} {d : List OCKey} (hd0 : 0 < d.length) (hdl : d.length < 1000000000) (ho : H[ob]? = some (some (.cells ver (flat (d.map fun x => .agg (ckC x.1)))))) :
    SCall Try.prog 42 [.buf ob ver 0 d.length 2 true, .func (.func 36) [] []] H fun r H' => r = .tup [] ∧ ∃ d' : List OCKey, d'.Perm d ∧
      (∀ a b, a < b → b < d'.length → ltOf (fun x y : OCKey => cmpC x.1 y.1) (d'.getD b default) (d'.getD a default) = false) ∧ H' = H.set ob (some (.cells ver (flat (d'.map fun x => .agg (ckC x.1))))) := by
  refine sort_call (ρ := Try.sortKey_ren) Try.sortKey (k := 2) (by decide) ?_ ?_ (enc := encC) (pv := fun x => ckC x.1) (cf := fun x y => cmpC x.1 y.1) (fun x => ?_) (fun x => ckC_lenH x.2) ?_ ?_ ?_ ?_ (fun x y => ?_) hd0 hdl ho
  · exact Try.isAgg37
  · exact Try.sizeOf37
  · unfold encC; rw [List.length_map]; exact ckC_lenH x.2
  · intro x v hv
    obtain ⟨p, hp, rfl⟩ := List.mem_map.mp hv
    exact plain_one (ck_plain p hp)
  · intro x i v p h1 h2 β H w
    unfold encC at h1
    rw [List.getElem?_map, h2] at h1
    cases h1
    exact plain_V (ck_plain p (List.mem_of_getElem? h2)) β H w
  · intro x i v p β H w hv h2
    unfold encC
    rw [List.getElem?_map, h2, plain_inv (ck_plain p (List.mem_of_getElem? h2)) hv]; rfl
  · exact cmpC_swo
  · exact (c_cache_compare x.1 y.1 []).mono fun r H' h => h.1

theorem c_maps_Keys_map_cache_Key_cache_entry_cache_Key_cache_entry {H : Heap} {m : Nat} : SCall Try.prog 35 [.mp m] H fun r H' => r = .func (.func 43) [] [.ptr H.length 0 0] ∧ H' = H ++ [some (.cells 0 [.mp m])] := by
  refine scall_of (ord := fun _ => []) (rs := [2]) Try.func35 rfl (by kernel_rfl) (by kernel_rfl) (by kernel_rfl) Try.ntmps35 fun hb hargs => go 200 (fun _ => false) mixed ?_
  simp (disch := omega) only [↓reduceIte, go_sem] <;> repeat with_reducible refine And.intro (by first | omega | decide) ?_
  exact Ends.same (.inr rfl) ⟨rfl, rfl⟩

theorem c_slices_Collect_cache_Key {H : Heap} {bx m : Nat} {es : Ents} (hbx : H[bx]? = some (some (.cells 0 [.mp m]))) (hm : H[m]? = some (some (.map (mapV ckV entV es)))) (hk : CksOk es) (hn : (es.map (·.1)).Nodup) (hl : es.length < 1000000) :
    SCall Try.prog 41 [.func (.func 43) [] [.ptr bx 0 0]] H fun r H' =>
      ∃ (done : List CKey) (ob : Nat), r = .buf ob done.length 0 done.length 2 true ∧ H'[ob]? = some (some (.cells done.length (flat (cksW done)))) ∧ done.Perm (es.map (·.1)) ∧ H'[m]? = some (some (.map (mapV ckV entV es))) ∧ Keeps [m] H H' ∧ H.length ≤ ob := by
  refine scall_of (ord := fun _ => []) (rs := [2]) Try.func41 rfl (by kernel_rfl) (by kernel_rfl) (by kernel_rfl) Try.ntmps41 fun hb hargs => go 200 (fun _ => false) mixed ?_
  simp (disch := omega) only [↓reduceIte, go_sem] <;> repeat with_reducible refine And.intro (by first | omega | decide) ?_
  refine (appendC_seq hbx hm hk hn hl).mono fun r H1 ⟨done, ob, e1, h2⟩ => ?_
  rw [e1]
  refine go 200 (fun _ => false) mixed ?_
  simp (disch := omega) only [↓reduceIte, go_sem] <;> repeat with_reducible refine And.intro (by first | omega | decide) ?_
  exact Ends.same (.inr rfl) ⟨done, ob, rfl, h2⟩

/-- The keys, sorted: where there is one. -/
theorem sortedC_keys {H : Heap} {bx m : Nat} {es : Ents} (hbx : H[bx]? = some (some (.cells 0 [.mp m]))) (hm : H[m]? = some (some (.map (mapV ckV entV es)))) (hk : CksOk es) (hn : (es.map (·.1)).Nodup) (hl : es.length < 1000000) (h0 : 0 < es.length) :
    SCall Try.prog 34 [.func (.func 43) [] [.ptr bx 0 0], .func (.func 36) [] []] H fun r H' =>
      ∃ (ks : List OCKey) (ob ver : Nat), r = .buf ob ver 0 ks.length 2 true ∧ H'[ob]? = some (some (.cells ver (flat (ks.map fun x => .agg (ckC x.1))))) ∧ (ks.map (·.1)).Perm (es.map (·.1)) ∧
        (∀ a b, a < b → b < ks.length → ltOf (fun x y : OCKey => cmpC x.1 y.1) (ks.getD b default) (ks.getD a default) = false) ∧ H'[m]? = some (some (.map (mapV ckV entV es))) ∧ Keeps [m] H H' ∧ H.length ≤ ob := by
  have hml := lt_of_get hm
  refine scall_of (ord := fun _ => []) (rs := [4]) Try.func34 rfl (by kernel_rfl) (by kernel_rfl) (by kernel_rfl) Try.ntmps34 fun hb hargs => go 200 (fun _ => false) mixed ?_
  simp (disch := omega) only [↓reduceIte, go_sem] <;> repeat with_reducible refine And.intro (by first | omega | decide) ?_
  refine (c_slices_Collect_cache_Key hbx hm hk hn hl).mono fun r H1 ⟨done, ob, e1, ho, hp, hm1, k1, hob⟩ => ?_
  rw [e1]
  have hdk : ∀ q ∈ done, CkOk q := fun q hq => by
    obtain ⟨e, he, rfl⟩ := List.mem_map.mp (hp.mem_iff.mp hq)
    exact trivial
  obtain ⟨ds, hds⟩ : ∃ ds : List OCKey, ds.map (·.1) = done := ⟨done.attach.map fun q => ⟨q.1, hdk q.1 q.2⟩, by simp⟩
  have hdl : ds.length = done.length := by rw [← hds, List.length_map]
  have hel : done.length = es.length := by rw [hp.length_eq, List.length_map]
  have hfe : flat (cksW done) = flat (ds.map fun x => PV.agg (ckC x.1)) := by rw [← hds]; unfold cksW; rw [List.map_map]; rfl
  rw [hfe] at ho
  rw [← hdl] at ho ⊢
  have hsort := c_slices_SortFunc_cache_Key_cache_Key (H := H1) (ob := ob) (ver := ds.length) (d := ds) (by omega) (by omega) ho
  refine go 200 (fun _ => false) mixed ?_
  simp (disch := omega) only [↓reduceIte, go_sem] <;> repeat with_reducible refine And.intro (by first | omega | decide) ?_
  refine hsort.mono fun r H2 ⟨e2, d', hp2, hs2, e3⟩ => ?_
  rw [e2, e3]
  have hl2 : d'.length = ds.length := hp2.length_eq
  refine go 200 (fun _ => false) mixed ?_
  simp (disch := omega) only [↓reduceIte, go_sem] <;> repeat with_reducible refine And.intro (by first | omega | decide) ?_
  have hol := lt_of_get ho
  refine Ends.same (.inr rfl) ⟨d', ob, ds.length, by rw [hl2]; rfl, get_set_self hol, ?_, hs2, ?_, ?_, hob⟩
  · exact (hp2.map _).trans (by rw [hds]; exact hp)
  · rw [get_set_ne (by omega)]; exact hm1
  · exact ((k1.mono (G := [m, ob]) (by simp)).trans (Keeps.setF (by simp))).mono (by simp; omega)

/-- A book's keys, where there is one. -/
theorem keysC_some {H : Heap} {i j : Nat} {room : Int} {es : Ents} (h : CaAt H i j room es) (hn : (es.map (·.1)).Nodup) (hl : es.length < 1000000) (h0 : 0 < es.length) :
    SCall Try.prog 24 [.ptr i 0 0] H fun r H' =>
      ∃ (ks : List OCKey) (ob ver : Nat), r = .buf ob ver 0 ks.length 2 true ∧ H'[ob]? = some (some (.cells ver (flat (ks.map fun x => .agg (ckC x.1))))) ∧ (ks.map (·.1)).Perm (es.map (·.1)) ∧
        (∀ a b, a < b → b < ks.length → ltOf (fun x y : OCKey => cmpC x.1 y.1) (ks.getD b default) (ks.getD a default) = false) ∧ CaAt H' i j room es ∧ Keeps [j] H H' ∧ H.length ≤ ob := by
  have oc := obj_of h.cell
  have hi := lt_of_get h.cell
  have hne := h.ne
  refine scall_of (ord := fun _ => []) (rs := [2]) Try.func24 rfl (by kernel_rfl) (by kernel_rfl) (by kernel_rfl) Try.ntmps24 fun hb hargs => go 200 (fun _ => false) mixed ?_
  simp (disch := omega) only [↓reduceIte, go_sem, oc] <;> repeat with_reducible refine And.intro (by first | omega | decide) ?_
  refine c_maps_Keys_map_cache_Key_cache_entry_cache_Key_cache_entry.mono fun r H1 ⟨e1, e2⟩ => ?_
  rw [e1, e2]
  refine go 200 (fun _ => false) mixed ?_
  simp (disch := omega) only [↓reduceIte, go_sem] <;> repeat with_reducible refine And.intro (by first | omega | decide) ?_
  refine (sortedC_keys (H := H ++ [some (.cells 0 [.mp j])]) (by rw [get_tail0]; rfl) (get_app h.map) cks_ok hn hl h0).mono fun r H2 ⟨ks, ob, ver, e3, ho, hp, hs, hm, k2, hob⟩ => ?_
  rw [e3]
  refine go 200 (fun _ => false) mixed ?_
  simp (disch := omega) only [↓reduceIte, go_sem] <;> repeat with_reducible refine And.intro (by first | omega | decide) ?_
  exact Ends.same (.inr rfl) ⟨ks, ob, ver, rfl, ho, hp, hs, ⟨k2.get (get_app h.cell) (by simpa using hne), hm, h.ok⟩, Keeps.app.trans k2, by simp at hob; omega⟩
end Go.Proofs.GoC
