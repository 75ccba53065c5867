/-
  What the functions compute: entries taken out of a map; no keys, sorted. No claim by itself. (Printed by mkcache.py.)
-/
import Derived.Test.YtcmbnoloimdlaaaGoCache4
namespace Go.Proofs.GoC
open Go Go.Proofs.SL
set_option linter.unusedSimpArgs false
set_option linter.unusedVariables false
set_option maxRecDepth 10000
set_option maxHeartbeats 4000000
structure DFC where
  H : Heap
  seen : List Nat

theorem delfuncC {H : Heap} {j : Nat} {es : Ents} (hm : H[j]? = some (some (.map (mapV ckV entV es)))) (hk : CksOk es) (hn : (es.map (·.1)).Nodup) (f : Nat) (caps : List PV) (p : CKey → Ent → Bool)
    (hcall : ∀ Hc, Keeps [j] H Hc → ∀ k x, CkOk k → SCall Try.prog f ([] ++ [.agg (ckC k), .agg (entC x)] ++ caps) Hc fun r H' => r = .bool (p k x) ∧ H' = Hc) :
    SCall Try.prog 31 [.mp j, .func (.func f) [] caps] H fun _ H' => H'[j]? = some (some (.map (mapV ckV entV (es.filter fun e => !p e.1 e.2)))) ∧ Keeps [j] H H' := by
  have hj := lt_of_get hm
  refine scall_of (T := tdOf Try.prog) (ord := ordCa) (rs := []) Try.func31 rfl (by kernel_rfl) (by kernel_rfl) (by kernel_rfl) Try.ntmps31 fun hb hargs => ?_
  refine Runs.births (by rfl) hm fun n bs hbl hlt hpw => ?_
  have hlen : bs.length = es.length := by simpa [mapV] using hbl
  obtain ⟨L, hL1, hL2⟩ : ∃ L : List (Nat × (CKey × Ent)), L.map (·.1) = bs ∧ L.map (·.2) = es := ⟨bs.zip es, by rw [List.map_fst_zip (by omega)], by rw [List.map_snd_zip (by omega)]⟩
  subst hL1
  subst hL2
  have hbn : (L.map (·.1)).Nodup := hpw.imp fun h => Nat.ne_of_lt h
  have hkn : (L.map (·.2.1)).Nodup := by rw [List.map_map] at hn; exact hn
  refine go 200 (fun _ => false) mixed ?_
  simp (disch := omega) only [↓reduceIte, go_sem, hj] <;> repeat with_reducible refine And.intro (by first | omega | decide) ?_
  refine runs_loopA (fun a : DFC => a.H[j]? = some (some (.mapx n ((curL p a.seen L).map (·.1)) (mapV ckV entV ((curL p a.seen L).map (·.2))))) ∧ a.H[H.length]? = some (some (.mapit j n a.seen n)) ∧ Keeps [j] H a.H) (fun a => leftN a.seen L)
    [true, true, false, false, false, false, false, true]
    (fun a => slots 19 [.mp j, .func (.func f) [] caps, .any, .any, .any, .any, .any, .ptr H.length 0 0]) (fun a => a.H) (by rfl) ⟨_, []⟩ ⟨by show _ = _; simp only [cur_nil]; rw [get_app_lt (by simpa using hj), get_set_self hj], by rw [get_tail0s]; rfl, (Keeps.setF (by simp)).trans Keeps.app⟩ rfl rfl ?_
  rintro ⟨Ha, seen⟩ ⟨h1, h2, h3⟩
  change Ha[j]? = _ at h1
  change Ha[H.length]? = _ at h2
  change Keeps [j] H Ha at h3
  have hall : (List.map (fun x => x.1) (curL p seen L)).all (fun b => decide (b < n)) = true := by
    rw [List.all_eq_true]
    intro b hb
    obtain ⟨e, he, rfl⟩ := List.mem_map.mp hb
    exact decide_eq_true (hlt e.1 (List.mem_map_of_mem (List.mem_filter.mp he).1))
  refine go 200 (fun _ => false) mixed ?_
  simp (disch := omega) only [↓reduceIte, go_sem, h1, h2, hall] <;> repeat with_reducible refine And.intro (by first | omega | decide) ?_
  have hjH : j ≠ H.length := by omega
  have hja : j < Ha.length := lt_of_get h1
  have hia : H.length < Ha.length := lt_of_get h2
  rintro v H' (⟨rfl, rfl, hend⟩ | ⟨j', b, e, he, hb', hs, rfl, rfl⟩)
  · refine go 200 (fun _ => false) mixed ?_
    simp (disch := omega) only [↓reduceIte, go_sem] <;> repeat with_reducible refine And.intro (by first | omega | decide) ?_
    refine go 200 (fun _ => false) mixed ?_
    simp (disch := omega) only [↓reduceIte, go_sem] <;> repeat with_reducible refine And.intro (by first | omega | decide) ?_
    refine ⟨trivial, _, _, Ghost.unborn h1, ?_, h3.trans (Keeps.setF (by simp))⟩
    rw [get_set_self hja, cur_end hend, List.filter_map]
    rfl
  · obtain ⟨k, x, hmem, hat, rfl⟩ := mapC_at he hb'
    have hmL : (b, k, x) ∈ L := (List.mem_filter.mp hmem).1
    have hkk : CkOk k := hk (k, x) (List.mem_map_of_mem hmL)
    have hcp : ((curL p seen L).map (·.1)).Pairwise (· < ·) := hpw.sublist ((List.filter_sublist).map _)
    have hfb : findB b (List.map (fun x => x.1) (curL p seen L)) (mapV ckV entV (List.map (fun x => x.2) (curL p seen L))) = some (ckV k, entV x) := findB_of hcp hb' he
    have hgl : (seen ++ [b]).getLast? = some b := by simp
    have kl := ckC_lenH hkk
    have kt := ckC_takeH hkk
    have kg := ckC_tagH hkk
    have hK1 : Keeps [j] H (Ha.set H.length (some (.mapit j n (seen ++ [b]) n)) ++ [some (.cells 0 (ckC k)), some (.cells 0 (entC x))]) :=
      ⟨by simp; omega, fun i hi hn => by rw [get_app_lt (by simp; omega), get_set_ne (by omega)]; exact h3.2 i hi hn⟩
    have hc := hcall _ hK1 k x hkk
    refine go 200 (fun _ => false) mixed ?_
    simp (disch := omega) only [↓reduceIte, go_sem, h1, hfb, hgl, kl, kt, ckV, entV, ckC_one, entC_len, entC_one, entC_take] <;> repeat with_reducible refine And.intro (by first | omega | decide) ?_
    refine hc.mono fun r H5 ⟨e1, e2⟩ => ?_
    rw [e1, e2]
    have hlt' := left_lt hs (L := L) (List.mem_map_of_mem (f := fun e : Nat × (CKey × Ent) => e.1) hmL)
    cases hp : p k x with
    | false =>
      have hck := cur_keep (seen := seen) hbn hmL hp
      refine go 200 (fun _ => false) mixed ?_
      simp (disch := omega) only [↓reduceIte, go_sem] <;> repeat with_reducible refine And.intro (by first | omega | decide) ?_
      exact rnd_next ⟨_, seen ++ [b]⟩ ⟨by show _ = _; simp only [hck]; rw [get_app_lt (by simpa using hja), get_set_ne (Ne.symm hjH)]; exact h1, by rw [get_app_lt (by simpa using hia), get_set_self hia], hK1⟩ hlt' rfl rfl
    | true =>
      have hcd := cur_del (seen := seen) hbn hkn hmL hp
      have hckn : ((curL p seen L).map (·.2.1)).Nodup := hkn.sublist ((List.filter_sublist).map _)
      obtain ⟨dm, db⟩ := delx_map (vf := entV) ck_rep k (curL p seen L) hckn
      rw [← hcd] at dm db
      have dm : delM (.agg (ckC k)) (mapV ckV entV (List.map (fun x => x.2) (curL p seen L))) = mapV ckV entV (List.map (fun x => x.2) (curL p (seen ++ [b]) L)) := dm
      have db : delB (.agg (ckC k)) (List.map (fun x => x.1) (curL p seen L)) (mapV ckV entV (List.map (fun x => x.2) (curL p seen L))) = List.map (fun x => x.1) (curL p (seen ++ [b]) L) := db
      have kb := @keysB_ck ((curL p seen L).map (·.2))
      have gj : ∀ o M, (Ha.set H.length o ++ M)[j]? = some (some (.mapx n ((curL p seen L).map (·.1)) (mapV ckV entV ((curL p seen L).map (·.2))))) := fun o M => by rw [get_app_lt (by simpa using hja), get_set_ne (Ne.symm hjH)]; exact h1
      have sj : ∀ o M y, (Ha.set H.length o ++ M).set j y = (Ha.set H.length o).set j y ++ M := fun o M y => set_app_lt (by simpa using hja)
      refine go 200 (fun _ => false) mixed ?_
      simp (disch := omega) only [↓reduceIte, go_sem, gj, sj, kl, kt, kg, kb, dm, db, ckC_tag] <;> repeat with_reducible refine And.intro (by first | omega | decide) ?_
      refine rnd_next ⟨_, seen ++ [b]⟩ ⟨?_, ?_, ?_⟩ hlt' rfl rfl
      · show _ = _
        rw [get_app_lt (by simpa using hja), get_set_self (by simpa using hja)]
      · show _ = _
        rw [get_app_lt (by simpa using hia), get_set_ne hjH, get_set_self hia]
      · exact ⟨by simp; omega, fun i hi hn => by
          have : i ≠ j := fun e => hn (by simp [e])
          rw [get_app_lt (by simp; omega), get_set_ne (Ne.symm this), get_set_ne (by omega)]; exact h3.2 i hi hn⟩

theorem sortC_no {H : Heap} {ob ver : Nat} {fp : PV} : SCall Try.prog 42 [.buf ob ver 0 0 2 true, fp] H fun r H' => r = .tup [] ∧ H' = H :=
  sort_none (ρ := Try.sortKey_ren) Try.sortKey

/-- The keys, sorted: where there is none. -/
theorem sortedC_no {H : Heap} {bx m : Nat} (hbx : H[bx]? = some (some (.cells 0 [.mp m]))) (hm : H[m]? = some (some (.map (mapV ckV entV [])))) :
    SCall Try.prog 34 [.func (.func 43) [] [.ptr bx 0 0], .func (.func 36) [] []] H fun r H' =>
      ∃ (ob ver : Nat), r = .buf ob ver 0 0 2 true ∧ H'[ob]? = some (some (.cells ver [])) ∧ H'[m]? = some (some (.map (mapV ckV entV []))) ∧ Keeps [m] H H' ∧ H.length ≤ ob := by
  refine scall_of (ord := fun _ => []) (rs := [4]) Try.func34 rfl (by kernel_rfl) (by kernel_rfl) (by kernel_rfl) Try.ntmps34 fun hb hargs => go 200 (fun _ => false) mixed ?_
  simp (disch := omega) only [↓reduceIte, go_sem] <;> repeat with_reducible refine And.intro (by first | omega | decide) ?_
  refine (c_slices_Collect_cache_Key hbx hm cks_ok List.nodup_nil (by decide)).mono fun r H1 ⟨done, ob, e1, ho, hp, hm1, k1, hob⟩ => ?_
  have hd : done = [] := List.perm_nil.mp hp
  subst hd
  rw [e1]
  refine go 200 (fun _ => false) mixed ?_
  simp (disch := omega) only [↓reduceIte, go_sem] <;> repeat with_reducible refine And.intro (by first | omega | decide) ?_
  refine (sortC_no (H := H1) (ob := ob) (ver := 0)).mono fun r H2 ⟨e2, e3⟩ => ?_
  rw [e2, e3]
  refine go 200 (fun _ => false) mixed ?_
  simp (disch := omega) only [↓reduceIte, go_sem] <;> repeat with_reducible refine And.intro (by first | omega | decide) ?_
  exact Ends.same (.inr rfl) ⟨ob, 0, rfl, ho, hm1, k1, hob⟩

end Go.Proofs.GoC
