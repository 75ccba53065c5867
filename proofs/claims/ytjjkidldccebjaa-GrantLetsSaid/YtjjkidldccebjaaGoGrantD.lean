/-
  What the functions compute: grants are let go. No claim by itself.
-/
import Derived.Test.YtjjkidldccebjaaGoGrantC
import Derived.Test.YtjjkidldccebjaaGoMapR
namespace Go.Proofs.GoC
open Go Go.Proofs.SL
set_option linter.unusedSimpArgs false
set_option linter.unusedVariables false
set_option maxRecDepth 10000
set_option maxHeartbeats 4000000

structure DF where
  H : Heap
  seen : List Nat

theorem mapV_at {L : List (Nat × (GKey × Int))} {j : Nat} {e : PV × PV} {b : Nat} (h1 : (mapV keyV untV (L.map (·.2)))[j]? = some e) (h2 : (L.map (·.1))[j]? = some b) : ∃ k x, (b, k, x) ∈ L ∧ L[j]? = some (b, k, x) ∧ e = (keyV k, untV x) := by
  unfold mapV at h1
  rw [List.getElem?_map, List.getElem?_map] at h1
  rw [List.getElem?_map] at h2
  cases hL : L[j]? with
  | none => rw [hL] at h2; cases h2
  | some y =>
    obtain ⟨b', k, x⟩ := y
    rw [hL] at h1 h2
    cases h1; cases h2
    exact ⟨k, x, List.mem_of_getElem? hL, rfl, rfl⟩

theorem delfunc {H : Heap} {j : Nat} {es : Grants} (hm : H[j]? = some (some (.map (mapV keyV untV es)))) (hk : KeysOk es) (hn : (es.map (·.1)).Nodup) (f : Nat) (caps : List PV) (p : GKey → Int → Bool)
    (hcall : ∀ Hc, Keeps [j] H Hc → ∀ k x, KeyOk k → SCall Try.prog f ([] ++ [.agg (keyC k), .int .i64 x] ++ caps) Hc fun r H' => r = .bool (p k x) ∧ H' = Hc) :
    SCall Try.prog 34 [.mp j, .func (.func f) [] caps] H fun _ H' => H'[j]? = some (some (.map (mapV keyV untV (es.filter fun e => !p e.1 e.2)))) ∧ Keeps [j] H H' := by
  have hj := lt_of_get hm
  refine scall_of (T := tdOf Try.prog) (ord := ordGr) (rs := []) Try.func34 rfl (by kernel_rfl) (by kernel_rfl) (by kernel_rfl) Try.ntmps34 fun hb hargs => ?_
  refine Runs.births (by rfl) hm fun n bs hbl hlt hpw => ?_
  have hlen : bs.length = es.length := by simpa [mapV] using hbl
  obtain ⟨L, hL1, hL2⟩ : ∃ L : List (Nat × (GKey × Int)), L.map (·.1) = bs ∧ L.map (·.2) = es := ⟨bs.zip es, by rw [List.map_fst_zip (by omega)], by rw [List.map_snd_zip (by omega)]⟩
  subst hL1
  subst hL2
  have hbn : (L.map (·.1)).Nodup := hpw.imp fun h => Nat.ne_of_lt h
  have hkn : (L.map (·.2.1)).Nodup := by rw [List.map_map] at hn; exact hn
  refine go 200 (fun _ => false) mixed ?_
  simp (disch := omega) only [↓reduceIte, go_sem, hj] <;> repeat with_reducible refine And.intro (by first | omega | decide) ?_
  refine runs_loopA (fun a : DF => a.H[j]? = some (some (.mapx n ((curL p a.seen L).map (·.1)) (mapV keyV untV ((curL p a.seen L).map (·.2))))) ∧ a.H[H.length]? = some (some (.mapit j n a.seen n)) ∧ Keeps [j] H a.H) (fun a => leftN a.seen L)
    [true, true, false, false, false, false, false, true]
    (fun a => slots 19 [.mp j, .func (.func f) [] caps, .any, .any, .any, .any, .any, .ptr H.length 0 0]) (fun a => a.H) (by rfl) ⟨_, []⟩ ⟨by show _ = _; simp only [cur_nil]; rw [get_app_lt (by simpa using hj), get_set_self hj], by rw [get_tail0s]; rfl, (Keeps.setF (by simp)).trans Keeps.app⟩ rfl rfl ?_
  rintro ⟨Ha, seen⟩ ⟨h1, h2, h3⟩
  change Ha[j]? = _ at h1
  change Ha[H.length]? = _ at h2
  change Keeps [j] H Ha at h3
  have hall : (List.map (fun x => x.1) (curL p seen L)).all (fun b => decide (b < n)) = true := by
    rw [List.all_eq_true]
    intro b hb
    obtain ⟨e, he, rfl⟩ := List.mem_map.mp hb
    exact decide_eq_true (hlt e.1 (List.mem_map_of_mem (List.mem_filter.mp he).1))
  refine go 200 (fun _ => false) mixed ?_
  simp (disch := omega) only [↓reduceIte, go_sem, h1, h2, hall] <;> repeat with_reducible refine And.intro (by first | omega | decide) ?_
  have hjH : j ≠ H.length := by omega
  have hja : j < Ha.length := lt_of_get h1
  have hia : H.length < Ha.length := lt_of_get h2
  rintro v H' (⟨rfl, rfl, hend⟩ | ⟨j', b, e, he, hb', hs, rfl, rfl⟩)
  · refine go 200 (fun _ => false) mixed ?_
    simp (disch := omega) only [↓reduceIte, go_sem] <;> repeat with_reducible refine And.intro (by first | omega | decide) ?_
    refine go 200 (fun _ => false) mixed ?_
    simp (disch := omega) only [↓reduceIte, go_sem] <;> repeat with_reducible refine And.intro (by first | omega | decide) ?_
    refine ⟨trivial, _, _, Ghost.unborn h1, ?_, h3.trans (Keeps.setF (by simp))⟩
    rw [get_set_self hja, cur_end hend, List.filter_map]
    rfl
  · obtain ⟨k, x, hmem, hat, rfl⟩ := mapV_at he hb'
    have hmL : (b, k, x) ∈ L := (List.mem_filter.mp hmem).1
    have hkk : KeyOk k := hk (k, x) (List.mem_map_of_mem hmL)
    have hcp : ((curL p seen L).map (·.1)).Pairwise (· < ·) := hpw.sublist ((List.filter_sublist).map _)
    have hfb : findB b (List.map (fun x => x.1) (curL p seen L)) (mapV keyV untV (List.map (fun x => x.2) (curL p seen L))) = some (keyV k, untV x) := findB_of hcp hb' he
    have hgl : (seen ++ [b]).getLast? = some b := by simp
    have kl := keyC_len hkk
    have kt := keyC_take hkk
    have kg := keyC_tag hkk
    have hK1 : Keeps [j] H (Ha.set H.length (some (.mapit j n (seen ++ [b]) n)) ++ [some (.cells 0 (keyC k))]) :=
      ⟨by simp; omega, fun i hi hn => by rw [get_app_lt (by simp; omega), get_set_ne (by omega)]; exact h3.2 i hi hn⟩
    have hc := hcall _ hK1 k x hkk
    refine go 200 (fun _ => false) mixed ?_
    simp (disch := omega) only [↓reduceIte, go_sem, h1, hfb, hgl, kl, kt, keyV, untV, keyC_one] <;> repeat with_reducible refine And.intro (by first | omega | decide) ?_
    refine hc.mono fun r H5 ⟨e1, e2⟩ => ?_
    rw [e1, e2]
    have hlt' := left_lt hs (L := L) (List.mem_map_of_mem (f := fun e : Nat × (GKey × Int) => e.1) hmL)
    cases hp : p k x with
    | false =>
      have hck := cur_keep (seen := seen) hbn hmL hp
      refine go 200 (fun _ => false) mixed ?_
      simp (disch := omega) only [↓reduceIte, go_sem] <;> repeat with_reducible refine And.intro (by first | omega | decide) ?_
      exact rnd_next ⟨_, seen ++ [b]⟩ ⟨by show _ = _; simp only [hck]; rw [get_app_lt (by simpa using hja), get_set_ne (Ne.symm hjH)]; exact h1, by rw [get_app_lt (by simpa using hia), get_set_self hia], hK1⟩ hlt' rfl rfl
    | true =>
      have hcd := cur_del (seen := seen) hbn hkn hmL hp
      have hckn : ((curL p seen L).map (·.2.1)).Nodup := hkn.sublist ((List.filter_sublist).map _)
      obtain ⟨dm, db⟩ := delx_map (vf := untV) key_rep k (curL p seen L) hckn
      rw [← hcd] at dm db
      have dm : delM (.agg (keyC k)) (mapV keyV untV (List.map (fun x => x.2) (curL p seen L))) = mapV keyV untV (List.map (fun x => x.2) (curL p (seen ++ [b]) L)) := dm
      have db : delB (.agg (keyC k)) (List.map (fun x => x.1) (curL p seen L)) (mapV keyV untV (List.map (fun x => x.2) (curL p seen L))) = List.map (fun x => x.1) (curL p (seen ++ [b]) L) := db
      have kb := keysB_ok (es := (curL p seen L).map (·.2)) (fun e he => by
        obtain ⟨y, hy, rfl⟩ := List.mem_map.mp he
        exact hk _ (List.mem_map_of_mem (List.mem_filter.mp hy).1))
      have gj : ∀ o M, (Ha.set H.length o ++ M)[j]? = some (some (.mapx n ((curL p seen L).map (·.1)) (mapV keyV untV ((curL p seen L).map (·.2))))) := fun o M => by rw [get_app_lt (by simpa using hja), get_set_ne (Ne.symm hjH)]; exact h1
      have sj : ∀ o M y, (Ha.set H.length o ++ M).set j y = (Ha.set H.length o).set j y ++ M := fun o M y => set_app_lt (by simpa using hja)
      refine go 200 (fun _ => false) mixed ?_
      simp (disch := omega) only [↓reduceIte, go_sem, gj, sj, kl, kt, kg, kb, dm, db] <;> repeat with_reducible refine And.intro (by first | omega | decide) ?_
      refine rnd_next ⟨_, seen ++ [b]⟩ ⟨?_, ?_, ?_⟩ hlt' rfl rfl
      · show _ = _
        rw [get_app_lt (by simpa using hja), get_set_self (by simpa using hja)]
      · show _ = _
        rw [get_app_lt (by simpa using hia), get_set_ne hjH, get_set_self hia]
      · exact ⟨by simp; omega, fun i hi hn => by
          have : i ≠ j := fun e => hn (by simp [e])
          rw [get_app_lt (by simp; omega), get_set_ne (Ne.symm this), get_set_ne (by omega)]; exact h3.2 i hi hn⟩

theorem orgC_len {o : Org} : (orgC o).length = 3 := rfl
theorem orgC_take {o : Org} : List.take 3 (orgC o) = orgC o := rfl
theorem orgC_one {o : Org} : (orgC o).all PV.one = true := rfl
theorem orgC_tag {o : Org} : List.map tagP (orgC o) = [some .s, some .s, some (.i .i64)] := rfl
theorem keyC_page {k : GKey} : List.take 3 (keyC k) = orgC k.page := rfl
theorem bdd_org {n : Nat} {o : Org} : Bdd n (.agg (orgC o)) := .agg _ fun p hp => by
  simp only [orgC, List.mem_cons, List.not_mem_nil, or_false] at hp
  rcases hp with rfl | rfl | rfl <;> simp

theorem drop_1 {H : Heap} {i : Nat} {o : Org} (ho : H[i]? = some (some (.cells 0 (orgC o)))) (k : GKey) (hk : KeyOk k) (x : Int) :
    SCall Try.prog 35 ([] ++ [.agg (keyC k), .int .i64 x] ++ [.ptr i 0 0]) H fun r H' => r = .bool (decide (k.page = o)) ∧ H' = H := by
  have hi := lt_of_get ho
  have oc := obj_of ho
  have kl := keyC_len hk
  refine scall_of (ord := fun _ => []) (rs := [5]) Try.func35 rfl (by kernel_rfl) (by kernel_rfl) (by kernel_rfl) Try.ntmps35 fun hb hargs => go 200 (fun _ => false) mixed ?_
  have he : (orgC k.page = orgC o) = (k.page = o) := propext orgC_inj
  simp (disch := omega) only [↓reduceIte, go_sem, oc, kl, orgC_len, orgC_take, orgC_one, orgC_tag, keyC_page, keyC_one, he] <;> repeat with_reducible refine And.intro (by first | omega | decide) ?_
  exact fin_drop (.inr rfl) hb rfl (by simp)

theorem c_grant_Book_Drop {H : Heap} {i j : Nat} {room : Int} {es : Grants} (h : BkAt H i j room es) (hn : (es.map (·.1)).Nodup) (hl : es.length < 1000000) (o : Org) :
    SCall Try.prog 20 [.ptr i 0 0, .agg (orgC o)] H fun r H' => r = .int .i64 ((es.length : Nat) - ((es.filter fun e => !decide (e.1.page = o)).length : Nat)) ∧ BkAt H' i j room (es.filter fun e => !decide (e.1.page = o)) ∧ Keeps [j] H H' := by
  have hi := lt_of_get h.cell
  have hj := lt_of_get h.map
  have hne := h.ne
  have oc := obj_of h.cell
  have om := h.map
  refine scall_of (ord := fun _ => []) (rs := [4]) Try.func20 rfl (by kernel_rfl) (by kernel_rfl) (by kernel_rfl) Try.ntmps20 fun hb hargs => go 200 (fun _ => false) mixed ?_
  simp (disch := omega) only [↓reduceIte, go_sem, oc, om, mapV_len, orgC_len, orgC_take, orgC_one] <;> repeat with_reducible refine And.intro (by first | omega | decide) ?_
  have hm : (H ++ [some (.cells 0 (orgC o))])[j]? = some (some (.map (mapV keyV untV es))) := by rw [get_app_lt hj]; exact om
  have hij : H.length ≠ j := by omega
  refine (delfunc hm h.ok hn 35 [.ptr H.length 0 0] (fun k _ => decide (k.page = o)) (fun Hc hK k x hk => drop_1 (hK.get (by rw [get_tail0]; rfl) (by simpa using hij)) k hk x)).mono fun r H3 ⟨h3, hK3⟩ => ?_
  have hc3 : H3[i]? = some (some (.cells 0 [.int .i64 room, .mp j])) := hK3.get (by rw [get_app_lt hi]; exact h.cell) (by simpa using hne)
  have oc3 := obj_of hc3
  have hw : IntKind.i64.wrap ((es.length : Int) - (es.filter fun e => !decide (e.1.page = o)).length) = (es.length : Int) - (es.filter fun e => !decide (e.1.page = o)).length := by
    have := List.length_filter_le (fun e : GKey × Int => !decide (e.1.page = o)) es
    exact w64 (by omega) (by omega)
  refine go 200 (fun _ => false) mixed ?_
  simp (disch := omega) only [↓reduceIte, go_sem, oc3, h3, mapV_len, hw] <;> repeat with_reducible refine And.intro (by first | omega | decide) ?_
  exact Ends.same (.inr rfl) ⟨rfl, ⟨hc3, h3, fun e he => h.ok e (List.mem_filter.mp he).1⟩, (Keeps.app.trans hK3).mono (by simp)⟩
end Go.Proofs.GoC
