/-
  What the functions compute: a deed, of the cache and of the document's. No claim by itself. (Printed by mkcachef.py.)
-/
import Derived.Test.YtcmbnoloimdlaaaGoCacheE
import Derived.Test.YtcmbnoloimdlaaaGoCache9
namespace Go.Proofs.GoC
open Go Go.Proofs.SL
set_option linter.unusedSimpArgs false
set_option linter.unusedVariables false
set_option maxRecDepth 10000
set_option maxHeartbeats 2000000

theorem tilC_perm {es gs : Ents} (h : Two es gs) (k : CKey) : findA k es = findA k gs := by
  cases h1 : findA k gs with
  | some x => exact (find_mem h.nodup).mpr (h.perm.mem_iff.mpr ((find_mem h.nodup2).mp h1))
  | none => exact find_none.mpr fun h2 => find_none.mp h1 ((h.perm.map _).mem_iff.mp h2)

/-- What the document puts of a lifetime of less than 1. -/
theorem putD_late (room : Int) (gs : Ents) (name : List UInt8) (kind : Int) (l : Ads) (ttl now : Int) (ht : ttl < 1) :
    PCall Try.prog 12 [rcV room gs, .str (bs name), .int .i64 kind, .sl 17 (adsV l), .int .i64 ttl, .int .i64 now] (.tup [rcV room gs, .agg e0C, .bool false]) := by
  intro H
  refine scall_ofc (ord := ordCR) (tdOf_ok _) (rs := [.cell 12 27,.cell 13 33, .tmp 14]) Try.func12 rfl (by kernel_rfl) (by kernel_rfl) (by kernel_rfl) Try.ntmps12 fun hb hargs => go 200 (fun t => t==147) mixed ?_
  unfold rcV
  simp (disch := omega) only [↓reduceIte, go_sem, ht] <;> repeat with_reducible refine And.intro (by first | omega | decide) ?_
  exact fin_c (.inr rfl) hb (by (simp (disch := omega) only [↓reduceIte, go_sem, resE_3] <;> repeat with_reducible refine And.intro (by first | omega | decide) ?_) <;> first | rfl | (show _ = _; rfl)) (bdd_tup.mpr fun p hp => by
    simp only [List.mem_cons, List.not_mem_nil, or_false] at hp
    rcases hp with rfl | rfl | rfl
    · exact bdd_agg.mpr bdd_rcV
    · exact bdd_agg.mpr bdd_e0C
    · simp)

/-- What both put, whatever the lifetime. -/
theorem put_both {H : Heap} {i j : Nat} {room : Int} {es gs : Ents} (h : CaAt H i j room es) (hs : Three room es gs) (r1 : 1 ≤ room) (r2 : room ≤ 64) (name : List UInt8) (hn : name.length < 1000000) (kind : Int) (l : Ads) (hl : AdsOk l) (ttl now : Int) (n1 : 0 ≤ now) (n2 : now ≤ 2199023255552) :
    ∃ (gs' : Ents) (g : List PV) (k : CKey) (b : Bool), PCall Try.prog 12 [rcV room gs, .str (bs name), .int .i64 kind, .sl 17 (adsV l), .int .i64 ttl, .int .i64 now] (.tup [rcV room gs', .agg g, .bool b]) ∧
      (∃ x y, g = [.str (bs k.name), .int .i64 k.typ, x, .int .i64 y] ∧ PV.one x = true) ∧
      ∀ L, SCall Try.prog 13 [.ptr i 0 0, .str (bs name), .int .i64 kind, .sl 17 (adsV l), .int .i64 ttl, .int .i64 now] (H ++ L) fun r H' => ∃ es', r = .tup [.agg (ckC k), .bool b] ∧ CaAt H' i j room es' ∧ Three room es' gs' ∧ Keeps [j] (H ++ L) H' := by
  by_cases ht : ttl < 1
  · exact ⟨gs, e0C, ck0, false, putD_late room gs name kind l ttl now ht, ⟨_, _, rfl, rfl⟩, fun L => (putC_late h.app name kind l ttl now ht).mono fun r H' ⟨e1, e2, e3⟩ => ⟨es, e1, e2, hs, e3⟩⟩
  · have hle := hs.len
    have hlen := hs.two.len
    refine ⟨_, _, _, _, c_abatisref10_Put room r1 gs (by omega) name hn kind l ttl now (by omega) n1 n2, ?_, fun L => c_cache_Cache_Put h.app hs r1 r2 name hn kind l hl ttl now (by omega) n1 n2⟩
    have hno : (putC room gs ⟨lowF name, kind⟩ (entP l ttl now) now).2.2 = false → (putC room gs ⟨lowF name, kind⟩ (entP l ttl now) now).2.1 = ent0 := by
      unfold putC midC
      split
      · intro _; rfl
      · split
        · split
          · intro h; cases h
          · intro _; rfl
        · intro _; rfl
    generalize putC room gs ⟨lowF name, kind⟩ (entP l ttl now) now = pr at *
    obtain ⟨gs1, g, b⟩ := pr
    dsimp only at hno ⊢
    cases b with
    | true => exact ⟨_, _, rfl, rfl⟩
    | false => rw [hno rfl]; exact ⟨_, _, rfl, rfl⟩

structure CDeed where
  kind : Int
  typ : Int
  ttl : Int
  wait : Int
  name : List UInt8
  l : Ads
def cdC (d : CDeed) : List PV := [.int .i64 d.kind, .int .i64 d.typ, .int .i64 d.ttl, .int .i64 d.wait, .str (bs d.name), .sl 17 (adsV d.l)]
structure CDeedOk (d : CDeed) : Prop where
  w1 : -9223372036854775808 ≤ d.wait
  w2 : d.wait ≤ 9223372036854775807
  ads : ∀ a ∈ d.l, AdOk a
  len : d.l.length ≤ 9223372036854775807
theorem cdC_one {d : CDeed} : (cdC d).all PV.one = true := rfl
theorem cdC_len {d : CDeed} : (cdC d).length = 6 := rfl
theorem cdC_take {d : CDeed} : List.take 6 (cdC d) = cdC d := rfl

def ordCF : Nat → List Nat
  | 9 => [0, 1, 2, 3, 4, 5, 6, 7, 8, 9, 10, 11, 12, 14, 20, 13, 13, 20, 5, 15, 16, 17, 18, 19, 18, 15, 16, 17, 19, 20, 13, 15, 20, 5, 13, 16, 17, 18, 19, 18, 13, 16, 17, 19, 18, 13, 15, 16, 17, 19]
  | 13 => [1, 2, 11, 9, 0, 3, 4, 5, 6, 7, 8, 9, 10, 3, 0, 4, 5, 6, 7, 8, 9, 10]
  | 16 => [1, 2, 4, 8, 5, 0, 3, 5, 6, 7, 3, 0, 5, 6, 7]
  | 21 => [0, 1, 2, 3, 4, 5, 6, 7, 8, 9, 10, 11, 12, 13]
  | _ => []
theorem ordCF_9 : ordCF 9 = [0, 1, 2, 3, 4, 5, 6, 7, 8, 9, 10, 11, 12, 14, 20, 13, 13, 20, 5, 15, 16, 17, 18, 19, 18, 15, 16, 17, 19, 20, 13, 15, 20, 5, 13, 16, 17, 18, 19, 18, 13, 16, 17, 19, 18, 13, 15, 16, 17, 19] := rfl
theorem ordCF_13 : ordCF 13 = [1, 2, 11, 9, 0, 3, 4, 5, 6, 7, 8, 9, 10, 3, 0, 4, 5, 6, 7, 8, 9, 10] := rfl
theorem ordCF_16 : ordCF 16 = [1, 2, 4, 8, 5, 0, 3, 5, 6, 7, 3, 0, 5, 6, 7] := rfl
theorem ordCF_21 : ordCF 21 = [0, 1, 2, 3, 4, 5, 6, 7, 8, 9, 10, 11, 12, 13] := rfl

theorem c_abatislaw10_does {H : Heap} {i j : Nat} {room : Int} {es gs : Ents} (h : CaAt H i j room es) (hs : Three room es gs) (r1 : 1 ≤ room) (r2 : room ≤ 64) (d : CDeed) (hd : CDeedOk d) (now : Int) (n1 : 0 ≤ now) (n2 : now ≤ 2199023255552) :
    SCall Try.prog 23 [.ptr i 0 0, rcV room gs, .agg (cdC d), .int .i64 now] H fun r H' => ∃ es' gs', r = .tup [rcV room gs', .bool true] ∧ CaAt H' i j room es' ∧ Three room es' gs' ∧ Keeps [j] H H' := by
  have hi := lt_of_get h.cell
  have hj := lt_of_get h.map
  have hne := h.ne
  have hlen := hs.two.len
  have hle := hs.len
  have hdl := hd.len
  refine scall_ofd (ord := ordCF) (tdOf_ok _) (rs := [.cell 8 27, .tmp 9]) Try.func23 rfl (by kernel_rfl) (by kernel_rfl) (by kernel_rfl) Try.ntmps23 fun hb hargs => go 200 (fun _ => false) mixed ?_
  unfold rcV
  simp (disch := omega) only [↓reduceIte, go_sem, cdC] <;> repeat with_reducible refine And.intro (by first | omega | decide) ?_
  refine (c_abatisref01_Few d.name 6).on (go 6 (fun _ => false) mixed ?_)
  simp (disch := omega) only [↓reduceIte, go_sem] <;> repeat with_reducible refine And.intro (by first | omega | decide) ?_
  have hnl : (d.name.take 6).length < 1000000 := by rw [List.length_take]; omega
  generalize d.name.take 6 = nm at *
  refine go 7 (fun _ => false) mixed ?_
  simp (disch := omega) only [↓reduceIte, go_sem] <;> repeat with_reducible refine And.intro (by first | omega | decide) ?_
  refine runs_cut [true, false, false, true, false, true, true, false, true, true, true, true]
    (fun σ K => ∃ l : Ads, AdsOk l ∧ σ = slots 160 [.ptr i 0 0, .any, .any, .int .i64 now, .any, .ptr H.length 0 0, .ptr (H.length + 1) 0 0, .any, .ptr (H.length + 2) 0 0, .bool false, .str (bs nm), .sl 17 (adsV l)] ∧
      K = H ++ [some (.cells 0 [.int .i64 room, .sl 4 (esV gs)]), some (.cells 0 [.int .i64 d.kind, .int .i64 d.typ, .int .i64 d.ttl, .int .i64 d.wait, .str (bs d.name), .sl 17 (adsV d.l)]), some (.cells 0 [.int .i64 0, .nils])]) (by rfl) ?_ ?_
  · refine go 200 (fun _ => false) mixed ?_
    by_cases h3 : 3 < d.l.length
    · simp (disch := omega) only [↓reduceIte, go_sem, h3] <;> repeat with_reducible refine And.intro (by first | omega | decide) ?_
      exact mid_to ⟨d.l.take 3, ⟨fun a ha => hd.ads a (List.mem_of_mem_take ha), by rw [List.length_take]; omega⟩, rfl, rfl⟩
    · simp (disch := omega) only [↓reduceIte, go_sem, h3] <;> repeat with_reducible refine And.intro (by first | omega | decide) ?_
      exact mid_to ⟨d.l, ⟨hd.ads, by omega⟩, rfl, rfl⟩
  rintro σ K ⟨l, hl, rfl, rfl⟩
  have hsz := fun e he => (h.ok e he).len
  by_cases hk0 : d.kind = 0
  · obtain ⟨gs', g, k, b, hput, ⟨x, y, rfl, hx⟩, hbk⟩ := put_both (H := H) h hs r1 r2 nm hnl d.typ l hl d.ttl now n1 n2
    unfold rcV at hput
    unfold PV.one at hx
    refine go 12 (fun _ => false) mixed ?_
    simp (disch := omega) only [↓reduceIte, go_sem, hk0] <;> repeat with_reducible refine And.intro (by first | omega | decide) ?_
    refine go 200 (fun _ => false) mixed ?_
    simp (disch := omega) only [↓reduceIte, go_sem, hk0] <;> repeat with_reducible refine And.intro (by first | omega | decide) ?_
    refine hput.on (go 6 (fun _ => false) mixed ?_)
    simp (disch := omega) only [↓reduceIte, go_sem] <;> repeat with_reducible refine And.intro (by first | omega | decide) ?_
    refine go 3 (fun _ => false) mixed ?_
    simp (disch := omega) only [↓reduceIte, go_sem, hx] <;> repeat with_reducible refine And.intro (by first | omega | decide) ?_
    refine go 3 (fun _ => false) mixed ?_
    simp (disch := omega) only [↓reduceIte, go_sem, hx] <;> repeat with_reducible refine And.intro (by first | omega | decide) ?_
    refine go 3 (fun _ => false) mixed ?_
    simp (disch := omega) only [↓reduceIte, go_sem, hx] <;> repeat with_reducible refine And.intro (by first | omega | decide) ?_
    refine go 3 (fun _ => false) mixed ?_
    simp (disch := omega) only [↓reduceIte, go_sem, hx] <;> repeat with_reducible refine And.intro (by first | omega | decide) ?_
    refine go 200 (fun _ => false) mixed ?_
    simp (disch := omega) only [↓reduceIte, go_sem, hx] <;> repeat with_reducible refine And.intro (by first | omega | decide) ?_
    refine (hbk _).mono fun r H2 ⟨es', e1, hB2, hs2, k2⟩ => ?_
    rw [e1]
    have hr2 : H2[H.length + 2]? = some (some (.cells 0 [.int .i64 0, .nils])) := k2.get (by rw [get_tail]; rfl) (by simp; omega)
    have hn2 : H2[H.length + 3]? = some (some (.cells 0 [.int .i64 room, .sl 4 (esV gs')])) := k2.get (by rw [get_tail]; rfl) (by simp; omega)
    have hg2 : H2[H.length + 4]? = some (some (.cells 0 [.str (bs k.name), .int .i64 k.typ, x, .int .i64 y])) := k2.get (by rw [get_tail]; rfl) (by simp; omega)
    have l2 := lt_of_get hg2
    have kk2 : Keeps [j] H H2 := (Keeps.app.trans k2).mono (by simp)
    have or2 := obj_of hr2
    have on2 := obj_of hn2
    have og2 := obj_of hg2
    refine go 6 (fun _ => false) mixed ?_
    simp (disch := omega) only [↓reduceIte, go_sem, ckC] <;> repeat with_reducible refine And.intro (by first | omega | decide) ?_
    refine go 2 (fun _ => false) mixed ?_
    simp (disch := omega) only [↓reduceIte, go_sem, ordCF_9, or2, on2, og2] <;> repeat with_reducible refine And.intro (by first | omega | decide) ?_
    refine go 2 (fun _ => false) mixed ?_
    simp (disch := omega) only [↓reduceIte, go_sem, ordCF_9, or2, on2, og2] <;> repeat with_reducible refine And.intro (by first | omega | decide) ?_
    refine go 2 (fun _ => false) mixed ?_
    simp (disch := omega) only [↓reduceIte, go_sem, ordCF_9, or2, on2, og2] <;> repeat with_reducible refine And.intro (by first | omega | decide) ?_
    refine go 2 (fun _ => false) mixed ?_
    simp (disch := omega) only [↓reduceIte, go_sem, ordCF_9, or2, on2, og2] <;> repeat with_reducible refine And.intro (by first | omega | decide) ?_
    refine go 2 (fun _ => false) mixed ?_
    simp (disch := omega) only [↓reduceIte, go_sem, ordCF_9, or2, on2, og2] <;> repeat with_reducible refine And.intro (by first | omega | decide) ?_
    refine go 2 (fun _ => false) mixed ?_
    simp (disch := omega) only [↓reduceIte, go_sem, ordCF_9, or2, on2, og2] <;> repeat with_reducible refine And.intro (by first | omega | decide) ?_
    refine go 2 (fun _ => false) mixed ?_
    simp (disch := omega) only [↓reduceIte, go_sem, ordCF_9, or2, on2, og2] <;> repeat with_reducible refine And.intro (by first | omega | decide) ?_
    refine go 2 (fun _ => false) mixed ?_
    simp (disch := omega) only [↓reduceIte, go_sem, ordCF_9, or2, on2, og2] <;> repeat with_reducible refine And.intro (by first | omega | decide) ?_
    refine go 2 (fun _ => false) mixed ?_
    simp (disch := omega) only [↓reduceIte, go_sem, ordCF_9, or2, on2, og2] <;> repeat with_reducible refine And.intro (by first | omega | decide) ?_
    refine go 2 (fun _ => false) mixed ?_
    simp (disch := omega) only [↓reduceIte, go_sem, ordCF_9, or2, on2, og2] <;> repeat with_reducible refine And.intro (by first | omega | decide) ?_
    refine go 2 (fun _ => false) mixed ?_
    simp (disch := omega) only [↓reduceIte, go_sem, ordCF_9, or2, on2, og2] <;> repeat with_reducible refine And.intro (by first | omega | decide) ?_
    refine go 2 (fun _ => false) mixed ?_
    simp (disch := omega) only [↓reduceIte, go_sem, ordCF_9, or2, on2, og2] <;> repeat with_reducible refine And.intro (by first | omega | decide) ?_
    refine go 2 (fun _ => false) mixed ?_
    simp (disch := omega) only [↓reduceIte, go_sem, ordCF_9, or2, on2, og2] <;> repeat with_reducible refine And.intro (by first | omega | decide) ?_
    refine go 2 (fun _ => false) mixed ?_
    simp (disch := omega) only [↓reduceIte, go_sem, ordCF_9, or2, on2, og2] <;> repeat with_reducible refine And.intro (by first | omega | decide) ?_
    refine go 2 (fun _ => false) mixed ?_
    simp (disch := omega) only [↓reduceIte, go_sem, ordCF_9, or2, on2, og2] <;> repeat with_reducible refine And.intro (by first | omega | decide) ?_
    refine go 2 (fun _ => false) mixed ?_
    simp (disch := omega) only [↓reduceIte, go_sem, ordCF_9, or2, on2, og2] <;> repeat with_reducible refine And.intro (by first | omega | decide) ?_
    refine go 2 (fun _ => false) mixed ?_
    simp (disch := omega) only [↓reduceIte, go_sem, ordCF_9, or2, on2, og2] <;> repeat with_reducible refine And.intro (by first | omega | decide) ?_
    refine go 2 (fun _ => false) mixed ?_
    simp (disch := omega) only [↓reduceIte, go_sem, ordCF_9, or2, on2, og2] <;> repeat with_reducible refine And.intro (by first | omega | decide) ?_
    refine go 2 (fun _ => false) mixed ?_
    simp (disch := omega) only [↓reduceIte, go_sem, ordCF_9, or2, on2, og2] <;> repeat with_reducible refine And.intro (by first | omega | decide) ?_
    refine go 200 (fun _ => false) mixed ?_
    simp (disch := omega) only [↓reduceIte, go_sem, or2, on2, og2] <;> repeat with_reducible refine And.intro (by first | omega | decide) ?_
    refine runs_fork (l1 := [13, 20, 5, 15, 16, 17, 18, 19, 18, 15, 16, 17, 19]) (l2 := [20, 13, 15, 20, 5, 13, 16, 17, 18, 19, 18, 13, 16, 17, 19, 18, 13, 15, 16, 17, 19]) rfl rfl (go 200 (fun _ => false) mixed ?_) ?_
    · simp (disch := omega) only [↓reduceIte, go_sem, or2, on2, og2] <;> repeat with_reducible refine And.intro (by first | omega | decide) ?_
      refine runs_fork (l1 := [15, 16, 17, 18, 19]) (l2 := [18, 15, 16, 17, 19]) rfl rfl (go 200 (fun _ => false) mixed ?_) (go 200 (fun _ => false) mixed ?_)
      all_goals
        simp (disch := omega) only [↓reduceIte, go_sem, or2, on2, og2] <;> repeat with_reducible refine And.intro (by first | omega | decide) ?_
        exact EndsD.same (r := .tup [.agg [.int .i64 room, .sl 4 (esV gs')], .bool true]) (.inr rfl) (by simp (disch := omega) only [↓reduceIte, go_sem] <;> repeat with_reducible refine And.intro (by first | omega | decide) ?_) ⟨es', gs', rfl, (hB2.setN (by omega) (by omega)).app, hs2, keep_setApp kk2 (by omega)⟩
    · refine runs_fork (l1 := [15, 20, 5, 13, 16, 17, 18, 19, 18, 13, 16, 17, 19]) (l2 := [18, 13, 15, 16, 17, 19]) rfl rfl (go 200 (fun _ => false) mixed ?_) (go 200 (fun _ => false) mixed ?_)
      · simp (disch := omega) only [↓reduceIte, go_sem, or2, on2, og2] <;> repeat with_reducible refine And.intro (by first | omega | decide) ?_
        refine runs_fork (l1 := [13, 16, 17, 18, 19]) (l2 := [18, 13, 16, 17, 19]) rfl rfl (go 200 (fun _ => false) mixed ?_) (go 200 (fun _ => false) mixed ?_)
        all_goals
          simp (disch := omega) only [↓reduceIte, go_sem, or2, on2, og2] <;> repeat with_reducible refine And.intro (by first | omega | decide) ?_
          exact EndsD.same (r := .tup [.agg [.int .i64 room, .sl 4 (esV gs')], .bool true]) (.inr rfl) (by simp (disch := omega) only [↓reduceIte, go_sem] <;> repeat with_reducible refine And.intro (by first | omega | decide) ?_) ⟨es', gs', rfl, (hB2.setN (by omega) (by omega)).app, hs2, keep_setApp kk2 (by omega)⟩
      · skip
        simp (disch := omega) only [↓reduceIte, go_sem, or2, on2, og2] <;> repeat with_reducible refine And.intro (by first | omega | decide) ?_
        exact EndsD.same (r := .tup [.agg [.int .i64 room, .sl 4 (esV gs')], .bool true]) (.inr rfl) (by simp (disch := omega) only [↓reduceIte, go_sem] <;> repeat with_reducible refine And.intro (by first | omega | decide) ?_) ⟨es', gs', rfl, (hB2.setN (by omega) (by omega)).app, hs2, keep_setApp kk2 (by omega)⟩
  · by_cases hk1 : d.kind = 1
    · have hget := fun L => c_cache_Cache_Get (h.app (L := L)) nm hnl d.typ now hsz hs.two.nodup
      have href := c_abatisref10_Get room gs (by omega) nm hnl d.typ now
      have hgf : getF ⟨lowF nm, d.typ⟩ now es = getF ⟨lowF nm, d.typ⟩ now gs := by unfold getF; rw [tilC_perm hs.two]
      rw [hgf] at hget
      have hok : AdsOk (getF ⟨lowF nm, d.typ⟩ now gs).1 := by
        unfold getF
        split
        · rename_i e he
          split
          · exact ads_nil
          · exact hs.two.ok2 _ ((find_mem hs.two.nodup2).mp he)
        · exact ads_nil
      have hsame := c_abatisref10_SameAddrs _ _ hok hok
      rw [decide_eq_true rfl] at hsame
      unfold rcV at href
      generalize getF ⟨lowF nm, d.typ⟩ now gs = x at *
      obtain ⟨al, b⟩ := x
      dsimp only at hget href hok hsame
      refine go 12 (fun _ => false) mixed ?_
      simp (disch := omega) only [↓reduceIte, go_sem, hk0, hk1] <;> repeat with_reducible refine And.intro (by first | omega | decide) ?_
      refine go 200 (fun _ => false) mixed ?_
      simp (disch := omega) only [↓reduceIte, go_sem, hk0, hk1] <;> repeat with_reducible refine And.intro (by first | omega | decide) ?_
      refine (hget _).mono fun r H2 ⟨e1, e2⟩ => ?_
      rw [e1, e2]
      refine go 200 (fun _ => false) mixed ?_
      simp (disch := omega) only [↓reduceIte, go_sem] <;> repeat with_reducible refine And.intro (by first | omega | decide) ?_
      refine href.on (go 7 (fun _ => false) mixed ?_)
      simp (disch := omega) only [↓reduceIte, go_sem] <;> repeat with_reducible refine And.intro (by first | omega | decide) ?_
      refine go 200 (fun _ => false) mixed ?_
      simp (disch := omega) only [↓reduceIte, go_sem, ordCF_13] <;> repeat with_reducible refine And.intro (by first | omega | decide) ?_
      refine runs_fork (l1 := [0, 3, 4, 5, 6, 7, 8, 9, 10]) (l2 := [3, 0, 4, 5, 6, 7, 8, 9, 10]) rfl rfl (go 200 (fun _ => false) mixed ?_) (go 200 (fun _ => false) mixed ?_)
      all_goals
        simp (disch := omega) only [↓reduceIte, go_sem] <;> repeat with_reducible refine And.intro (by first | omega | decide) ?_
        refine hsame.on (go 200 (fun _ => false) mixed ?_)
        cases b <;> simp (disch := omega) only [↓reduceIte, go_sem] <;> repeat with_reducible refine And.intro (by first | omega | decide) ?_
        all_goals exact EndsD.same (r := .tup [.agg [.int .i64 room, .sl 4 (esV gs)], .bool true]) (.inr rfl) (by simp (disch := omega) only [↓reduceIte, go_sem] <;> repeat with_reducible refine And.intro (by first | omega | decide) ?_) ⟨es, gs, rfl, h.app, hs, Keeps.app⟩
    · by_cases hk2 : d.kind = 2
      · have hsw := fun L => c_cache_Cache_Sweep (h.app (L := L)) hs.two.nodup (by omega) now
        have href := c_abatisref10_Sweep room gs (by omega) now
        have hpl : (liveC now es).Perm (liveC now gs) := hs.two.perm.filter _
        rw [hpl.length_eq, hlen] at hsw
        have hs2 : Three room (liveC now es) (liveC now gs) :=
          ⟨⟨hpl, hs.two.nodup.sublist ((List.filter_sublist).map _), fun e he => h.ok e (List.mem_filter.mp he).1⟩, hs.row.sub List.filter_sublist, by
            have := List.length_filter_le (fun e : CKey × Ent => decide (now < e.2.til)) gs
            unfold liveC; omega⟩
        unfold rcV at href
        generalize liveC now es = es1 at *
        generalize liveC now gs = gs1 at *
        refine go 12 (fun _ => false) mixed ?_
        simp (disch := omega) only [↓reduceIte, go_sem, hk0, hk1, hk2] <;> repeat with_reducible refine And.intro (by first | omega | decide) ?_
        refine go 200 (fun _ => false) mixed ?_
        simp (disch := omega) only [↓reduceIte, go_sem, hk0, hk1, hk2] <;> repeat with_reducible refine And.intro (by first | omega | decide) ?_
        refine href.on (go 7 (fun _ => false) mixed ?_)
        simp (disch := omega) only [↓reduceIte, go_sem] <;> repeat with_reducible refine And.intro (by first | omega | decide) ?_
        refine go 200 (fun _ => false) mixed ?_
        simp (disch := omega) only [↓reduceIte, go_sem, ordCF_16] <;> repeat with_reducible refine And.intro (by first | omega | decide) ?_
        refine runs_fork (l1 := [0, 3, 5, 6, 7]) (l2 := [3, 0, 5, 6, 7]) rfl rfl (go 200 (fun _ => false) mixed ?_) (go 200 (fun _ => false) mixed ?_)
        all_goals
          simp (disch := omega) only [↓reduceIte, go_sem] <;> repeat with_reducible refine And.intro (by first | omega | decide) ?_
          refine (hsw _).mono fun r H2 ⟨e1, hB2, k2⟩ => ?_
          rw [e1]
          have hr2 : H2[H.length + 2]? = some (some (.cells 0 [.int .i64 0, .nils])) := k2.get (by rw [get_tail]; rfl) (by simp; omega)
          have hn2 : H2[H.length + 3]? = some (some (.cells 0 [.int .i64 room, .sl 4 (esV gs1)])) := k2.get (by rw [get_tail]; rfl) (by simp; omega)
          have kk2 : Keeps [j] H H2 := (Keeps.app.trans k2).mono (by simp)
          have l2 := lt_of_get hn2
          have or2 := obj_of hr2
          have on2 := obj_of hn2
          refine go 200 (fun _ => false) mixed ?_
          simp (disch := omega) only [↓reduceIte, go_sem, or2, on2] <;> repeat with_reducible refine And.intro (by first | omega | decide) ?_
          exact EndsD.same (r := .tup [.agg [.int .i64 room, .sl 4 (esV gs1)], .bool true]) (.inr rfl) (by simp (disch := omega) only [↓reduceIte, go_sem] <;> repeat with_reducible refine And.intro (by first | omega | decide) ?_) ⟨es1, gs1, rfl, hB2.setN (by omega) (by omega), hs2, keep_setN kk2 (by omega)⟩
      · have hun := fun L => c_cache_Cache_Until (h.app (L := L)) nm hnl d.typ
        have href := c_abatisref10_Find room gs (by omega) nm hnl d.typ
        unfold tilF at hun
        rw [tilC_perm hs.two] at hun
        unfold rcV at href
        refine go 12 (fun _ => false) mixed ?_
        simp (disch := omega) only [↓reduceIte, go_sem, hk0, hk1, hk2] <;> repeat with_reducible refine And.intro (by first | omega | decide) ?_
        refine go 200 (fun _ => false) mixed ?_
        simp (disch := omega) only [↓reduceIte, go_sem, hk0, hk1, hk2] <;> repeat with_reducible refine And.intro (by first | omega | decide) ?_
        refine (hun _).mono fun r H2 ⟨e1, e2⟩ => ?_
        rw [e1, e2]
        refine go 200 (fun _ => false) mixed ?_
        simp (disch := omega) only [↓reduceIte, go_sem] <;> repeat with_reducible refine And.intro (by first | omega | decide) ?_
        refine href.on (go 2 (fun _ => false) mixed ?_)
        rcases idxC_get (k := ⟨lowF nm, d.typ⟩) (gs := gs) (i := 0) with ⟨h1, h2⟩ | ⟨q, hq, h1, h2⟩
        · rw [h1, h2]
          simp (disch := omega) only [↓reduceIte, go_sem] <;> repeat with_reducible refine And.intro (by first | omega | decide) ?_
          refine go 200 (fun _ => false) mixed ?_
          simp (disch := omega) only [↓reduceIte, go_sem] <;> repeat with_reducible refine And.intro (by first | omega | decide) ?_
          exact EndsD.same (r := .tup [.agg [.int .i64 room, .sl 4 (esV gs)], .bool true]) (.inr rfl) (by simp (disch := omega) only [↓reduceIte, go_sem] <;> repeat with_reducible refine And.intro (by first | omega | decide) ?_) ⟨es, gs, rfl, h.app, hs, Keeps.app⟩
        · rw [h1, h2, Nat.zero_add]
          have g := esV_get hq
          generalize gs.getD q ent0 = e at *
          simp (disch := omega) only [↓reduceIte, go_sem] <;> repeat with_reducible refine And.intro (by first | omega | decide) ?_
          refine go 6 (fun _ => false) mixed ?_
          simp (disch := omega) only [↓reduceIte, go_sem] <;> repeat with_reducible refine And.intro (by first | omega | decide) ?_
          refine go 200 (fun _ => false) mixed ?_
          simp (disch := omega) only [↓reduceIte, go_sem, ordCF_21, hq, g, eC] <;> repeat with_reducible refine And.intro (by first | omega | decide) ?_
          exact EndsD.same (r := .tup [.agg [.int .i64 room, .sl 4 (esV gs)], .bool true]) (.inr rfl) (by simp (disch := omega) only [↓reduceIte, go_sem] <;> repeat with_reducible refine And.intro (by first | omega | decide) ?_) ⟨es, gs, rfl, h.app, hs, Keeps.app⟩
end Go.Proofs.GoC
