/-
  What the functions compute: Put. No claim by itself.
-/
import Derived.Test.YtcmbnoloimdlaaaGoCache7
namespace Go.Proofs.GoC
open Go Go.Proofs.SL
set_option linter.unusedSimpArgs false
set_option linter.unusedVariables false
set_option maxRecDepth 10000
set_option maxHeartbeats 4000000

def ordCP : Nat → List Nat
  | 6 => [2010]
  | 7 => [0, 1, 2, 3, 4, 5, 6, 7, 8, 9, 10, 11, 12, 13, 14, 15, 16, 17, 18, 19]
  | 9 => [1005]
  | 10 => [1012]
  | _ => []
theorem ordCP_6 : ordCP 6 = [2010] := rfl
theorem ordCP_7 : ordCP 7 = [0, 1, 2, 3, 4, 5, 6, 7, 8, 9, 10, 11, 12, 13, 14, 15, 16, 17, 18, 19] := rfl
theorem ordCP_9 : ordCP 9 = [1005] := rfl
theorem ordCP_10 : ordCP 10 = [1012] := rfl

/-- A lifetime of less than 1 is not put. -/
theorem putC_late {H : Heap} {i j : Nat} {room : Int} {es : Ents} (h : CaAt H i j room es) (name : List UInt8) (kind : Int) (l : Ads) (ttl now : Int) (ht : ttl < 1) :
    SCall Try.prog 13 [.ptr i 0 0, .str (bs name), .int .i64 kind, .sl 17 (adsV l), .int .i64 ttl, .int .i64 now] H fun r H' => r = .tup [.agg (ckC ck0), .bool false] ∧ CaAt H' i j room es ∧ Keeps [j] H H' := by
  refine scall_ofd (ord := ordCP) (tdOf_ok _) (rs := [.cell 12 37, .tmp 13]) Try.func13 rfl (by kernel_rfl) (by kernel_rfl) (by kernel_rfl) Try.ntmps13 fun hb hargs => go 200 (fun _ => false) mixed ?_
  simp (disch := omega) only [↓reduceIte, go_sem, ht] <;> repeat with_reducible refine And.intro (by first | omega | decide) ?_
  exact EndsD.same (.inr rfl) (by simp (disch := omega) only [↓reduceIte, go_sem, ckC_0] <;> repeat with_reducible refine And.intro (by first | omega | decide) ?_) ⟨rfl, h.app, Keeps.app⟩

theorem capTil {ttl now : Int} (h1 : 1 ≤ ttl) (n1 : 0 ≤ now) (n2 : now ≤ 2199023255552) : IntKind.i64.wrap (now + if 604800 < ttl then 604800 else ttl) = now + if 604800 < ttl then 604800 else ttl := by
  split <;> exact w64 (by omega) (by omega)

def entP (l : Ads) (ttl now : Int) : Ent := ⟨l, now + if 604800 < ttl then 604800 else ttl⟩

/-- An entry is put where there is room. -/
theorem putC_room' {H : Heap} {i j : Nat} {room : Int} {es : Ents} (h : CaAt H i j room es) (name : List UInt8) (hn : name.length < 1000000) (kind : Int) (l : Ads) (hl : AdsOk l) (hll : l.length < 1000000) (ttl now : Int) (ht : 1 ≤ ttl) (n1 : 0 ≤ now) (n2 : now ≤ 2199023255552)
    (hr : (es.length : Int) ≠ room ∨ (findA (⟨lowF name, kind⟩ : CKey) es).isSome = true) :
    SCall Try.prog 13 [.ptr i 0 0, .str (bs name), .int .i64 kind, .sl 17 (adsV l), .int .i64 ttl, .int .i64 now] H fun r H' => r = .tup [.agg (ckC ck0), .bool false] ∧ CaAt H' i j room (putA ⟨lowF name, kind⟩ (entP l ttl now) es) ∧ Keeps [j] H H' := by
  have hi := lt_of_get h.cell
  have hj := lt_of_get h.map
  have hne := h.ne
  have oc := obj_of h.cell
  have om := h.map
  have hk := c_cache_key name hn kind
  have kb := @keysB_ck es
  have ht' : ¬ ttl < 1 := by omega
  have hw := capTil ht n1 n2
  have hcl := c_slices_Clone_api_Addr_api_Addr l hl hll
  have pm : putM (.agg [.str (bs (lowF name)), .int .i64 kind]) (entV (entP l ttl now)) (mapV ckV entV es) = mapV ckV entV (putA ⟨lowF name, kind⟩ (entP l ttl now) es) := put_map (kf := ckV) ck_rep ⟨lowF name, kind⟩ (entP l ttl now) es
  unfold entV entC entP at pm
  have e12 : H.length + 3 + 9 = H.length + 12 := rfl
  refine scall_ofd (ord := ordCP) (tdOf_ok _) (rs := [.cell 12 37, .tmp 13]) Try.func13 rfl (by kernel_rfl) (by kernel_rfl) (by kernel_rfl) Try.ntmps13 fun hb hargs => go 200 (fun _ => false) mixed ?_
  simp (disch := omega) only [↓reduceIte, go_sem, ht'] <;> repeat with_reducible refine And.intro (by first | omega | decide) ?_
  refine hk.on (go 4 (fun _ => false) mixed ?_)
  simp (disch := omega) only [↓reduceIte, go_sem] <;> repeat with_reducible refine And.intro (by first | omega | decide) ?_
  cases hf : findA (⟨lowF name, kind⟩ : CKey) es with
  | some e =>
    have lm := fun z => ca_has z hf
    dsimp only at lm
    refine go 2 (fun _ => false) mixed ?_
    simp (disch := omega) only [↓reduceIte, go_sem, ordCP_6, oc, om, kb, lm, entV, entC, e12] <;> repeat with_reducible refine And.intro (by first | omega | decide) ?_
    refine go 2 (fun _ => false) mixed ?_
    simp (disch := omega) only [↓reduceIte, go_sem, ordCP_6, oc, om, kb, lm, entV, entC, e12] <;> repeat with_reducible refine And.intro (by first | omega | decide) ?_
    refine go 2 (fun _ => false) mixed ?_
    simp (disch := omega) only [↓reduceIte, go_sem, ordCP_6, oc, om, kb, lm, entV, entC, e12] <;> repeat with_reducible refine And.intro (by first | omega | decide) ?_
    refine go 2 (fun _ => false) mixed ?_
    simp (disch := omega) only [↓reduceIte, go_sem, ordCP_6, oc, om, kb, lm, entV, entC, e12] <;> repeat with_reducible refine And.intro (by first | omega | decide) ?_
    refine go 2 (fun _ => false) mixed ?_
    simp (disch := omega) only [↓reduceIte, go_sem, ordCP_6, oc, om, kb, lm, entV, entC, e12] <;> repeat with_reducible refine And.intro (by first | omega | decide) ?_
    refine go 2 (fun _ => false) mixed ?_
    simp (disch := omega) only [↓reduceIte, go_sem, ordCP_6, oc, om, kb, lm, entV, entC, e12] <;> repeat with_reducible refine And.intro (by first | omega | decide) ?_
    refine go 2 (fun _ => false) mixed ?_
    simp (disch := omega) only [↓reduceIte, go_sem, ordCP_6, oc, om, kb, lm, entV, entC, e12] <;> repeat with_reducible refine And.intro (by first | omega | decide) ?_
    refine go 2 (fun _ => false) mixed ?_
    simp (disch := omega) only [↓reduceIte, go_sem, ordCP_6, oc, om, kb, lm, entV, entC, e12] <;> repeat with_reducible refine And.intro (by first | omega | decide) ?_
    refine go 2 (fun _ => false) mixed ?_
    simp (disch := omega) only [↓reduceIte, go_sem, ordCP_6, oc, om, kb, lm, entV, entC, e12] <;> repeat with_reducible refine And.intro (by first | omega | decide) ?_
    refine go 2 (fun _ => false) mixed ?_
    simp (disch := omega) only [↓reduceIte, go_sem, ordCP_6, oc, om, kb, lm, entV, entC, e12] <;> repeat with_reducible refine And.intro (by first | omega | decide) ?_
    refine go 2 (fun _ => false) mixed ?_
    simp (disch := omega) only [↓reduceIte, go_sem, ordCP_6, oc, om, kb, lm, entV, entC, e12] <;> repeat with_reducible refine And.intro (by first | omega | decide) ?_
    refine go 2 (fun _ => false) mixed ?_
    simp (disch := omega) only [↓reduceIte, go_sem, ordCP_6, oc, om, kb, lm, entV, entC, e12] <;> repeat with_reducible refine And.intro (by first | omega | decide) ?_
    refine go 2 (fun _ => false) mixed ?_
    simp (disch := omega) only [↓reduceIte, go_sem, ordCP_6, oc, om, kb, lm, entV, entC, e12] <;> repeat with_reducible refine And.intro (by first | omega | decide) ?_
    refine go 2 (fun _ => false) mixed ?_
    simp (disch := omega) only [↓reduceIte, go_sem, ordCP_6, oc, om, kb, lm, entV, entC, e12] <;> repeat with_reducible refine And.intro (by first | omega | decide) ?_
    refine go 4 (fun _ => false) mixed ?_
    simp (disch := omega) only [↓reduceIte, go_sem, ordCP_7, oc, om] <;> repeat with_reducible refine And.intro (by first | omega | decide) ?_
    refine go 4 (fun _ => false) mixed ?_
    simp (disch := omega) only [↓reduceIte, go_sem, ordCP_7, oc, om] <;> repeat with_reducible refine And.intro (by first | omega | decide) ?_
    refine go 4 (fun _ => false) mixed ?_
    simp (disch := omega) only [↓reduceIte, go_sem, ordCP_7, oc, om] <;> repeat with_reducible refine And.intro (by first | omega | decide) ?_
    refine go 4 (fun _ => false) mixed ?_
    simp (disch := omega) only [↓reduceIte, go_sem, ordCP_7, oc, om] <;> repeat with_reducible refine And.intro (by first | omega | decide) ?_
    refine go 4 (fun _ => false) mixed ?_
    simp (disch := omega) only [↓reduceIte, go_sem, ordCP_7, oc, om] <;> repeat with_reducible refine And.intro (by first | omega | decide) ?_
    refine go 200 (fun _ => false) mixed ?_
    simp (disch := omega) only [↓reduceIte, go_sem, ordCP_7, ordCP_10, oc, om] <;> repeat with_reducible refine And.intro (by first | omega | decide) ?_
    refine hcl.onq (go 200 (fun _ => false) mixed ?_)
    simp (disch := omega) only [↓reduceIte, go_sem, oc, om, kb, hw] <;> repeat with_reducible refine And.intro (by first | omega | decide) ?_
    refine EndsD.same (r := .tup [.agg (ckC ck0), .bool false]) (.inr rfl) (by simp (disch := omega) only [↓reduceIte, go_sem, ckC_0] <;> repeat with_reducible refine And.intro (by first | omega | decide) ?_) ⟨rfl, ⟨?_, ?_, putCa_ok hl h.ok⟩, (Keeps.setF (by simp)).trans Keeps.app⟩
    · rw [get_app_lt (by simpa using hi), get_set_ne (Ne.symm hne)]; exact h.cell
    · rw [get_app_lt (by simpa using hj), get_set_self hj]; exact congrArg (fun x => some (some (OB.map x))) pm
  | none =>
    have lm := fun z => ca_not z hf
    dsimp only at lm
    have hr2 : ((es.length : Nat) : Int) ≠ room := by
      rcases hr with h | h
      · exact h
      · rw [hf] at h; cases h
    refine go 2 (fun _ => false) mixed ?_
    simp (disch := omega) only [↓reduceIte, go_sem, ordCP_6, oc, om, kb, lm, e12] <;> repeat with_reducible refine And.intro (by first | omega | decide) ?_
    refine go 2 (fun _ => false) mixed ?_
    simp (disch := omega) only [↓reduceIte, go_sem, ordCP_6, oc, om, kb, lm, e12] <;> repeat with_reducible refine And.intro (by first | omega | decide) ?_
    refine go 2 (fun _ => false) mixed ?_
    simp (disch := omega) only [↓reduceIte, go_sem, ordCP_6, oc, om, kb, lm, e12] <;> repeat with_reducible refine And.intro (by first | omega | decide) ?_
    refine go 2 (fun _ => false) mixed ?_
    simp (disch := omega) only [↓reduceIte, go_sem, ordCP_6, oc, om, kb, lm, e12] <;> repeat with_reducible refine And.intro (by first | omega | decide) ?_
    refine go 2 (fun _ => false) mixed ?_
    simp (disch := omega) only [↓reduceIte, go_sem, ordCP_6, oc, om, kb, lm, e12] <;> repeat with_reducible refine And.intro (by first | omega | decide) ?_
    refine go 2 (fun _ => false) mixed ?_
    simp (disch := omega) only [↓reduceIte, go_sem, ordCP_6, oc, om, kb, lm, e12] <;> repeat with_reducible refine And.intro (by first | omega | decide) ?_
    refine go 2 (fun _ => false) mixed ?_
    simp (disch := omega) only [↓reduceIte, go_sem, ordCP_6, oc, om, kb, lm, e12] <;> repeat with_reducible refine And.intro (by first | omega | decide) ?_
    refine go 2 (fun _ => false) mixed ?_
    simp (disch := omega) only [↓reduceIte, go_sem, ordCP_6, oc, om, kb, lm, e12] <;> repeat with_reducible refine And.intro (by first | omega | decide) ?_
    refine go 2 (fun _ => false) mixed ?_
    simp (disch := omega) only [↓reduceIte, go_sem, ordCP_6, oc, om, kb, lm, e12] <;> repeat with_reducible refine And.intro (by first | omega | decide) ?_
    refine go 2 (fun _ => false) mixed ?_
    simp (disch := omega) only [↓reduceIte, go_sem, ordCP_6, oc, om, kb, lm, e12] <;> repeat with_reducible refine And.intro (by first | omega | decide) ?_
    refine go 2 (fun _ => false) mixed ?_
    simp (disch := omega) only [↓reduceIte, go_sem, ordCP_6, oc, om, kb, lm, e12] <;> repeat with_reducible refine And.intro (by first | omega | decide) ?_
    refine go 2 (fun _ => false) mixed ?_
    simp (disch := omega) only [↓reduceIte, go_sem, ordCP_6, oc, om, kb, lm, e12] <;> repeat with_reducible refine And.intro (by first | omega | decide) ?_
    refine go 2 (fun _ => false) mixed ?_
    simp (disch := omega) only [↓reduceIte, go_sem, ordCP_6, oc, om, kb, lm, e12] <;> repeat with_reducible refine And.intro (by first | omega | decide) ?_
    refine go 2 (fun _ => false) mixed ?_
    simp (disch := omega) only [↓reduceIte, go_sem, ordCP_6, oc, om, kb, lm, e12] <;> repeat with_reducible refine And.intro (by first | omega | decide) ?_
    refine go 4 (fun _ => false) mixed ?_
    simp (disch := omega) only [↓reduceIte, go_sem, ordCP_7, oc, om, mapV_len, hr2] <;> repeat with_reducible refine And.intro (by first | omega | decide) ?_
    refine go 4 (fun _ => false) mixed ?_
    simp (disch := omega) only [↓reduceIte, go_sem, ordCP_7, oc, om, mapV_len, hr2] <;> repeat with_reducible refine And.intro (by first | omega | decide) ?_
    refine go 4 (fun _ => false) mixed ?_
    simp (disch := omega) only [↓reduceIte, go_sem, ordCP_7, oc, om, mapV_len, hr2] <;> repeat with_reducible refine And.intro (by first | omega | decide) ?_
    refine go 4 (fun _ => false) mixed ?_
    simp (disch := omega) only [↓reduceIte, go_sem, ordCP_7, oc, om, mapV_len, hr2] <;> repeat with_reducible refine And.intro (by first | omega | decide) ?_
    refine go 4 (fun _ => false) mixed ?_
    simp (disch := omega) only [↓reduceIte, go_sem, ordCP_7, oc, om, mapV_len, hr2] <;> repeat with_reducible refine And.intro (by first | omega | decide) ?_
    refine go 4 (fun _ => false) mixed ?_
    simp (disch := omega) only [↓reduceIte, go_sem, ordCP_7, oc, om, mapV_len, hr2] <;> repeat with_reducible refine And.intro (by first | omega | decide) ?_
    refine go 4 (fun _ => false) mixed ?_
    simp (disch := omega) only [↓reduceIte, go_sem, ordCP_7, oc, om, mapV_len, hr2] <;> repeat with_reducible refine And.intro (by first | omega | decide) ?_
    refine go 4 (fun _ => false) mixed ?_
    simp (disch := omega) only [↓reduceIte, go_sem, ordCP_7, oc, om, mapV_len, hr2] <;> repeat with_reducible refine And.intro (by first | omega | decide) ?_
    refine go 4 (fun _ => false) mixed ?_
    simp (disch := omega) only [↓reduceIte, go_sem, ordCP_7, oc, om, mapV_len, hr2] <;> repeat with_reducible refine And.intro (by first | omega | decide) ?_
    refine go 200 (fun _ => false) mixed ?_
    simp (disch := omega) only [↓reduceIte, go_sem, ordCP_10, oc, om] <;> repeat with_reducible refine And.intro (by first | omega | decide) ?_
    refine hcl.onq (go 200 (fun _ => false) mixed ?_)
    simp (disch := omega) only [↓reduceIte, go_sem, oc, om, kb, hw] <;> repeat with_reducible refine And.intro (by first | omega | decide) ?_
    refine EndsD.same (r := .tup [.agg (ckC ck0), .bool false]) (.inr rfl) (by simp (disch := omega) only [↓reduceIte, go_sem, ckC_0] <;> repeat with_reducible refine And.intro (by first | omega | decide) ?_) ⟨rfl, ⟨?_, ?_, putCa_ok hl h.ok⟩, (Keeps.setF (by simp)).trans Keeps.app⟩
    · rw [get_app_lt (by simpa using hi), get_set_ne (Ne.symm hne)]; exact h.cell
    · rw [get_app_lt (by simpa using hj), get_set_self hj]; exact congrArg (fun x => some (some (OB.map x))) pm

theorem caPut {H K : Heap} {i j n : Nat} {room : Int} {es : Ents} {k : CKey} {u : Ent} {x : Option OB} {X : List (PV × PV)} (hB : CaAt K i j room es) (hu : AdsOk u.l) (hk : Keeps [j] H K) (hi : n ≠ i) (hj : n ≠ j) (hn : H.length ≤ n) (hX : X = mapV ckV entV (putA k u es)) :
    CaAt ((K.set j (some (.map X))).set n x) i j room (putA k u es) ∧ Keeps [j] H ((K.set j (some (.map X))).set n x) := by
  subst hX
  refine ⟨⟨?_, ?_, putCa_ok hu hB.ok⟩, keep_setN (hk.trans (Keeps.setF (by simp))) hn⟩
  · rw [get_set_ne hi, get_set_ne (Ne.symm hB.ne)]; exact hB.cell
  · rw [get_set_ne hj, get_set_self (lt_of_get hB.map)]

/-- An entry is put where there is no room. -/
theorem putC_full' {H : Heap} {i j : Nat} {room : Int} {es : Ents} (h : CaAt H i j room es) (hnd : (es.map (·.1)).Nodup) (hel : es.length < 1000000) (h0 : 0 < es.length) (name : List UInt8) (hn : name.length < 1000000) (kind : Int) (l : Ads) (hl : AdsOk l) (hll : l.length < 1000000) (ttl now : Int) (ht : 1 ≤ ttl) (n1 : 0 ≤ now) (n2 : now ≤ 2199023255552)
    (hr : (es.length : Int) = room) (hf : findA (⟨lowF name, kind⟩ : CKey) es = none) :
    SCall Try.prog 13 [.ptr i 0 0, .str (bs name), .int .i64 kind, .sl 17 (adsV l), .int .i64 ttl, .int .i64 now] H fun r H' => ∃ es' g b, r = .tup [.agg (ckC g), .bool b] ∧ MkRoomC es now es' g b ∧ CaAt H' i j room (putA ⟨lowF name, kind⟩ (entP l ttl now) es') ∧ Keeps [j] H H' := by
  have hi := lt_of_get h.cell
  have hj := lt_of_get h.map
  have hne := h.ne
  have oc := obj_of h.cell
  have om := h.map
  have hk := c_cache_key name hn kind
  have kb := @keysB_ck
  have ht' : ¬ ttl < 1 := by omega
  have hw := capTil ht n1 n2
  have hcl := c_slices_Clone_api_Addr_api_Addr l hl hll
  have pm : ∀ es, putM (.agg [.str (bs (lowF name)), .int .i64 kind]) (entV (entP l ttl now)) (mapV ckV entV es) = mapV ckV entV (putA ⟨lowF name, kind⟩ (entP l ttl now) es) := fun es => put_map (kf := ckV) ck_rep ⟨lowF name, kind⟩ (entP l ttl now) es
  unfold entV entC entP at pm
  have e12 : H.length + 3 + 9 = H.length + 12 := rfl
  have lm := fun z => ca_not z hf
  dsimp only at lm
  refine scall_ofd (ord := ordCP) (tdOf_ok _) (rs := [.cell 12 37, .tmp 13]) Try.func13 rfl (by kernel_rfl) (by kernel_rfl) (by kernel_rfl) Try.ntmps13 fun hb hargs => go 200 (fun _ => false) mixed ?_
  simp (disch := omega) only [↓reduceIte, go_sem, ht'] <;> repeat with_reducible refine And.intro (by first | omega | decide) ?_
  refine hk.on (go 4 (fun _ => false) mixed ?_)
  simp (disch := omega) only [↓reduceIte, go_sem] <;> repeat with_reducible refine And.intro (by first | omega | decide) ?_
  refine go 2 (fun _ => false) mixed ?_
  simp (disch := omega) only [↓reduceIte, go_sem, ordCP_6, oc, om, kb, lm, e12] <;> repeat with_reducible refine And.intro (by first | omega | decide) ?_
  refine go 2 (fun _ => false) mixed ?_
  simp (disch := omega) only [↓reduceIte, go_sem, ordCP_6, oc, om, kb, lm, e12] <;> repeat with_reducible refine And.intro (by first | omega | decide) ?_
  refine go 2 (fun _ => false) mixed ?_
  simp (disch := omega) only [↓reduceIte, go_sem, ordCP_6, oc, om, kb, lm, e12] <;> repeat with_reducible refine And.intro (by first | omega | decide) ?_
  refine go 2 (fun _ => false) mixed ?_
  simp (disch := omega) only [↓reduceIte, go_sem, ordCP_6, oc, om, kb, lm, e12] <;> repeat with_reducible refine And.intro (by first | omega | decide) ?_
  refine go 2 (fun _ => false) mixed ?_
  simp (disch := omega) only [↓reduceIte, go_sem, ordCP_6, oc, om, kb, lm, e12] <;> repeat with_reducible refine And.intro (by first | omega | decide) ?_
  refine go 2 (fun _ => false) mixed ?_
  simp (disch := omega) only [↓reduceIte, go_sem, ordCP_6, oc, om, kb, lm, e12] <;> repeat with_reducible refine And.intro (by first | omega | decide) ?_
  refine go 2 (fun _ => false) mixed ?_
  simp (disch := omega) only [↓reduceIte, go_sem, ordCP_6, oc, om, kb, lm, e12] <;> repeat with_reducible refine And.intro (by first | omega | decide) ?_
  refine go 2 (fun _ => false) mixed ?_
  simp (disch := omega) only [↓reduceIte, go_sem, ordCP_6, oc, om, kb, lm, e12] <;> repeat with_reducible refine And.intro (by first | omega | decide) ?_
  refine go 2 (fun _ => false) mixed ?_
  simp (disch := omega) only [↓reduceIte, go_sem, ordCP_6, oc, om, kb, lm, e12] <;> repeat with_reducible refine And.intro (by first | omega | decide) ?_
  refine go 2 (fun _ => false) mixed ?_
  simp (disch := omega) only [↓reduceIte, go_sem, ordCP_6, oc, om, kb, lm, e12] <;> repeat with_reducible refine And.intro (by first | omega | decide) ?_
  refine go 2 (fun _ => false) mixed ?_
  simp (disch := omega) only [↓reduceIte, go_sem, ordCP_6, oc, om, kb, lm, e12] <;> repeat with_reducible refine And.intro (by first | omega | decide) ?_
  refine go 2 (fun _ => false) mixed ?_
  simp (disch := omega) only [↓reduceIte, go_sem, ordCP_6, oc, om, kb, lm, e12] <;> repeat with_reducible refine And.intro (by first | omega | decide) ?_
  refine go 2 (fun _ => false) mixed ?_
  simp (disch := omega) only [↓reduceIte, go_sem, ordCP_6, oc, om, kb, lm, e12] <;> repeat with_reducible refine And.intro (by first | omega | decide) ?_
  refine go 2 (fun _ => false) mixed ?_
  simp (disch := omega) only [↓reduceIte, go_sem, ordCP_6, oc, om, kb, lm, e12] <;> repeat with_reducible refine And.intro (by first | omega | decide) ?_
  refine go 4 (fun _ => false) mixed ?_
  simp (disch := omega) only [↓reduceIte, go_sem, ordCP_7, oc, om, mapV_len, hr] <;> repeat with_reducible refine And.intro (by first | omega | decide) ?_
  refine go 4 (fun _ => false) mixed ?_
  simp (disch := omega) only [↓reduceIte, go_sem, ordCP_7, oc, om, mapV_len, hr] <;> repeat with_reducible refine And.intro (by first | omega | decide) ?_
  refine go 4 (fun _ => false) mixed ?_
  simp (disch := omega) only [↓reduceIte, go_sem, ordCP_7, oc, om, mapV_len, hr] <;> repeat with_reducible refine And.intro (by first | omega | decide) ?_
  refine go 4 (fun _ => false) mixed ?_
  simp (disch := omega) only [↓reduceIte, go_sem, ordCP_7, oc, om, mapV_len, hr] <;> repeat with_reducible refine And.intro (by first | omega | decide) ?_
  refine go 4 (fun _ => false) mixed ?_
  simp (disch := omega) only [↓reduceIte, go_sem, ordCP_7, oc, om, mapV_len, hr] <;> repeat with_reducible refine And.intro (by first | omega | decide) ?_
  refine go 4 (fun _ => false) mixed ?_
  simp (disch := omega) only [↓reduceIte, go_sem, ordCP_7, oc, om, mapV_len, hr] <;> repeat with_reducible refine And.intro (by first | omega | decide) ?_
  refine go 4 (fun _ => false) mixed ?_
  simp (disch := omega) only [↓reduceIte, go_sem, ordCP_7, oc, om, mapV_len, hr] <;> repeat with_reducible refine And.intro (by first | omega | decide) ?_
  refine go 200 (fun _ => false) mixed ?_
  simp (disch := omega) only [↓reduceIte, go_sem] <;> repeat with_reducible refine And.intro (by first | omega | decide) ?_
  have hsw := c_cache_Cache_Sweep (h.app (L := [some (.cells 0 (ckC ck0)), some (.cells 0 (ckC ck0)), some (.cells 0 (ckC ⟨lowF name, kind⟩)), none, none, none, none, none, none, none, none, none, some (.cells 1 [.nils, .int .i64 0])])) hnd hel now
  refine hsw.mono fun r H2 ⟨e1, hB2, k2⟩ => ?_
  rw [e1]
  have hr2 : H2[H.length]? = some (some (.cells 0 (ckC ck0))) := k2.get (by rw [get_tail0]; rfl) (by simp; omega)
  have hg2 : H2[H.length + 1]? = some (some (.cells 0 (ckC ck0))) := k2.get (by rw [get_tail]; rfl) (by simp; omega)
  have hk2 : H2[H.length + 2]? = some (some (.cells 0 (ckC ⟨lowF name, kind⟩))) := k2.get (by rw [get_tail]; rfl) (by simp; omega)
  have kk2 : Keeps [j] H H2 := (Keeps.app.trans k2).mono (by simp)
  have l2 := lt_of_get hk2
  have or2 := obj_of hr2
  have og2 := obj_of hg2
  have ok2 := obj_of hk2
  have oc2 := obj_of hB2.cell
  have om2 := hB2.map
  have jl2 := lt_of_get om2
  have hfl := List.length_filter_le (fun e : CKey × Ent => decide (now < e.2.til)) es
  by_cases hlt : (liveC now es).length < es.length
  · have hz : ((es.length : Int) - (liveC now es).length = 0) = False := eq_false (by omega)
    refine go 4 (fun _ => false) mixed ?_
    simp (disch := omega) only [↓reduceIte, go_sem, hz] <;> repeat with_reducible refine And.intro (by first | omega | decide) ?_
    refine go 4 (fun _ => false) mixed ?_
    simp (disch := omega) only [↓reduceIte, go_sem, hz] <;> repeat with_reducible refine And.intro (by first | omega | decide) ?_
    intro _
    refine go 200 (fun _ => false) mixed ?_
    simp (disch := omega) only [↓reduceIte, go_sem, oc2, om2, ok2, ckC, ordCP_10] <;> repeat with_reducible refine And.intro (by first | omega | decide) ?_
    refine hcl.onq (go 200 (fun _ => false) mixed ?_)
    simp (disch := omega) only [↓reduceIte, go_sem, kb, hw, oc2, om2, og2, or2, ckC, ck0] <;> repeat with_reducible refine And.intro (by first | omega | decide) ?_
    obtain ⟨f1, f2⟩ := caPut (n := H.length) (x := some (.cells 0 (ckC ck0))) hB2 hl (u := entP l ttl now) (k := ⟨lowF name, kind⟩) kk2 (by omega) (by omega) (Nat.le_refl _) (pm _)
    have oe := obj_of (get_set_self (i := H.length) (x := some (OB.cells 0 [.str (bs []), .int .i64 0])) (H := H2.set j (some (OB.map (putM (.agg [.str (bs (lowF name)), .int .i64 kind]) (.agg [.sl 17 (adsV l), .int .i64 (now + if 604800 < ttl then 604800 else ttl)]) (mapV ckV entV (liveC now es)))))) (by rw [len_set]; omega))
    exact EndsD.same (r := .tup [.agg (ckC ck0), .bool false]) (.inr rfl) (by simp (disch := omega) only [↓reduceIte, go_sem, ckC_0, oe] <;> repeat with_reducible refine And.intro (by first | omega | decide) ?_) ⟨_, ck0, false, rfl, .inl ⟨liveC_eq.symm, hlt, rfl, rfl⟩, f1, f2⟩
  · have hle : liveC now es = es := List.filter_sublist.eq_of_length (by unfold liveC at hlt; omega)
    rw [hle] at hB2 om2
    have hz : ((es.length : Int) - (liveC now es).length = 0) = True := eq_true (by rw [hle]; omega)
    have hall : ∀ e ∈ es, now < e.2.til := fun e he => by
      have := List.filter_eq_self.mp hle e he
      simpa using this
    refine go 4 (fun _ => false) mixed ?_
    simp (disch := omega) only [↓reduceIte, go_sem, hz] <;> repeat with_reducible refine And.intro (by first | omega | decide) ?_
    refine go 4 (fun _ => false) mixed ?_
    simp (disch := omega) only [↓reduceIte, go_sem, hz] <;> repeat with_reducible refine And.intro (by first | omega | decide) ?_
    refine go 200 (fun _ => false) mixed ?_
    simp (disch := omega) only [↓reduceIte, go_sem] <;> repeat with_reducible refine And.intro (by first | omega | decide) ?_
    refine (c_cache_Cache_first hB2 hnd hel h0).mono fun r H3 ⟨g, e2, hleast, hB3, k3⟩ => ?_
    rw [e2]
    have hr3 := k3.get hr2 (by simp; omega)
    have hg3 := k3.get hg2 (by simp; omega)
    have hk3 := k3.get hk2 (by simp; omega)
    have og3 := obj_of hg3
    have l3 := lt_of_get hg3
    have hKe : ∃ K, K = H3.set (H.length + 1) (some (.cells 0 (ckC g))) := ⟨_, rfl⟩
    obtain ⟨K, hK⟩ := hKe
    have hrK : K[H.length]? = some (some (.cells 0 (ckC ck0))) := by rw [hK, get_set_ne (by omega)]; exact hr3
    have hkK : K[H.length + 2]? = some (some (.cells 0 (ckC ⟨lowF name, kind⟩))) := by rw [hK, get_set_ne (by omega)]; exact hk3
    have hgK : K[H.length + 1]? = some (some (.cells 0 (ckC g))) := by rw [hK, get_set_self l3]
    have hBK : CaAt K i j room es := by rw [hK]; exact hB3.setN (by omega) (by omega)
    have kkK : Keeps [j] H K := by rw [hK]; exact keep_setN (kk2.trans k3) (by omega)
    have orK := obj_of hrK
    have okK := obj_of hkK
    have ogK := obj_of hgK
    have ocK := obj_of hBK.cell
    have omK := hBK.map
    have jlK := lt_of_get omK
    have lK := lt_of_get hkK
    have dm : delM (.agg (ckC g)) (mapV ckV entV es) = mapV ckV entV (noK g es) := (del_map (vf := entV) ck_rep g es).trans (by rw [delC_noK hnd])
    refine go 2 (fun _ => false) mixed ?_
    simp (disch := omega) only [↓reduceIte, go_sem, og3, ckC_len, ckC_one, ckC_drop] <;> repeat with_reducible refine And.intro (by first | omega | decide) ?_
    rw [← hK]
    refine go 2 (fun _ => false) mixed ?_
    simp (disch := omega) only [↓reduceIte, go_sem, ordCP_9, ocK, omK, ogK, ckC_len, ckC_take] <;> repeat with_reducible refine And.intro (by first | omega | decide) ?_
    refine go 2 (fun _ => false) mixed ?_
    simp (disch := omega) only [↓reduceIte, go_sem, ordCP_9, ocK, omK, ogK, ckC_len, ckC_take] <;> repeat with_reducible refine And.intro (by first | omega | decide) ?_
    refine go 2 (fun _ => false) mixed ?_
    simp (disch := omega) only [↓reduceIte, go_sem, ordCP_9, ocK, omK, ogK, ckC_len, ckC_take] <;> repeat with_reducible refine And.intro (by first | omega | decide) ?_
    refine go 2 (fun _ => false) mixed ?_
    simp (disch := omega) only [↓reduceIte, go_sem, ordCP_9, ocK, omK, ogK, ckC_len, ckC_take] <;> repeat with_reducible refine And.intro (by first | omega | decide) ?_
    refine go 2 (fun _ => false) mixed ?_
    simp (disch := omega) only [↓reduceIte, go_sem, ordCP_9, ocK, omK, ogK, ckC_len, ckC_take] <;> repeat with_reducible refine And.intro (by first | omega | decide) ?_
    refine go 2 (fun _ => false) mixed ?_
    simp (disch := omega) only [↓reduceIte, go_sem, ordCP_9, ocK, omK, ogK, ckC_len, ckC_take] <;> repeat with_reducible refine And.intro (by first | omega | decide) ?_
    refine go 2 (fun _ => false) mixed ?_
    simp (disch := omega) only [↓reduceIte, go_sem, ordCP_9, ocK, omK, ogK, ckC_len, ckC_take] <;> repeat with_reducible refine And.intro (by first | omega | decide) ?_
    refine go 2 (fun _ => false) mixed ?_
    simp (disch := omega) only [↓reduceIte, go_sem, ordCP_9, ocK, omK, ogK, ckC_len, ckC_take] <;> repeat with_reducible refine And.intro (by first | omega | decide) ?_
    refine go 1 (fun _ => false) mixed ?_
    simp (disch := omega) only [↓reduceIte, go_sem, ocK, omK, ckC_tag, kb, dm] <;> repeat with_reducible refine And.intro (by first | omega | decide) ?_
    have hKe2 : ∃ K2, K2 = K.set j (some (.map (mapV ckV entV (noK g es)))) := ⟨_, rfl⟩
    obtain ⟨K2, hK2⟩ := hKe2
    have hB4 : CaAt K2 i j room (noK g es) := ⟨by rw [hK2, get_set_ne (Ne.symm hne)]; exact hBK.cell, by rw [hK2, get_set_self jlK], fun e he => h.ok e (List.mem_filter.mp he).1⟩
    have kk4 : Keeps [j] H K2 := by rw [hK2]; exact kkK.trans (Keeps.setF (by simp))
    have hr4 : K2[H.length]? = some (some (.cells 0 (ckC ck0))) := by rw [hK2, get_set_ne (by omega)]; exact hrK
    have hk4 : K2[H.length + 2]? = some (some (.cells 0 (ckC ⟨lowF name, kind⟩))) := by rw [hK2, get_set_ne (by omega)]; exact hkK
    have hg4 : K2[H.length + 1]? = some (some (.cells 0 (ckC g))) := by rw [hK2, get_set_ne (by omega)]; exact hgK
    have or4 := obj_of hr4
    have ok4 := obj_of hk4
    have og4 := obj_of hg4
    have oc4 := obj_of hB4.cell
    have om4 := hB4.map
    have l4 := lt_of_get hk4
    have j4 := lt_of_get om4
    rw [← hK2]
    refine go 2 (fun _ => false) mixed ?_
    simp (disch := omega) only [↓reduceIte, go_sem] <;> repeat with_reducible refine And.intro (by first | omega | decide) ?_
    refine go 200 (fun _ => false) mixed ?_
    simp (disch := omega) only [↓reduceIte, go_sem, oc4, om4, ok4, ckC, ordCP_10] <;> repeat with_reducible refine And.intro (by first | omega | decide) ?_
    refine hcl.onq (go 200 (fun _ => false) mixed ?_)
    simp (disch := omega) only [↓reduceIte, go_sem, kb, hw, oc4, om4, og4, or4, ckC, ck0] <;> repeat with_reducible refine And.intro (by first | omega | decide) ?_
    obtain ⟨f1, f2⟩ := caPut (n := H.length) (x := some (.cells 0 (ckC g))) hB4 hl (u := entP l ttl now) (k := ⟨lowF name, kind⟩) kk4 (by omega) (by omega) (Nat.le_refl _) (pm _)
    have oe := obj_of (get_set_self (i := H.length) (x := some (OB.cells 0 [.str (bs g.name), .int .i64 g.typ])) (H := K2.set j (some (OB.map (putM (.agg [.str (bs (lowF name)), .int .i64 kind]) (.agg [.sl 17 (adsV l), .int .i64 (now + if 604800 < ttl then 604800 else ttl)]) (mapV ckV entV (noK g es)))))) (by rw [len_set]; omega))
    exact EndsD.same (r := .tup [.agg (ckC g), .bool true]) (.inr rfl) (by (simp (disch := omega) only [↓reduceIte, go_sem, ckC, oe] <;> repeat with_reducible refine And.intro (by first | omega | decide) ?_)) ⟨_, g, true, rfl, .inr ⟨hall, hleast, rfl, rfl⟩, f1, f2⟩

theorem c_cache_Cache_Put {H : Heap} {i j : Nat} {room : Int} {es gs : Ents} (h : CaAt H i j room es) (hs : Three room es gs) (r1 : 1 ≤ room) (r2 : room ≤ 64) (name : List UInt8) (hn : name.length < 1000000) (kind : Int) (l : Ads) (hl : AdsOk l) (ttl now : Int) (ht : 1 ≤ ttl) (n1 : 0 ≤ now) (n2 : now ≤ 2199023255552) :
    SCall Try.prog 13 [.ptr i 0 0, .str (bs name), .int .i64 kind, .sl 17 (adsV l), .int .i64 ttl, .int .i64 now] H fun r H' => ∃ es', r = .tup [.agg (ckC (putC room gs ⟨lowF name, kind⟩ (entP l ttl now) now).2.1.1), .bool (putC room gs ⟨lowF name, kind⟩ (entP l ttl now) now).2.2] ∧ CaAt H' i j room es' ∧ Three room es' (putC room gs ⟨lowF name, kind⟩ (entP l ttl now) now).1 ∧ Keeps [j] H H' := by
  have hlen := hs.two.len
  have hle := hs.len
  have hu : AdsOk (entP l ttl now).l := hl
  by_cases hk2 : (⟨lowF name, kind⟩ : CKey) ∈ gs.map (·.1) ∨ (gs.length : Int) ≠ room
  · obtain ⟨p1, p2⟩ := hs.put hu (now := now) hk2
    rw [p1]
    refine (putC_room' h name hn kind l hl hl.len ttl now ht n1 n2 ?_).mono fun r H' ⟨e1, e2, e3⟩ => ⟨_, e1, e2, p2, e3⟩
    rcases hk2 with h1 | h1
    · refine .inr ?_
      have h2 : (⟨lowF name, kind⟩ : CKey) ∈ es.map (·.1) := (hs.two.perm.map _).mem_iff.mpr h1
      cases hf : findA (⟨lowF name, kind⟩ : CKey) es with
      | some x => rfl
      | none => exact absurd h2 (find_none.mp hf)
    · exact .inl (by omega)
  · rw [not_or] at hk2
    have hfull : (gs.length : Int) = room := Classical.not_not.mp hk2.2
    have hne : (⟨lowF name, kind⟩ : CKey) ∉ es.map (·.1) := fun h2 => hk2.1 ((hs.two.perm.map _).mem_iff.mp h2)
    refine (putC_full' h hs.two.nodup (by omega) (by omega) name hn kind l hl hl.len ttl now ht n1 n2 (by omega) (find_none.mpr hne)).mono fun r H' ⟨es', g, b, e1, hm, e2, e3⟩ => ?_
    obtain ⟨⟨q1, q2⟩, q3⟩ := hs.full hu r1 hk2.1 hfull hm
    rw [q1, q2]
    exact ⟨_, e1, e2, q3, e3⟩
end Go.Proofs.GoC
