/-
  What the document's Put computes. No claim by itself.
-/
import Derived.Test.YtcmbnoloimdlaaaGoCacheD
namespace Go.Proofs.GoC
open Go Go.Proofs.SL
set_option linter.unusedSimpArgs false
set_option linter.unusedVariables false
set_option maxRecDepth 10000
set_option maxHeartbeats 4000000

def ordCR : Nat → List Nat
  | 29 => [0, 2, 6, 4, 1, 3, 4, 5, 3, 1, 4, 5]
  | _ => []
theorem ordCR_17 : ordCR 17 = [] := rfl
theorem ordCR_23 : ordCR 23 = [] := rfl
theorem ordCR_29 : ordCR 29 = [0, 2, 6, 4, 1, 3, 4, 5, 3, 1, 4, 5] := rfl

def e0C : List PV := [.str (bs []), .int .i64 0, .nils, .int .i64 0]
def goC (b : Bool) (e : CKey × Ent) : List PV := if b then eC e else e0C
theorem goC_t {e : CKey × Ent} : goC true e = eC e := rfl
theorem goC_f {e : CKey × Ent} : goC false e = e0C := rfl
theorem goC_len {b : Bool} {e : CKey × Ent} : (goC b e).length = 4 := by cases b <;> rfl
theorem goC_one {b : Bool} {e : CKey × Ent} : (goC b e).all PV.one = true := by cases b <;> rfl
theorem goC_take {b : Bool} {e : CKey × Ent} : List.take 4 (goC b e) = goC b e := by cases b <;> rfl
theorem goC_drop {b : Bool} {e : CKey × Ent} : List.drop 4 (goC b e) = [] := by cases b <;> rfl
theorem bdd_eC {n : Nat} {e : CKey × Ent} : ∀ p ∈ eC e, Bdd n p := fun p hp => by
  simp only [eC, List.mem_cons, List.not_mem_nil, or_false] at hp
  rcases hp with rfl | rfl | rfl | rfl
  · simp
  · simp
  · exact .sl _ _ adsV_bdd
  · simp
theorem bdd_e0C {n : Nat} : ∀ p ∈ e0C, Bdd n p := fun p hp => by
  simp only [e0C, List.mem_cons, List.not_mem_nil, or_false] at hp
  rcases hp with rfl | rfl | rfl | rfl <;> simp
theorem bdd_goC {n : Nat} {b : Bool} {e : CKey × Ent} : ∀ p ∈ goC b e, Bdd n p := by
  cases b
  · exact bdd_e0C
  · exact bdd_eC
theorem bdd_rcV {n : Nat} {room : Int} {gs : Ents} : ∀ p ∈ [PV.int .i64 room, .sl 4 (esV gs)], Bdd n p := fun p hp => by
  simp only [List.mem_cons, List.not_mem_nil, or_false] at hp
  rcases hp with rfl | rfl
  · simp
  · exact .sl _ _ esV_bdd
theorem bdd_putc {n : Nat} {room : Int} {gs : Ents} {b : Bool} {e : CKey × Ent} : Bdd n (.tup [rcV room gs, .agg (goC b e), .bool b]) := bdd_tup.mpr fun p hp => by
  simp only [List.mem_cons, List.not_mem_nil, or_false] at hp
  rcases hp with rfl | rfl | rfl
  · exact bdd_agg.mpr bdd_rcV
  · exact bdd_agg.mpr bdd_goC
  · simp
def cpEnv (n : Nat) (now : Int) (lt : Bool) : List PV :=
  [.any, .any, .any, .any, .any, .int .i64 now, .ptr n 0 0, .any, .any, .any, .any, .any, .ptr (n + 1) 0 0, .ptr (n + 2) 0 0, .bool false, .ptr (n + 3) 0 0, .any, .ptr (n + 4) 0 0, .bool lt]
def cpHeap (room : Int) (gl : Ents) (own : CKey × Ent) (gone : List PV) : Heap :=
  [some (.cells 0 [.int .i64 room, .sl 4 (esV gl)]), some (.cells 0 [.int .i64 0, .nils]), some (.cells 0 e0C), some (.cells 0 (eC own)), some (.cells 0 gone)]
theorem cpHeap_hb {H : Heap} (hb : HB H.length H) {room : Int} {gl : Ents} {own e : CKey × Ent} {b : Bool} : HB (H ++ cpHeap room gl own (goC b e)).length (H ++ cpHeap room gl own (goC b e)) := by
  refine HB.append (hb.mono (by simp)) fun o ho => ?_
  simp only [cpHeap, List.mem_cons, Option.some.injEq, List.not_mem_nil, or_false] at ho
  rcases ho with rfl | rfl | rfl | rfl | rfl
  · exact bdd_rcV
  · exact fun p hp => by
      simp only [List.mem_cons, List.not_mem_nil, or_false] at hp
      rcases hp with rfl | rfl <;> simp
  · exact bdd_e0C
  · exact bdd_eC
  · exact bdd_goC
theorem cpEnv_bdd {n m : Nat} {now : Int} {lt : Bool} (h : n + 5 ≤ m) : ∀ p ∈ slots 162 (cpEnv n now lt), Bdd m p := by
  intro p hp
  unfold slots at hp
  rcases List.mem_append.mp hp with hp | hp
  · simp only [cpEnv, List.mem_cons, List.not_mem_nil, or_false] at hp
    rcases hp with rfl | rfl | rfl | rfl | rfl | rfl | rfl | rfl | rfl | rfl | rfl | rfl | rfl | rfl | rfl | rfl | rfl | rfl | rfl <;> simp <;> omega
  · rw [(List.mem_replicate.mp hp).2]; simp
theorem midE_drop {P : Program} {T : Nat → Option TD} {ord : Nat → List Nat} {H0 K L : Heap} {Φ : AEx → Env → Heap → Prop} {k : List It} {mask : List Bool} {mid : Env → Heap → Prop} {σ : Env} (h : mid (keepB mask σ) K) (hK : HB K.length K) (hl : H0.length ≤ K.length) (hb : ∀ p ∈ keepB mask σ, Bdd K.length p) :
    Mid P T ord H0 Φ k mask mid .normal σ (K ++ L) := ⟨_, _, Ghost.cut mask hK hl hb, by rw [keepB_keepB]; exact h⟩
theorem mid_cp {P : Program} {T : Nat → Option TD} {ord : Nat → List Nat} {H0 H' L : Heap} {Φ : AEx → Env → Heap → Prop} {k : List It} {mask : List Bool} {mid : Env → Heap → Prop} {σ : Env} {room : Int} {gl : Ents} {own e : CKey × Ent} {b : Bool} {now : Int} (hb : HB H0.length H0)
    (hH : H' = H0 ++ cpHeap room gl own (goC b e) ++ L) (hσ : keepB mask σ = slots 162 (cpEnv H0.length now b)) (h : mid (slots 162 (cpEnv H0.length now b)) (H0 ++ cpHeap room gl own (goC b e))) : Mid P T ord H0 Φ k mask mid .normal σ H' := by
  subst hH
  exact midE_drop (by rw [hσ]; exact h) (cpHeap_hb hb) (by simp) (by rw [hσ]; exact cpEnv_bdd (by simp [cpHeap]))

theorem resE_3 {T : Nat → Option TD} {σ : Env} {H : Heap} {r r' r'' : ResultVar} : resAll T σ H [r, r', r''] = ((resOne T σ H r).1 && ((resOne T σ H r').1 && ((resOne T σ H r'').1 && true)), .tup [(resOne T σ H r).2, (resOne T σ H r').2, (resOne T σ H r'').2]) := rfl

def putV (room : Int) (x : Ents × (CKey × Ent) × Bool) : PV := .tup [rcV room x.1, .agg (goC x.2.2 x.2.1), .bool x.2.2]

theorem c_abatisref10_Put (room : Int) (hroom : 1 ≤ room) (gs : Ents) (hl : gs.length < 1000000) (name : List UInt8) (hn : name.length < 1000000) (kind : Int) (l : Ads) (ttl now : Int) (ht : 1 ≤ ttl) (n1 : 0 ≤ now) (n2 : now ≤ 2199023255552) :
    PCall Try.prog 12 [rcV room gs, .str (bs name), .int .i64 kind, .sl 17 (adsV l), .int .i64 ttl, .int .i64 now] (putV room (putC room gs ⟨lowF name, kind⟩ (entP l ttl now) now)) := by
  intro H
  have ht' : ¬ ttl < 1 := by omega
  have hw := capTil ht n1 n2
  have hlow := c_abatisref01_Lower name hn
  have hfind := c_abatisref10_Find room gs hl name hn kind
  unfold rcV at hfind
  refine scall_ofc (ord := ordCR) (tdOf_ok _) (rs := [.cell 12 27,.cell 13 33, .tmp 14]) Try.func12 rfl (by kernel_rfl) (by kernel_rfl) (by kernel_rfl) Try.ntmps12 fun hb hargs => go 200 (fun t => t==147) mixed ?_
  unfold putV rcV
  simp (disch := omega) only [↓reduceIte, go_sem, ht'] <;> repeat with_reducible refine And.intro (by first | omega | decide) ?_
  refine hlow.on (go 4 (fun _ => false) mixed ?_)
  simp (disch := omega) only [↓reduceIte, go_sem] <;> repeat with_reducible refine And.intro (by first | omega | decide) ?_
  refine go 200 (fun _ => false) mixed ?_
  simp (disch := omega) only [↓reduceIte, go_sem, hw] <;> repeat with_reducible refine And.intro (by first | omega | decide) ?_
  have hke : ∃ own : CKey × Ent, own = (⟨lowF name, kind⟩, entP l ttl now) := ⟨_, rfl⟩
  obtain ⟨own, hown⟩ := hke
  have hok : own.1 = ⟨lowF name, kind⟩ := by rw [hown]
  have hmr : ∃ mr, midC room gs ⟨lowF name, kind⟩ now = mr := ⟨_, rfl⟩
  obtain ⟨mr, hmr⟩ := hmr
  have hput : putC room gs ⟨lowF name, kind⟩ (entP l ttl now) now = (insC own.1 own.2 mr.1 mr.1.length, mr.2.1, mr.2.2) := by unfold putC; rw [hmr, hown]
  rw [hput]
  refine hfind.on (go 3 (fun _ => false) mixed ?_)
  simp (disch := omega) only [↓reduceIte, go_sem] <;> repeat with_reducible refine And.intro (by first | omega | decide) ?_
  refine go 11 (fun _ => false) mixed ?_
  simp (disch := omega) only [↓reduceIte, go_sem] <;> repeat with_reducible refine And.intro (by first | omega | decide) ?_
  have hec : [PV.str (bs (lowF name)), .int .i64 kind, .sl 17 (adsV l), .int .i64 (now + if 604800 < ttl then 604800 else ttl)] = eC own := by rw [hown]; rfl
  simp only [hec]
  have h0m : (⟨lowF name, kind⟩ : CKey) = own.1 := hok.symm
  rw [h0m] at hmr ⊢
  refine runs_cut [false, false, false, false, false, true, true, false, false, false, false, false, true, true, true, true, false, true, true]
    (fun σ K => mr.1.length ≤ gs.length ∧ σ = slots 162 (cpEnv H.length now mr.2.2) ∧ K = H ++ cpHeap room mr.1 own (goC mr.2.2 mr.2.1)) (by rfl) ?_ ?_
  · refine go 200 (fun _ => false) mixed ?_
    unfold midC at hmr
    by_cases h0 : 0 ≤ idxC own.1 gs 0
    · have hi := idxC_lt h0
      have ei : idxC own.1 gs 0 = ((idxC own.1 gs 0).toNat : Int) := by omega
      have hcut := c_abatisref10_cut gs hl (idxC own.1 gs 0).toNat hi
      rw [← ei] at hcut
      rw [if_pos h0] at hmr
      simp (disch := omega) only [↓reduceIte, go_sem, h0] <;> repeat with_reducible refine And.intro (by first | omega | decide) ?_
      refine hcut.on (go 200 (fun _ => false) mixed ?_)
      simp (disch := omega) only [↓reduceIte, go_sem] <;> repeat with_reducible refine And.intro (by first | omega | decide) ?_
      subst hmr
      exact mid_to ⟨by have := @cutC_len gs (idxC own.1 gs 0).toNat; exact this, rfl, rfl⟩
    · rw [if_neg h0] at hmr
      by_cases hr : (gs.length : Int) = room
      · rw [if_pos hr] at hmr
        simp (disch := omega) only [↓reduceIte, go_sem, h0, hr] <;> repeat with_reducible refine And.intro (by first | omega | decide) ?_
        have hroom0 : 0 < gs.length := by omega
        have hsw := c_abatisref10_Sweep room gs hl now
        unfold rcV at hsw
        have hlle := List.length_filter_le (fun e : CKey × Ent => decide (now < e.2.til)) gs
        refine hsw.on (go 6 (fun _ => false) mixed ?_)
        simp (disch := omega) only [↓reduceIte, go_sem] <;> repeat with_reducible refine And.intro (by first | omega | decide) ?_
        refine go 6 (fun _ => false) mixed ?_
        simp (disch := omega) only [↓reduceIte, go_sem] <;> repeat with_reducible refine And.intro (by first | omega | decide) ?_
        by_cases hq : ((liveC now gs).length : Int) = room
        · have hlv : liveC now gs = gs := List.filter_sublist.eq_of_length (by unfold liveC at hq; omega)
          rw [if_pos hq] at hmr
          rw [hlv]
          refine go 200 (fun _ => false) mixed ?_
          simp (disch := omega) only [↓reduceIte, go_sem, hr] <;> repeat with_reducible refine And.intro (by first | omega | decide) ?_
          refine runs_loopA (fun m : Nat => m + 1 ≤ gs.length) (fun m => gs.length - m) [false, false, false, false, false, true, true, false, false, false, false, false, true, true, true, true, false, true, true, false, false, true, true]
            (fun m => slots 162 (cpEnv H.length now false ++ [.any, .any, .int .i64 (bestC gs (m + 1) : Nat), .int .i64 (m + 1 : Nat)]))
            (fun _ => H ++ (cpHeap room gs own e0C ++ [some (.cells 0 [.int .i64 room, .sl 4 (esV gs)])])) (by rfl) 0 (by show 0 + 1 ≤ gs.length; omega) ?_ rfl ?_
          · have : bestC gs (0 + 1) = 0 := by unfold bestC; split <;> rfl
            rw [this]; rfl
          intro m hm
          refine go 8 (fun _ => false) mixed ?_
          by_cases hlt : m + 1 < gs.length
          · have g := esV_get hlt
            have hbl := bestC_lt (gs := gs) (n := m + 1) hroom0 (by omega)
            have g2 := esV_get hbl
            have hs2 : bestC gs (m + 1 + 1) = if (gs.getD (m + 1) ent0).2.til < (gs.getD (bestC gs (m + 1)) ent0).2.til then m + 1 else bestC gs (m + 1) := rfl
            generalize bestC gs (m + 1) = bb at *
            generalize gs.getD (m + 1) ent0 = e at *
            generalize gs.getD bb ent0 = e2 at *
            by_cases hbe : e.2.til < e2.2.til
            · rw [if_pos hbe] at hs2
              simp (disch := omega) only [↓reduceIte, go_sem, cpEnv, cpHeap, hlt] <;> repeat with_reducible refine And.intro (by first | omega | decide) ?_
              refine go 2 (fun _ => false) mixed ?_
              simp (disch := omega) only [↓reduceIte, go_sem, hlt, hbl, g, g2, eC] <;> repeat with_reducible refine And.intro (by first | omega | decide) ?_
              refine go 2 (fun _ => false) mixed ?_
              simp (disch := omega) only [↓reduceIte, go_sem, hlt, hbl, g, g2, eC] <;> repeat with_reducible refine And.intro (by first | omega | decide) ?_
              refine go 2 (fun _ => false) mixed ?_
              simp (disch := omega) only [↓reduceIte, go_sem, hlt, hbl, g, g2, eC] <;> repeat with_reducible refine And.intro (by first | omega | decide) ?_
              refine go 2 (fun _ => false) mixed ?_
              simp (disch := omega) only [↓reduceIte, go_sem, hlt, hbl, g, g2, eC] <;> repeat with_reducible refine And.intro (by first | omega | decide) ?_
              refine go 2 (fun _ => false) mixed ?_
              simp (disch := omega) only [↓reduceIte, go_sem, hlt, hbl, g, g2, eC] <;> repeat with_reducible refine And.intro (by first | omega | decide) ?_
              refine go 2 (fun _ => false) mixed ?_
              simp (disch := omega) only [↓reduceIte, go_sem, hlt, hbl, g, g2, eC] <;> repeat with_reducible refine And.intro (by first | omega | decide) ?_
              refine go 2 (fun _ => false) mixed ?_
              simp (disch := omega) only [↓reduceIte, go_sem, hlt, hbl, g, g2, eC] <;> repeat with_reducible refine And.intro (by first | omega | decide) ?_
              refine go 2 (fun _ => false) mixed ?_
              simp (disch := omega) only [↓reduceIte, go_sem, hlt, hbl, g, g2, eC] <;> repeat with_reducible refine And.intro (by first | omega | decide) ?_
              refine go 2 (fun _ => false) mixed ?_
              simp (disch := omega) only [↓reduceIte, go_sem, hlt, hbl, g, g2, eC] <;> repeat with_reducible refine And.intro (by first | omega | decide) ?_
              refine go 2 (fun _ => false) mixed ?_
              simp (disch := omega) only [↓reduceIte, go_sem, hlt, hbl, g, g2, eC] <;> repeat with_reducible refine And.intro (by first | omega | decide) ?_
              refine go 2 (fun _ => false) mixed ?_
              simp (disch := omega) only [↓reduceIte, go_sem, hlt, hbl, g, g2, eC] <;> repeat with_reducible refine And.intro (by first | omega | decide) ?_
              refine go 2 (fun _ => false) mixed ?_
              simp (disch := omega) only [↓reduceIte, go_sem, hlt, hbl, g, g2, eC] <;> repeat with_reducible refine And.intro (by first | omega | decide) ?_
              refine go 2 (fun _ => false) mixed ?_
              simp (disch := omega) only [↓reduceIte, go_sem, hlt, hbl, g, g2, eC] <;> repeat with_reducible refine And.intro (by first | omega | decide) ?_
              refine go 2 (fun _ => false) mixed ?_
              simp (disch := omega) only [↓reduceIte, go_sem, hlt, hbl, g, g2, eC] <;> repeat with_reducible refine And.intro (by first | omega | decide) ?_
              refine go 2 (fun _ => false) mixed ?_
              simp (disch := omega) only [↓reduceIte, go_sem, hlt, hbl, g, g2, eC] <;> repeat with_reducible refine And.intro (by first | omega | decide) ?_
              refine go 2 (fun _ => false) mixed ?_
              simp (disch := omega) only [↓reduceIte, go_sem, hlt, hbl, g, g2, eC] <;> repeat with_reducible refine And.intro (by first | omega | decide) ?_
              refine go 200 (fun _ => false) mixed ?_
              simp (disch := omega) only [↓reduceIte, go_sem, hbe] <;> repeat with_reducible refine And.intro (by first | omega | decide) ?_
              exact rnd_next (m + 1) (by omega) (by show gs.length - (m + 1) < gs.length - m; omega) (by simp only [hs2]; rfl) rfl
            · rw [if_neg hbe] at hs2
              simp (disch := omega) only [↓reduceIte, go_sem, cpEnv, cpHeap, hlt] <;> repeat with_reducible refine And.intro (by first | omega | decide) ?_
              refine go 2 (fun _ => false) mixed ?_
              simp (disch := omega) only [↓reduceIte, go_sem, hlt, hbl, g, g2, eC] <;> repeat with_reducible refine And.intro (by first | omega | decide) ?_
              refine go 2 (fun _ => false) mixed ?_
              simp (disch := omega) only [↓reduceIte, go_sem, hlt, hbl, g, g2, eC] <;> repeat with_reducible refine And.intro (by first | omega | decide) ?_
              refine go 2 (fun _ => false) mixed ?_
              simp (disch := omega) only [↓reduceIte, go_sem, hlt, hbl, g, g2, eC] <;> repeat with_reducible refine And.intro (by first | omega | decide) ?_
              refine go 2 (fun _ => false) mixed ?_
              simp (disch := omega) only [↓reduceIte, go_sem, hlt, hbl, g, g2, eC] <;> repeat with_reducible refine And.intro (by first | omega | decide) ?_
              refine go 2 (fun _ => false) mixed ?_
              simp (disch := omega) only [↓reduceIte, go_sem, hlt, hbl, g, g2, eC] <;> repeat with_reducible refine And.intro (by first | omega | decide) ?_
              refine go 2 (fun _ => false) mixed ?_
              simp (disch := omega) only [↓reduceIte, go_sem, hlt, hbl, g, g2, eC] <;> repeat with_reducible refine And.intro (by first | omega | decide) ?_
              refine go 2 (fun _ => false) mixed ?_
              simp (disch := omega) only [↓reduceIte, go_sem, hlt, hbl, g, g2, eC] <;> repeat with_reducible refine And.intro (by first | omega | decide) ?_
              refine go 2 (fun _ => false) mixed ?_
              simp (disch := omega) only [↓reduceIte, go_sem, hlt, hbl, g, g2, eC] <;> repeat with_reducible refine And.intro (by first | omega | decide) ?_
              refine go 2 (fun _ => false) mixed ?_
              simp (disch := omega) only [↓reduceIte, go_sem, hlt, hbl, g, g2, eC] <;> repeat with_reducible refine And.intro (by first | omega | decide) ?_
              refine go 2 (fun _ => false) mixed ?_
              simp (disch := omega) only [↓reduceIte, go_sem, hlt, hbl, g, g2, eC] <;> repeat with_reducible refine And.intro (by first | omega | decide) ?_
              refine go 2 (fun _ => false) mixed ?_
              simp (disch := omega) only [↓reduceIte, go_sem, hlt, hbl, g, g2, eC] <;> repeat with_reducible refine And.intro (by first | omega | decide) ?_
              refine go 2 (fun _ => false) mixed ?_
              simp (disch := omega) only [↓reduceIte, go_sem, hlt, hbl, g, g2, eC] <;> repeat with_reducible refine And.intro (by first | omega | decide) ?_
              refine go 2 (fun _ => false) mixed ?_
              simp (disch := omega) only [↓reduceIte, go_sem, hlt, hbl, g, g2, eC] <;> repeat with_reducible refine And.intro (by first | omega | decide) ?_
              refine go 2 (fun _ => false) mixed ?_
              simp (disch := omega) only [↓reduceIte, go_sem, hlt, hbl, g, g2, eC] <;> repeat with_reducible refine And.intro (by first | omega | decide) ?_
              refine go 2 (fun _ => false) mixed ?_
              simp (disch := omega) only [↓reduceIte, go_sem, hlt, hbl, g, g2, eC] <;> repeat with_reducible refine And.intro (by first | omega | decide) ?_
              refine go 2 (fun _ => false) mixed ?_
              simp (disch := omega) only [↓reduceIte, go_sem, hlt, hbl, g, g2, eC] <;> repeat with_reducible refine And.intro (by first | omega | decide) ?_
              refine go 200 (fun _ => false) mixed ?_
              simp (disch := omega) only [↓reduceIte, go_sem, hbe] <;> repeat with_reducible refine And.intro (by first | omega | decide) ?_
              exact rnd_next (m + 1) (by omega) (by show gs.length - (m + 1) < gs.length - m; omega) (by simp only [hs2]; rfl) rfl
          · have hm2 : m + 1 = gs.length := by omega
            rw [hm2]
            have hbl := bestC_lt (gs := gs) (n := gs.length) hroom0 (Nat.le_refl _)
            have g2 := esV_get hbl
            have hcut := c_abatisref10_cut gs hl (bestC gs gs.length) hbl
            have hgo : gs.getD (bestC gs gs.length) ent0 = gs.getD (bestC gs gs.length) ent0 := rfl
            simp (disch := omega) only [↓reduceIte, go_sem, cpEnv, cpHeap] <;> repeat with_reducible refine And.intro (by first | omega | decide) ?_
            refine go 3 (fun _ => false) mixed ?_
            simp (disch := omega) only [↓reduceIte, go_sem] <;> repeat with_reducible refine And.intro (by first | omega | decide) ?_
            refine go 12 (fun _ => false) mixed ?_
            simp (disch := omega) only [↓reduceIte, go_sem, hbl, g2, eC_len, eC_one, eC_drop] <;> repeat with_reducible refine And.intro (by first | omega | decide) ?_
            refine go 200 (fun _ => false) mixed ?_
            simp (disch := omega) only [↓reduceIte, go_sem, hbl, g2, eC_len, eC_one, eC_drop] <;> repeat with_reducible refine And.intro (by first | omega | decide) ?_
            refine hcut.on (go 200 (fun _ => false) mixed ?_)
            simp (disch := omega) only [↓reduceIte, go_sem] <;> repeat with_reducible refine And.intro (by first | omega | decide) ?_
            subst hmr
            exact mid_cp (gl := cutC gs (bestC gs gs.length)) (own := own) (e := gs.getD (bestC gs gs.length) ent0) (b := true) (now := now) (L := [some (.cells 0 [.int .i64 room, .sl 4 (esV gs)])]) hb (by rw [List.append_assoc]; rfl) rfl ⟨cutC_len, rfl, rfl⟩
        · rw [if_neg hq] at hmr
          refine go 200 (fun _ => false) mixed ?_
          simp (disch := omega) only [↓reduceIte, go_sem, hq] <;> repeat with_reducible refine And.intro (by first | omega | decide) ?_
          subst hmr
          exact mid_cp (gl := liveC now gs) (own := own) (e := ent0) (b := false) (now := now) (L := [some (.cells 0 [.int .i64 room, .sl 4 (esV (liveC now gs))])]) hb (by rw [List.append_assoc]; rfl) rfl ⟨hlle, rfl, rfl⟩
      · rw [if_neg hr] at hmr
        simp (disch := omega) only [↓reduceIte, go_sem, h0, hr] <;> repeat with_reducible refine And.intro (by first | omega | decide) ?_
        subst hmr
        exact mid_to ⟨Nat.le_refl _, rfl, rfl⟩
  · rintro σ K ⟨hll, rfl, rfl⟩
    refine go 12 (fun _ => false) mixed ?_
    simp (disch := omega) only [↓reduceIte, go_sem, cpEnv, cpHeap] <;> repeat with_reducible refine And.intro (by first | omega | decide) ?_
    refine runs_cut [false, false, false, false, false, true, true, false, false, false, false, false, true, true, true, true, false, true, true, false, false, false, false, true]
      (fun σ K => ∃ n, n ≤ mr.1.length ∧ insC own.1 own.2 mr.1 mr.1.length = mr.1.take n ++ own :: mr.1.drop n ∧ σ = slots 162 (cpEnv H.length now mr.2.2 ++ [.any, .any, .any, .any, .int .i64 n]) ∧ K = H ++ cpHeap room mr.1 own (goC mr.2.2 mr.2.1)) (by rfl) ?_ ?_
    · refine go 200 (fun _ => false) mixed ?_
      simp (disch := omega) only [↓reduceIte, go_sem] <;> repeat with_reducible refine And.intro (by first | omega | decide) ?_
      refine runs_loopA (fun n : Nat => n ≤ mr.1.length ∧ insC own.1 own.2 mr.1 mr.1.length = insC own.1 own.2 mr.1 n) (fun n => n) [false, false, false, false, false, true, true, false, false, false, false, false, true, true, true, true, false, true, true, false, false, false, false, true]
        (fun n => slots 162 (cpEnv H.length now mr.2.2 ++ [.any, .any, .any, .any, .int .i64 n])) (fun _ => H ++ cpHeap room mr.1 own (goC mr.2.2 mr.2.1)) (by rfl) mr.1.length ⟨Nat.le_refl _, rfl⟩ rfl rfl ?_
      rintro n ⟨hn, hins⟩
      refine go 3 (fun _ => false) mixed ?_
      cases n with
      | zero =>
        simp (disch := omega) only [↓reduceIte, go_sem, cpEnv, cpHeap] <;> repeat with_reducible refine And.intro (by first | omega | decide) ?_
        repeat (refine go 3 (fun _ => false) mixed ?_; (simp (disch := omega) only [↓reduceIte, go_sem] <;> repeat with_reducible refine And.intro (by first | omega | decide) ?_))
        exact mid_to ⟨0, Nat.zero_le _, hins, rfl, rfl⟩
      | succ m =>
        have hm : m < mr.1.length := by omega
        have g := esV_get hm
        have hw1 : IntKind.i64.wrap (((m + 1 : Nat) : Int) - 1) = (m : Nat) := by rw [w64 (by omega) (by omega)]; omega
        have hstep : insC own.1 own.2 mr.1 (m + 1) = if cmpC own.1 (mr.1.getD m ent0).1 < 0 then insC own.1 own.2 mr.1 m else mr.1.take (m + 1) ++ own :: mr.1.drop (m + 1) := rfl
        generalize mr.1.getD m ent0 = e at *
        have h01 : (0 < m + 1) = True := eq_true (Nat.succ_pos m)
        simp (disch := omega) only [↓reduceIte, go_sem, cpEnv, cpHeap] <;> repeat with_reducible refine And.intro (by first | omega | decide) ?_
        refine go 2 (fun _ => false) mixed ?_
        simp (disch := omega) only [↓reduceIte, go_sem, h01, g, hw1, hm, eC] <;> repeat with_reducible refine And.intro (by first | omega | decide) ?_
        refine go 2 (fun _ => false) mixed ?_
        simp (disch := omega) only [↓reduceIte, go_sem, h01, g, hw1, hm, eC] <;> repeat with_reducible refine And.intro (by first | omega | decide) ?_
        refine go 2 (fun _ => false) mixed ?_
        simp (disch := omega) only [↓reduceIte, go_sem, h01, g, hw1, hm, eC] <;> repeat with_reducible refine And.intro (by first | omega | decide) ?_
        refine go 2 (fun _ => false) mixed ?_
        simp (disch := omega) only [↓reduceIte, go_sem, h01, g, hw1, hm, eC] <;> repeat with_reducible refine And.intro (by first | omega | decide) ?_
        refine go 2 (fun _ => false) mixed ?_
        simp (disch := omega) only [↓reduceIte, go_sem, h01, g, hw1, hm, eC] <;> repeat with_reducible refine And.intro (by first | omega | decide) ?_
        refine go 2 (fun _ => false) mixed ?_
        simp (disch := omega) only [↓reduceIte, go_sem, h01, g, hw1, hm, eC] <;> repeat with_reducible refine And.intro (by first | omega | decide) ?_
        refine go 2 (fun _ => false) mixed ?_
        simp (disch := omega) only [↓reduceIte, go_sem, h01, g, hw1, hm, eC] <;> repeat with_reducible refine And.intro (by first | omega | decide) ?_
        refine go 2 (fun _ => false) mixed ?_
        simp (disch := omega) only [↓reduceIte, go_sem, h01, g, hw1, hm, eC] <;> repeat with_reducible refine And.intro (by first | omega | decide) ?_
        refine go 2 (fun _ => false) mixed ?_
        simp (disch := omega) only [↓reduceIte, go_sem, h01, g, hw1, hm, eC] <;> repeat with_reducible refine And.intro (by first | omega | decide) ?_
        refine go 2 (fun _ => false) mixed ?_
        simp (disch := omega) only [↓reduceIte, go_sem, h01, g, hw1, hm, eC] <;> repeat with_reducible refine And.intro (by first | omega | decide) ?_
        refine go 2 (fun _ => false) mixed ?_
        simp (disch := omega) only [↓reduceIte, go_sem, h01, g, hw1, hm, eC] <;> repeat with_reducible refine And.intro (by first | omega | decide) ?_
        refine go 2 (fun _ => false) mixed ?_
        simp (disch := omega) only [↓reduceIte, go_sem, h01, g, hw1, hm, eC] <;> repeat with_reducible refine And.intro (by first | omega | decide) ?_
        have hs := slt_cmp own.1.name e.1.name
        have hnext : cmpC own.1 e.1 < 0 → insC own.1 own.2 mr.1 mr.1.length = insC own.1 own.2 mr.1 m := fun hc => by rw [hins, hstep, if_pos hc]
        have hstop : ¬ cmpC own.1 e.1 < 0 → insC own.1 own.2 mr.1 mr.1.length = mr.1.take (m + 1) ++ own :: mr.1.drop (m + 1) := fun hc => by rw [hins, hstep, if_neg hc]
        unfold cmpC at hnext hstop
        rcases cmpL_ord.one own.1.name e.1.name with h | h | h
        · have h1 : Op.bytesLess (bs own.1.name).toList (bs e.1.name).toList = true := by simpa [slt, h] using hs
          repeat (refine go 2 (fun _ => false) mixed ?_; (simp (disch := omega) only [↓reduceIte, go_sem, h1, g, hw1, hm, eC] <;> repeat with_reducible refine And.intro (by first | omega | decide) ?_))
          exact rnd_next m ⟨by omega, hnext (by rw [if_neg (by omega)]; omega)⟩ (Nat.lt_succ_self m) rfl rfl
        · have h1 : Op.bytesLess (bs own.1.name).toList (bs e.1.name).toList = false := by simpa [slt, h] using hs
          have h2 : (bs own.1.name = bs e.1.name) = True := eq_true ((cmpL_eq own.1.name e.1.name).mpr h)
          by_cases htp : own.1.typ < e.1.typ
          · repeat (refine go 2 (fun _ => false) mixed ?_; (simp (disch := omega) only [↓reduceIte, go_sem, h1, h2, g, hw1, hm, eC, htp] <;> repeat with_reducible refine And.intro (by first | omega | decide) ?_))
            exact rnd_next m ⟨by omega, hnext (by rw [if_pos h]; unfold cmpI; rw [if_pos htp]; decide)⟩ (Nat.lt_succ_self m) rfl rfl
          · repeat (refine go 2 (fun _ => false) mixed ?_; (simp (disch := omega) only [↓reduceIte, go_sem, h1, h2, g, hw1, hm, eC, htp] <;> repeat with_reducible refine And.intro (by first | omega | decide) ?_))
            exact mid_to ⟨m + 1, hn, hstop (by rw [if_pos h]; unfold cmpI; rw [if_neg htp]; split <;> decide), rfl, rfl⟩
        · have h1 : Op.bytesLess (bs own.1.name).toList (bs e.1.name).toList = false := by simpa [slt, h] using hs
          have h2 : (bs own.1.name = bs e.1.name) = False := eq_false fun x => by have := (cmpL_eq own.1.name e.1.name).mp x; omega
          repeat (refine go 2 (fun _ => false) mixed ?_; (simp (disch := omega) only [↓reduceIte, go_sem, h1, h2, g, hw1, hm, eC] <;> repeat with_reducible refine And.intro (by first | omega | decide) ?_))
          exact mid_to ⟨m + 1, hn, hstop (by rw [if_neg (by omega)]; omega), rfl, rfl⟩
    · rintro σ K ⟨n, hn, hins, rfl, rfl⟩
      rw [hins]
      have tl : (mr.1.take n).length = n := by rw [List.length_take]; omega
      have hf1 : (flat (esV (mr.1.take n))).length = n * 4 := by rw [esV_flat, tl]
      have hf2 : (flat (esV (mr.1.take n)) ++ eC own).length = (n + 1) * 4 := by rw [List.length_append, hf1, eC_len]; omega
      have tln : List.take mr.1.length mr.1 = mr.1 := List.take_length
      have dl : (mr.1.drop n).length = mr.1.length - n := List.length_drop
      refine go 49 (fun t => t==147) mixed ?_
      simp (disch := omega) only [↓reduceIte, go_sem, cpEnv, cpHeap, most, tl, hf1, hf2, tln, dl, eC_one, eC_len, eC_take] <;> repeat with_reducible refine And.intro (by first | omega | decide) ?_
      refine Runs.ghost' (by rfl) (Ghost.freeze (t := 157) (xs := esV (mr.1.take n ++ own :: mr.1.drop n)) rfl (by rw [get_tail]; rfl) ?_ (by rw [esV_len, List.length_append, List.length_cons, tl, dl]; omega) esV_cells) ?_
      · have e1 : flat (esV (mr.1.take n ++ own :: mr.1.drop n)) = flat (esV (mr.1.take n)) ++ eC own ++ flat (esV (mr.1.drop n)) := by
          rw [← esV_app, flatE_app, List.append_assoc]; rfl
        unfold subCells
        rw [List.drop_zero, e1]
        refine (List.take_of_length_le ?_).symm
        rw [List.length_append, hf2, esV_flat, dl]
        omega
      refine go 200 (fun _ => false) mixed ?_
      simp (disch := omega) only [↓reduceIte, go_sem, ordCR_29, goC_len, goC_take, goC_drop, goC_one, e0C] <;> repeat with_reducible refine And.intro (by first | omega | decide) ?_
      refine runs_fork (l1 := [1, 3, 4, 5]) (l2 := [3, 1, 4, 5]) rfl rfl ?_ ?_
      · refine go 200 (fun _ => false) mixed ?_
        simp (disch := omega) only [↓reduceIte, go_sem, goC_len, goC_take, goC_drop, goC_one] <;> repeat with_reducible refine And.intro (by first | omega | decide) ?_
        exact fin_c (.inr rfl) hb (by simp (disch := omega) only [↓reduceIte, go_sem, resE_3, goC_len, goC_take] <;> repeat with_reducible refine And.intro (by first | omega | decide) ?_ <;> rfl) bdd_putc
      · refine go 200 (fun _ => false) mixed ?_
        simp (disch := omega) only [↓reduceIte, go_sem, goC_len, goC_take, goC_drop, goC_one] <;> repeat with_reducible refine And.intro (by first | omega | decide) ?_
        exact fin_c (.inr rfl) hb (by simp (disch := omega) only [↓reduceIte, go_sem, resE_3, goC_len, goC_take] <;> repeat with_reducible refine And.intro (by first | omega | decide) ?_ <;> rfl) bdd_putc
end Go.Proofs.GoC
