/-
  What the document's functions compute: entries in the row of keys. No claim by itself.
-/
import Derived.Test.YtcmbnoloimdlaaaGoCache8
namespace Go.Proofs.GoC
open Go Go.Proofs.SL
set_option linter.unusedSimpArgs false
set_option linter.unusedVariables false
set_option maxRecDepth 10000
set_option maxHeartbeats 4000000

def eC (e : CKey × Ent) : List PV := [.str (bs e.1.name), .int .i64 e.1.typ, .sl 17 (adsV e.2.l), .int .i64 e.2.til]
def esV (gs : Ents) : List PV := gs.map fun e => .agg (eC e)
@[go_sem] theorem esV_len {gs : Ents} : (esV gs).length = gs.length := List.length_map ..
theorem esV_get {gs : Ents} {k : Nat} (h : k < gs.length) : (esV gs).getD k .any = .agg (eC (gs.getD k ent0)) := by
  simp [esV, List.getD_eq_getElem?_getD, h]
def rcV (room : Int) (gs : Ents) : PV := .agg [.int .i64 room, .sl 4 (esV gs)]
theorem eC_len {e : CKey × Ent} : (eC e).length = 4 := rfl
theorem eC_one {e : CKey × Ent} : (eC e).all PV.one = true := rfl
theorem eC_take {e : CKey × Ent} : List.take 4 (eC e) = eC e := rfl
theorem eC_drop {e : CKey × Ent} : List.drop 4 (eC e) = [] := rfl
theorem esV_cells {gs : Ents} : ∀ x ∈ esV gs, x.cells.length = 4 := by
  intro x hx
  obtain ⟨e, he, rfl⟩ := List.mem_map.mp hx
  rfl
theorem esV_bdd {gs : Ents} {n : Nat} : ∀ x ∈ esV gs, Bdd n x := by
  intro x hx
  obtain ⟨e, he, rfl⟩ := List.mem_map.mp hx
  refine .agg _ fun p hp => ?_
  simp only [eC, List.mem_cons, List.not_mem_nil, or_false] at hp
  rcases hp with rfl | rfl | rfl | rfl
  · simp
  · simp
  · exact .sl _ _ adsV_bdd
  · simp
theorem esV_flat {gs : Ents} : (flat (esV gs)).length = gs.length * 4 := by rw [flat_length esV_cells, esV_len]
@[go_sem] theorem esV_take {gs : Ents} {n : Nat} : List.take n (esV gs) = esV (gs.take n) := by simp [esV, List.map_take]
@[go_sem] theorem esV_drop {gs : Ents} {n : Nat} : List.drop n (esV gs) = esV (gs.drop n) := by simp [esV, List.map_drop]
theorem esV_app {a b : Ents} : esV a ++ esV b = esV (a ++ b) := by simp [esV]
theorem flatE_app (a b : List PV) : flat (a ++ b) = flat a ++ flat b := by simp [flat]

theorem c_abatisref10_Find (room : Int) (gs : Ents) (hl : gs.length < 1000000) (name : List UInt8) (hn : name.length < 1000000) (kind : Int) :
    PCall Try.prog 25 [rcV room gs, .str (bs name), .int .i64 kind] (.int .i64 (idxC ⟨lowF name, kind⟩ gs 0)) := by
  intro H
  have hlow := c_abatisref01_Lower name hn
  refine scall_of (ord := fun _ => []) (rs := [6]) Try.func25 rfl (by kernel_rfl) (by kernel_rfl) (by kernel_rfl) Try.ntmps25 fun hb hargs => go 200 (fun _ => false) mixed ?_
  simp (disch := omega) only [↓reduceIte, go_sem, rcV] <;> repeat with_reducible refine And.intro (by first | omega | decide) ?_
  refine runs_loopA (fun i : Nat => i ≤ gs.length ∧ idxC ⟨lowF name, kind⟩ gs 0 = idxC ⟨lowF name, kind⟩ (gs.drop i) i) (fun i => gs.length - i) [false, true, true, true, false, false, false, true]
    (fun i => slots 35 [.any, .str (bs name), .int .i64 kind, .ptr H.length 0 0, .any, .any, .any, .int .i64 i])
    (fun _ => H ++ [some (.cells 0 [.int .i64 room, .sl 4 (esV gs)])]) (by rfl) 0 ⟨Nat.zero_le _, rfl⟩ rfl rfl ?_
  rintro i ⟨hi, ho⟩
  refine go 200 (fun _ => false) mixed ?_
  by_cases hlt : i < gs.length
  · have g := esV_get hlt
    rw [idxC_step hlt] at ho
    generalize gs.getD i ent0 = e at *
    simp (disch := omega) only [↓reduceIte, go_sem, hlt, g, eC] <;> repeat with_reducible refine And.intro (by first | omega | decide) ?_
    refine hlow.onq (go 200 (fun _ => false) mixed ?_)
    by_cases h1 : e.1.name = lowF name
    · have h1e : (bs e.1.name = bs (lowF name)) = True := eq_true (bs_inj.mpr h1)
      by_cases h2 : e.1.typ = kind
      · have he : e.1 = ⟨lowF name, kind⟩ := by cases hk : e.1; rw [hk] at h1 h2; simp_all
        rw [if_pos he] at ho
        simp (disch := omega) only [↓reduceIte, go_sem, hlt, g, eC, h1e, h2] <;> repeat with_reducible refine And.intro (by first | omega | decide) ?_
        exact fin_drop (.inr rfl) hb (by rw [ho]; rfl) (by simp)
      · have he : ¬ e.1 = ⟨lowF name, kind⟩ := fun h => h2 (by rw [h])
        rw [if_neg he] at ho
        simp (disch := omega) only [↓reduceIte, go_sem, hlt, g, eC, h1e, h2] <;> repeat with_reducible refine And.intro (by first | omega | decide) ?_
        exact rnd_next (i + 1) ⟨by omega, ho⟩ (by show gs.length - (i + 1) < gs.length - i; omega) rfl rfl
    · have h1e : (bs e.1.name = bs (lowF name)) = False := eq_false fun h => h1 (bs_inj.mp h)
      have he : ¬ e.1 = ⟨lowF name, kind⟩ := fun h => h1 (by rw [h])
      rw [if_neg he] at ho
      simp (disch := omega) only [↓reduceIte, go_sem, hlt, g, eC, h1e] <;> repeat with_reducible refine And.intro (by first | omega | decide) ?_
      exact rnd_next (i + 1) ⟨by omega, ho⟩ (by show gs.length - (i + 1) < gs.length - i; omega) rfl rfl
  · have hi2 : i = gs.length := by omega
    subst hi2
    rw [List.drop_length] at ho
    simp (disch := omega) only [↓reduceIte, go_sem, hlt] <;> repeat with_reducible refine And.intro (by first | omega | decide) ?_
    refine go 200 (fun _ => false) mixed ?_
    simp (disch := omega) only [↓reduceIte, go_sem] <;> repeat with_reducible refine And.intro (by first | omega | decide) ?_
    exact fin_drop (.inr rfl) hb (by rw [ho]; rfl) (by simp)

theorem c_abatisref10_cut (gs : Ents) (hl : gs.length < 1000000) (i : Nat) (hi : i < gs.length) :
    PCall Try.prog 26 [.sl 4 (esV gs), .int .i64 i] (.sl 4 (esV (cutC gs i))) := by
  intro H
  refine scall_of (T := tdOf Try.prog) (ord := fun _ => []) (rs := [4]) Try.func26 rfl (by kernel_rfl) (by kernel_rfl) (by kernel_rfl) Try.ntmps26 fun hb hargs => go 200 (fun t => t == 10) mixed ?_
  have e1 : (gs.take i).length = i := by rw [List.length_take]; omega
  have e2 : (gs.drop (i + 1)).length = gs.length - (i + 1) := List.length_drop ..
  have hf1 : (flat (esV (gs.take i))).length = i * 4 := by rw [esV_flat, e1]
  have et : List.take gs.length gs = gs := List.take_length
  simp (disch := omega) only [↓reduceIte, go_sem, most, hi, e1, et, e2, hf1, hl] <;> repeat with_reducible refine And.intro (by first | omega | decide) ?_
  refine fin_freeze (i := H.length) (xs := esV (cutC gs i)) (.inr rfl) hb rfl (Nat.le_refl _) (by rw [get_tail0]; rfl) ?_ (by unfold cutC; rw [esV_len, List.length_append, e1, e2]) esV_cells esV_bdd ⟨rfl, rfl⟩
  unfold cutC
  rw [← esV_app, flatE_app]
  unfold subCells
  rw [List.drop_zero]
  refine (List.take_of_length_le ?_).symm
  rw [List.length_append, hf1, esV_flat, e2]
  omega

theorem c_abatisref10_Sweep (room : Int) (gs : Ents) (hl : gs.length < 1000000) (now : Int) :
    PCall Try.prog 27 [rcV room gs, .int .i64 now] (.tup [rcV room (liveC now gs), .int .i64 ((gs.length : Nat) - ((liveC now gs).length : Nat))]) := by
  intro H
  refine scall_ofc (ord := fun _ => []) (tdOf_ok _) (rs := [.cell 4 27, .tmp 5]) Try.func27 rfl (by kernel_rfl) (by kernel_rfl) (by kernel_rfl) Try.ntmps27 fun hb hargs => go 200 (fun _ => false) mixed ?_
  simp (disch := omega) only [↓reduceIte, go_sem, rcV] <;> repeat with_reducible refine And.intro (by first | omega | decide) ?_
  refine Runs.ghost (by rfl) (Ghost.grow (t := 6) (m := 4) rfl) ?_
  refine runs_loopA (fun i : Nat => i ≤ gs.length) (fun i => gs.length - i) [false, true, true, false, true, true, true, true]
    (fun i => slots 42 [.any, .int .i64 now, .ptr H.length 0 0, .any, .ptr (H.length + 1) 0 0, .int .i64 0, .buf (H.length + 2) (liveC now (gs.take i)).length 0 (liveC now (gs.take i)).length 4 true, .int .i64 i])
    (fun i => H ++ [some (.cells 0 [.int .i64 room, .sl 4 (esV gs)]), some (.cells 0 [.int .i64 0, .nils]), some (.cells (liveC now (gs.take i)).length (flat (esV (liveC now (gs.take i)))))]) (by rfl) 0 (Nat.zero_le _) (by simp [liveC, slots, keepB]) (by simp [liveC, esV, flat]) ?_
  intro i hi
  refine go 200 (fun _ => false) mixed ?_
  have hkl : (liveC now (gs.take i)).length ≤ i := Nat.le_trans (List.length_filter_le _ _) (by rw [List.length_take]; omega)
  have hfl : (flat (esV (liveC now (gs.take i)))).length = (liveC now (gs.take i)).length * 4 := esV_flat
  by_cases hlt : i < gs.length
  · have g := esV_get hlt
    have hstep := liveC_step (now := now) hlt
    generalize gs.getD i ent0 = e at *
    by_cases hp : now < e.2.til
    · rw [if_pos hp] at hstep
      simp (disch := omega) only [↓reduceIte, go_sem, hlt, g, eC, hp, most, hfl] <;> repeat with_reducible refine And.intro (by first | omega | decide) ?_
      have e1 : (liveC now (gs.take (i + 1))).length = (liveC now (gs.take i)).length + 1 := by rw [hstep]; simp
      have e2 : flat (esV (liveC now (gs.take (i + 1)))) = flat (esV (liveC now (gs.take i))) ++ eC e := by rw [hstep, ← esV_app, flatE_app]; simp [esV, flat, PV.cells]
      exact rnd_next (i + 1) (by omega) (by show gs.length - (i + 1) < gs.length - i; omega) (by simp only [e1]; rfl) (by simp only [e1, e2, List.append_nil]; rfl)
    · rw [if_neg hp, List.append_nil] at hstep
      simp (disch := omega) only [↓reduceIte, go_sem, hlt, g, eC, hp] <;> repeat with_reducible refine And.intro (by first | omega | decide) ?_
      exact rnd_next (i + 1) (by omega) (by show gs.length - (i + 1) < gs.length - i; omega) (by simp only [hstep]; rfl) (by simp only [hstep])
  · have hi2 : i = gs.length := by omega
    subst hi2
    rw [List.take_length] at hkl hfl ⊢
    simp (disch := omega) only [↓reduceIte, go_sem, hlt] <;> repeat with_reducible refine And.intro (by first | omega | decide) ?_
    refine Runs.ghost (by rfl) (Ghost.freeze (t := 6) (xs := esV (liveC now gs)) rfl (by rw [get_tail]; rfl) ?_ esV_len esV_cells) ?_
    · unfold subCells
      rw [List.drop_zero]
      exact (List.take_of_length_le (by rw [hfl]; exact Nat.le_refl _)).symm
    have hw : IntKind.i64.wrap ((gs.length : Int) - (liveC now gs).length) = (gs.length : Int) - (liveC now gs).length := w64 (by omega) (by omega)
    refine go 200 (fun _ => false) mixed ?_
    simp (disch := omega) only [↓reduceIte, go_sem, hw] <;> repeat with_reducible refine And.intro (by first | omega | decide) ?_
    exact fin_c (.inr rfl) hb (by simp only [go_sem] <;> rfl) (bdd_tup.mpr fun p hp => by
      simp only [List.mem_cons, List.not_mem_nil, or_false] at hp
      rcases hp with rfl | rfl
      · refine bdd_agg.mpr fun p hp => ?_
        simp only [List.mem_cons, List.not_mem_nil, or_false] at hp
        rcases hp with rfl | rfl
        · simp
        · exact .sl _ _ esV_bdd
      · simp)

def rcG : PV → PV
  | .agg [x, .nils] => .agg [x, .sl 4 []]
  | v => v
theorem V.rcG {β : Nat → Option Nat} {H : Heap} {w : World} {v : Value} {r : PV} (h : V β H w v r) : V β H w v (rcG r) := by
  unfold GoC.rcG
  split
  · rename_i x
    obtain ⟨vs, rfl, hs, hv⟩ := h.agg_inv
    refine .agg vs _ (by simpa using hs) fun i a p h1 h2 => ?_
    rcases i with _ | _ | i
    · exact hv 0 a p h1 h2
    · cases h2
      have := hv 1 a .nils h1 rfl
      rw [this.nils_inv]
      exact .sl0 none 0 4
    · simp at h2
  · exact h
theorem c_abatisref10_New (n : Int) : PCall Try.prog 9 [.int .i64 n] (rcV (cutS n 64) []) := by
  intro H
  refine (SCall.res (g := rcG) (fun _ _ _ _ _ h => V.rcG h) (Q := fun r H' => r = .agg [.int .i64 (cutS n 64), .nils] ∧ H' = H) ?_).mono fun r H' ⟨r0, h1, h2, h3⟩ => ⟨by rw [h1, h2]; rfl, h3⟩
  refine scall_ofc (ord := fun _ => []) (tdOf_ok _) (rs := [.cell 2 27]) Try.func9 rfl (by kernel_rfl) (by kernel_rfl) (by kernel_rfl) Try.ntmps9 fun hb hargs => go 200 (fun _ => false) mixed ?_
  simp (disch := omega) only [↓reduceIte, go_sem] <;> repeat with_reducible refine And.intro (by first | omega | decide) ?_
  exact fin_c (.inr rfl) hb (by simp only [go_sem] <;> rfl) (by simp)

theorem idxC_get {k : CKey} : ∀ {gs : Ents} {i : Nat}, (idxC k gs i = -1 ∧ findA k gs = none) ∨ ∃ j, j < gs.length ∧ idxC k gs i = ((i + j : Nat) : Int) ∧ findA k gs = some (gs.getD j ent0).2
  | [], _ => .inl ⟨rfl, rfl⟩
  | e :: gs, i => by
    by_cases he : e.1 = k
    · exact .inr ⟨0, by simp, by rw [idxC, if_pos he]; rfl, by rw [findA, if_pos he.symm]; rfl⟩
    · rcases idxC_get (k := k) (gs := gs) (i := i + 1) with ⟨h1, h2⟩ | ⟨j, hj, h1, h2⟩
      · exact .inl ⟨by rw [idxC, if_neg he]; exact h1, by rw [findA, if_neg (fun h => he h.symm)]; exact h2⟩
      · exact .inr ⟨j + 1, by simp; omega, by rw [idxC, if_neg he, h1]; congr 1; omega, by rw [findA, if_neg (fun h => he h.symm), h2]; rfl⟩

def tupG (m : Nat) : PV → PV
  | .tup [.nils, b] => .tup [.sl m [], b]
  | v => v
theorem tup_nils {m : Nat} {β : Nat → Option Nat} {H : Heap} {w : World} {v : Value} {r : PV} (hv : V β H w v r) : V β H w v (tupG m r) := by
  unfold tupG
  split
  · rename_i b
    obtain ⟨vs, rfl, hs, hv⟩ := hv.tup_inv
    refine .tup vs _ (by simpa using hs) fun i a p h1 h2 => ?_
    rcases i with _ | i
    · cases h2
      have := hv 0 a .nils h1 rfl
      rw [this.nils_inv]
      exact .sl0 none 0 m
    · exact hv (i + 1) a p h1 h2
  · exact hv

theorem c_abatisref10_Get (room : Int) (gs : Ents) (hl : gs.length < 1000000) (name : List UInt8) (hn : name.length < 1000000) (kind now : Int) :
    PCall Try.prog 33 [rcV room gs, .str (bs name), .int .i64 kind, .int .i64 now] (.tup [.sl 17 (adsV (getF ⟨lowF name, kind⟩ now gs).1), .bool (getF ⟨lowF name, kind⟩ now gs).2]) := by
  intro H
  refine (SCall.res (g := tupG 17) (fun _ _ _ _ _ h => tup_nils h) (Q := fun r H' => r = getV (getF ⟨lowF name, kind⟩ now gs) ∧ H' = H) ?_).mono fun r H' ⟨r0, h1, h2, h3⟩ => ⟨?_, h3⟩
  rotate_left
  · rw [h1, h2]
    have hg := @getF_nil ⟨lowF name, kind⟩ now gs
    generalize getF ⟨lowF name, kind⟩ now gs = x at *
    obtain ⟨l, b⟩ := x
    cases b with
    | true => rfl
    | false => rw [hg rfl]; rfl
  have hfind := c_abatisref10_Find room gs hl name hn kind
  refine scall_of (ord := fun _ => []) (rs := [8, 9]) Try.func33 rfl (by kernel_rfl) (by kernel_rfl) (by kernel_rfl) Try.ntmps33 fun hb hargs => go 200 (fun _ => false) mixed ?_
  unfold rcV at hfind ⊢
  simp (disch := omega) only [↓reduceIte, go_sem] <;> repeat with_reducible refine And.intro (by first | omega | decide) ?_
  refine hfind.on (go 200 (fun _ => false) mixed ?_)
  unfold getF
  rcases idxC_get (k := ⟨lowF name, kind⟩) (gs := gs) (i := 0) with ⟨h1, h2⟩ | ⟨j, hj, h1, h2⟩
  · rw [h1, h2]
    simp (disch := omega) only [↓reduceIte, go_sem] <;> repeat with_reducible refine And.intro (by first | omega | decide) ?_
    exact fin_drop (.inr rfl) hb rfl (by simp [getV])
  · rw [h1, h2, Nat.zero_add]
    have g := esV_get hj
    generalize gs.getD j ent0 = e at *
    dsimp only
    by_cases ht : e.2.til ≤ now
    · rw [if_pos ht]
      simp (disch := omega) only [↓reduceIte, go_sem, hj, g, eC, ht] <;> repeat with_reducible refine And.intro (by first | omega | decide) ?_
      exact fin_drop (.inr rfl) hb rfl (by simp [getV])
    · rw [if_neg ht]
      simp (disch := omega) only [↓reduceIte, go_sem, hj, g, eC, ht] <;> repeat with_reducible refine And.intro (by first | omega | decide) ?_
      exact fin_drop (.inr rfl) hb rfl (bdd_tup.mpr fun p hp => by
        simp only [List.mem_cons, List.not_mem_nil, or_false] at hp
        rcases hp with rfl | rfl
        · exact .sl _ _ adsV_bdd
        · simp)

/-- Are two lists of addresses the same? -/
theorem adC_inj {a b : Int × List Nat} : adC a = adC b ↔ a = b := by
  obtain ⟨a1, a2⟩ := a
  obtain ⟨b1, b2⟩ := b
  simp only [adC, adr_inj, Prod.mk.injEq]
theorem adsV_get {l : Ads} {k : Nat} (h : k < l.length) : (adsV l).getD k .any = .agg (adC (l.getD k (0, z16))) := by
  simp [adsV, List.getD_eq_getElem?_getD, h]
theorem c_abatisref10_SameAddrs (a b : Ads) (ha : AdsOk a) (hbk : AdsOk b) : PCall Try.prog 22 [.sl 17 (adsV a), .sl 17 (adsV b)] (.bool (decide (a = b))) := by
  intro H
  have hla := ha.len
  have hlb := hbk.len
  refine scall_of (ord := fun _ => []) (rs := [4]) Try.func22 rfl (by kernel_rfl) (by kernel_rfl) (by kernel_rfl) Try.ntmps22 fun hb hargs => go 200 (fun _ => false) mixed ?_
  by_cases hl : a.length = b.length
  · simp (disch := omega) only [↓reduceIte, go_sem, hl] <;> repeat with_reducible refine And.intro (by first | omega | decide) ?_
    refine runs_loopA (fun i : Nat => i ≤ a.length ∧ a.take i = b.take i) (fun i => a.length - i) [true, true, false, false, true, true]
      (fun i => slots 26 [.sl 17 (adsV a), .sl 17 (adsV b), .any, .any, .bool false, .int .i64 i]) (fun _ => H) (by rfl) 0 ⟨Nat.zero_le _, rfl⟩ rfl rfl ?_
    rintro i ⟨hi, hpre⟩
    refine go 200 (fun _ => false) mixed ?_
    by_cases hlt : i < a.length
    · have hltb : i < b.length := by omega
      have g1 := adsV_get hlt
      have g2 := adsV_get hltb
      have m1 : AdOk (a.getD i (0, z16)) := ha.ok _ (by rw [List.getD_eq_getElem?_getD, List.getElem?_eq_getElem hlt]; exact List.getElem_mem hlt)
      have m2 : AdOk (b.getD i (0, z16)) := hbk.ok _ (by rw [List.getD_eq_getElem?_getD, List.getElem?_eq_getElem hltb]; exact List.getElem_mem hltb)
      have ea : a.take (i + 1) = a.take i ++ [a.getD i (0, z16)] := by rw [List.take_succ_eq_append_getElem hlt]; simp [List.getD_eq_getElem?_getD, hlt]
      have eb : b.take (i + 1) = b.take i ++ [b.getD i (0, z16)] := by rw [List.take_succ_eq_append_getElem hltb]; simp [List.getD_eq_getElem?_getD, hltb]
      have hag : a = b → a.getD i (0, z16) = b.getD i (0, z16) := fun h => by rw [h]
      generalize a.getD i (0, z16) = x at *
      generalize b.getD i (0, z16) = y at *
      have l1 := adC_len m1
      have l2 := adC_len m2
      have t1 : List.map tagP (adC x) = some (Tag.i .i64) :: List.replicate 16 (some (Tag.i .u8)) := adr_tag m1.len
      have t2 : List.map tagP (adC y) = some (Tag.i .i64) :: List.replicate 16 (some (Tag.i .u8)) := adr_tag m2.len
      simp only [List.replicate] at t1 t2
      by_cases hxy : x = y
      · subst hxy
        simp (disch := omega) only [↓reduceIte, go_sem, hlt, hltb, g1, g2, l1, t1] <;> repeat with_reducible refine And.intro (by first | omega | decide) ?_
        exact rnd_next (i + 1) ⟨by omega, by rw [ea, eb, hpre]⟩ (by show a.length - (i + 1) < a.length - i; omega) rfl rfl
      · have he : (adC x = adC y) = False := eq_false fun h => hxy (adC_inj.mp h)
        have hne : decide (a = b) = false := decide_eq_false fun h => hxy (hag h)
        rw [hne]
        simp (disch := omega) only [↓reduceIte, go_sem, hlt, hltb, g1, g2, l1, l2, t1, t2, he] <;> repeat with_reducible refine And.intro (by first | omega | decide) ?_
        exact fin rfl rfl
    · have hab : a = b := by
        rw [List.take_of_length_le (by omega), List.take_of_length_le (by omega)] at hpre
        exact hpre
      simp (disch := omega) only [↓reduceIte, go_sem, hlt] <;> repeat with_reducible refine And.intro (by first | omega | decide) ?_
      refine go 200 (fun _ => false) mixed ?_
      simp (disch := omega) only [↓reduceIte, go_sem] <;> repeat with_reducible refine And.intro (by first | omega | decide) ?_
      exact fin (by simp [hab, retV]) rfl
  · have hne : decide (a = b) = false := decide_eq_false fun h => hl (by rw [h])
    rw [hne]
    simp (disch := omega) only [↓reduceIte, go_sem, hl] <;> repeat with_reducible refine And.intro (by first | omega | decide) ?_
    exact fin rfl rfl
end Go.Proofs.GoC
