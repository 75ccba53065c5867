/-
  What the document's functions compute: grants in the row of keys. No claim by itself.
-/
import Derived.Test.YtjjkidldccebjaaGoGrantD
namespace Go.Proofs.GoC
open Go Go.Proofs.SL
set_option linter.unusedSimpArgs false
set_option linter.unusedVariables false
set_option maxRecDepth 10000
set_option maxHeartbeats 4000000

def ordQ (_ : Nat) : List Nat := []
@[go_sem] theorem ordQ_eq {n : Nat} : ordQ n = [] := rfl

def gC (e : GKey × Int) : List PV := keyC e.1 ++ [.int .i64 e.2]
def gV (e : GKey × Int) : PV := .agg (gC e)
def gsV (gs : Grants) : List PV := gs.map gV
@[go_sem] theorem gsV_len {gs : Grants} : (gsV gs).length = gs.length := List.length_map ..
theorem gsV_get {gs : Grants} {k : Nat} (h : k < gs.length) : (gsV gs).getD k .any = .agg (gC (gs.getD k (key0, 0))) := by
  simp [gsV, gV, List.getD_eq_getElem?_getD, h]
/-- The document's book. -/
def rbV (room : Int) (gs : Grants) : PV := .agg [.int .i64 room, .sl 25 (gsV gs)]
theorem gC_len {e : GKey × Int} (h : KeyOk e.1) : (gC e).length = 25 := by simp [gC, keyC_len h]
theorem gC_key {e : GKey × Int} (h : KeyOk e.1) : List.take 24 (gC e) = keyC e.1 := by
  unfold gC
  rw [List.take_append_of_le_length (by rw [keyC_len h]; omega), keyC_take h]
theorem gC_until {e : GKey × Int} (h : KeyOk e.1) : (gC e).getD 24 .any = .int .i64 e.2 := by
  unfold gC
  rw [List.getD_eq_getElem?_getD, List.getElem?_append_right (by rw [keyC_len h]; omega), keyC_len h]; rfl

theorem gC_take {e : GKey × Int} (h : KeyOk e.1) : List.take 25 (gC e) = gC e := List.take_of_length_le (by rw [gC_len h]; omega)
theorem gC_one {e : GKey × Int} : (gC e).all PV.one = true := by unfold gC; rw [List.all_append, keyC_one]; rfl
def idxA (k : GKey) : Grants → Nat → Int
  | [], _ => -1
  | e :: gs, i => if e.1 = k then i else idxA k gs (i + 1)
theorem idxA_step {k : GKey} {gs : Grants} {i : Nat} (h : i < gs.length) : idxA k (gs.drop i) i = if (gs.getD i (key0, 0)).1 = k then (i : Int) else idxA k (gs.drop (i + 1)) (i + 1) := by
  rw [List.drop_eq_getElem_cons h, idxA]
  simp [List.getD_eq_getElem?_getD, h]

theorem c_abatisref18_Find (room : Int) (gs : Grants) (hg : KeysOk gs) (hl : gs.length < 1000000) (k : GKey) (hk : KeyOk k) :
    PCall Try.prog 32 [rbV room gs, .agg (keyC k)] (.int .i64 (idxA k gs 0)) := by
  intro H
  have kl := keyC_len hk
  have kt := keyC_take hk
  have kg := keyC_tag hk
  refine scall_of (ord := fun _ => []) (rs := [4]) Try.func32 rfl (by kernel_rfl) (by kernel_rfl) (by kernel_rfl) Try.ntmps32 fun hb hargs => go 200 (fun _ => false) mixed ?_
  simp (disch := omega) only [↓reduceIte, go_sem, rbV, keyC_one] <;> repeat with_reducible refine And.intro (by first | omega | decide) ?_
  refine runs_loopA (fun i : Nat => i ≤ gs.length ∧ idxA k gs 0 = idxA k (gs.drop i) i) (fun i => gs.length - i) [false, false, true, true, false, true]
    (fun i => slots 22 [.any, .any, .ptr H.length 0 0, .ptr (H.length + 1) 0 0, .any, .int .i64 i])
    (fun _ => H ++ [some (.cells 0 [.int .i64 room, .sl 25 (gsV gs)]), some (.cells 0 (keyC k))]) (by rfl) 0 ⟨Nat.zero_le _, rfl⟩ rfl rfl ?_
  rintro i ⟨hi, ho⟩
  refine go 200 (fun _ => false) mixed ?_
  by_cases hlt : i < gs.length
  · have g := gsV_get hlt
    rw [idxA_step hlt] at ho
    have hm : KeyOk (gs.getD i (key0, 0)).1 := hg _ (by rw [List.getD_eq_getElem?_getD, List.getElem?_eq_getElem hlt]; exact List.getElem_mem hlt)
    generalize gs.getD i (key0, 0) = e at *
    have l1 := gC_len hm
    have l2 := gC_key hm
    have kg2 := keyC_tag hm
    have kl2 := keyC_len hm
    by_cases he : e.1 = k
    · have hke : (keyC e.1 = keyC k) = True := eq_true (keyC_inj.mpr he)
      rw [if_pos he] at ho
      simp (disch := omega) only [↓reduceIte, go_sem, hlt, g, l1, l2, kl, kt, kg, kg2, kl2, hke] <;> repeat with_reducible refine And.intro (by first | omega | decide) ?_
      exact fin_drop (.inr rfl) hb (by rw [ho]; rfl) (by simp)
    · have hke : (keyC e.1 = keyC k) = False := eq_false fun h => he (keyC_inj.mp h)
      rw [if_neg he] at ho
      simp (disch := omega) only [↓reduceIte, go_sem, hlt, g, l1, l2, kl, kt, kg, kg2, kl2, hke] <;> repeat with_reducible refine And.intro (by first | omega | decide) ?_
      exact rnd_next (i + 1) ⟨by omega, ho⟩ (by show gs.length - (i + 1) < gs.length - i; omega) rfl rfl
  · have hi2 : i = gs.length := by omega
    subst hi2
    rw [List.drop_length] at ho
    simp (disch := omega) only [↓reduceIte, go_sem, hlt] <;> repeat with_reducible refine And.intro (by first | omega | decide) ?_
    refine go 200 (fun _ => false) mixed ?_
    simp (disch := omega) only [↓reduceIte, go_sem] <;> repeat with_reducible refine And.intro (by first | omega | decide) ?_
    exact fin_drop (.inr rfl) hb (by rw [ho]; rfl) (by simp)

theorem gV_cells {gs : Grants} (h : KeysOk gs) : ∀ x ∈ gsV gs, x.cells.length = 25 := by
  intro x hx
  obtain ⟨e, he, rfl⟩ := List.mem_map.mp hx
  exact gC_len (h e he)
theorem gV_bdd {gs : Grants} {n : Nat} : ∀ x ∈ gsV gs, Bdd n x := by
  intro x hx
  obtain ⟨e, he, rfl⟩ := List.mem_map.mp hx
  refine .agg _ fun p hp => ?_
  rcases List.mem_append.mp hp with hp | hp
  · exact (bdd_agg.mp (bdd_key (n := n) (k := e.1))) p hp
  · simp only [List.mem_cons, List.not_mem_nil, or_false] at hp; subst hp; simp
@[go_sem] theorem gsV_take {gs : Grants} {n : Nat} : List.take n (gsV gs) = gsV (gs.take n) := by simp [gsV, List.map_take]
@[go_sem] theorem gsV_drop {gs : Grants} {n : Nat} : List.drop n (gsV gs) = gsV (gs.drop n) := by simp [gsV, List.map_drop]
theorem gsV_app {a b : Grants} : gsV a ++ gsV b = gsV (a ++ b) := by simp [gsV]
theorem flat_app (a b : List PV) : flat (a ++ b) = flat a ++ flat b := by simp [flat]

theorem c_abatisref18_cut (gs : Grants) (hg : KeysOk gs) (hl : gs.length < 1000000) (i : Nat) (hi : i < gs.length) :
    PCall Try.prog 33 [.sl 25 (gsV gs), .int .i64 i] (.sl 25 (gsV (gs.take i ++ gs.drop (i + 1)))) := by
  intro H
  refine scall_of (T := tdOf Try.prog) (ord := fun _ => []) (rs := [4]) Try.func33 rfl (by kernel_rfl) (by kernel_rfl) (by kernel_rfl) Try.ntmps33 fun hb hargs => go 200 (fun t => t == 10) mixed ?_
  have e1 : (gs.take i).length = i := by rw [List.length_take]; omega
  have e2 : (gs.drop (i + 1)).length = gs.length - (i + 1) := List.length_drop ..
  have hf1 : (flat (gsV (gs.take i))).length = i * 25 := by rw [flat_length (gV_cells fun e he => hg e (List.mem_of_mem_take he)), gsV_len, e1]
  have et : List.take gs.length gs = gs := List.take_length
  simp (disch := omega) only [↓reduceIte, go_sem, most, hi, e1, et, e2, hf1, hl] <;> repeat with_reducible refine And.intro (by first | omega | decide) ?_
  refine fin_freeze (i := H.length) (xs := gsV (gs.take i ++ gs.drop (i + 1))) (.inr rfl) hb rfl (Nat.le_refl _) (by rw [get_tail0]; rfl) ?_ (by rw [gsV_len, List.length_append, e1, e2]) (gV_cells fun e he => ?_) gV_bdd ⟨rfl, rfl⟩
  · rw [← gsV_app, flat_app]
    unfold subCells
    rw [List.drop_zero]
    refine (List.take_of_length_le ?_).symm
    rw [List.length_append, hf1, flat_length (gV_cells fun e he => hg e (List.mem_of_mem_drop he)), gsV_len, e2]
    omega
  · rcases List.mem_append.mp he with he | he
    · exact hg e (List.mem_of_mem_take he)
    · exact hg e (List.mem_of_mem_drop he)

def keepG (o : Org) (gs : Grants) : Grants := gs.filter fun e => !decide (e.1.page = o)
theorem keepG_step {o : Org} {gs : Grants} {i : Nat} (h : i < gs.length) : keepG o (gs.take (i + 1)) = keepG o (gs.take i) ++ (if (gs.getD i (key0, 0)).1.page = o then [] else [gs.getD i (key0, 0)]) := by
  have e1 : gs.getD i (key0, 0) = gs[i] := by simp [List.getD_eq_getElem?_getD, h]
  rw [List.take_succ_eq_append_getElem h, e1]
  unfold keepG
  rw [List.filter_append]
  congr 1
  by_cases hp : gs[i].1.page = o <;> simp [hp]
theorem c_abatisref18_Drop (room : Int) (gs : Grants) (hg : KeysOk gs) (hl : gs.length < 1000000) (o : Org) :
    PCall Try.prog 19 [rbV room gs, .agg (orgC o)] (.tup [rbV room (keepG o gs), .int .i64 ((gs.length : Nat) - ((keepG o gs).length : Nat))]) := by
  intro H
  refine scall_ofc (ord := fun _ => []) (tdOf_ok _) (rs := [.cell 4 44, .tmp 5]) Try.func19 rfl (by kernel_rfl) (by kernel_rfl) (by kernel_rfl) Try.ntmps19 fun hb hargs => go 200 (fun _ => false) mixed ?_
  simp (disch := omega) only [↓reduceIte, go_sem, rbV, orgC_len, orgC_take, orgC_one] <;> repeat with_reducible refine And.intro (by first | omega | decide) ?_
  refine Runs.ghost (by rfl) (Ghost.grow (t := 6) (m := 25) rfl) ?_
  refine runs_loopA (fun i : Nat => i ≤ gs.length) (fun i => gs.length - i) [false, false, true, true, true, true, true, true]
    (fun i => slots 43 [.any, .any, .ptr H.length 0 0, .ptr (H.length + 1) 0 0, .ptr (H.length + 2) 0 0, .int .i64 0, .buf (H.length + 3) (keepG o (gs.take i)).length 0 (keepG o (gs.take i)).length 25 true, .int .i64 i])
    (fun i => H ++ [some (.cells 0 [.int .i64 room, .sl 25 (gsV gs)]), some (.cells 0 (orgC o)), some (.cells 0 [.int .i64 0, .nils]), some (.cells (keepG o (gs.take i)).length (flat (gsV (keepG o (gs.take i)))))]) (by rfl) 0 (Nat.zero_le _) (by simp [keepG, slots, keepB]) (by simp [keepG, gsV, flat]) ?_
  intro i hi
  refine go 200 (fun _ => false) mixed ?_
  have hkl : (keepG o (gs.take i)).length ≤ i := Nat.le_trans (List.length_filter_le _ _) (by rw [List.length_take]; omega)
  have hKO : KeysOk (keepG o (gs.take i)) := fun e he => hg e (List.mem_of_mem_take (List.mem_filter.mp he).1)
  have hfl : (flat (gsV (keepG o (gs.take i)))).length = (keepG o (gs.take i)).length * 25 := by rw [flat_length (gV_cells hKO), gsV_len]
  by_cases hlt : i < gs.length
  · have g := gsV_get hlt
    have hstep := keepG_step (o := o) hlt
    have hm : KeyOk (gs.getD i (key0, 0)).1 := hg _ (by rw [List.getD_eq_getElem?_getD, List.getElem?_eq_getElem hlt]; exact List.getElem_mem hlt)
    generalize gs.getD i (key0, 0) = e at *
    have l1 := gC_len hm
    have l2 := gC_key hm
    have kl2 := keyC_len hm
    by_cases hp : e.1.page = o
    · have he : (orgC e.1.page = orgC o) = True := eq_true (orgC_inj.mpr hp)
      rw [if_pos hp, List.append_nil] at hstep
      simp (disch := omega) only [↓reduceIte, go_sem, hlt, g, l1, l2, kl2, keyC_page, orgC_len, orgC_take, orgC_tag, he] <;> repeat with_reducible refine And.intro (by first | omega | decide) ?_
      exact rnd_next (i + 1) (by omega) (by show gs.length - (i + 1) < gs.length - i; omega) (by simp only [hstep]; rfl) (by simp only [hstep])
    · have he : (orgC e.1.page = orgC o) = False := eq_false fun h => hp (orgC_inj.mp h)
      rw [if_neg hp] at hstep
      simp (disch := omega) only [↓reduceIte, go_sem, hlt, g, l1, l2, kl2, keyC_page, orgC_len, orgC_take, orgC_tag, he, most, hfl, gC_one, gC_take hm] <;> repeat with_reducible refine And.intro (by first | omega | decide) ?_
      have e1 : (keepG o (gs.take (i + 1))).length = (keepG o (gs.take i)).length + 1 := by rw [hstep]; simp
      have e2 : flat (gsV (keepG o (gs.take (i + 1)))) = flat (gsV (keepG o (gs.take i))) ++ gC e := by rw [hstep, ← gsV_app, flat_app]; simp [gsV, gV, flat, PV.cells]
      exact rnd_next (i + 1) (by omega) (by show gs.length - (i + 1) < gs.length - i; omega) (by simp only [e1]; rfl) (by simp only [e1, e2, List.append_nil])
  · have hi2 : i = gs.length := by omega
    subst hi2
    rw [List.take_length] at hkl hKO hfl ⊢
    simp (disch := omega) only [↓reduceIte, go_sem, hlt] <;> repeat with_reducible refine And.intro (by first | omega | decide) ?_
    refine go 21 (fun _ => false) mixed ?_
    simp (disch := omega) only [↓reduceIte, go_sem] <;> repeat with_reducible refine And.intro (by first | omega | decide) ?_
    refine Runs.ghost' (by rfl) (Ghost.freeze (t := 39) (xs := gsV (keepG o gs)) rfl (by rw [get_tail]; rfl) ?_ gsV_len (gV_cells hKO)) ?_
    · unfold subCells
      rw [List.drop_zero]
      exact (List.take_of_length_le (by rw [hfl]; exact Nat.le_refl _)).symm
    refine go 200 (fun _ => false) mixed ?_
    simp (disch := omega) only [↓reduceIte, go_sem] <;> repeat with_reducible refine And.intro (by first | omega | decide) ?_
    exact fin_c (.inr rfl) hb (by simp only [go_sem] <;> rfl) (bdd_tup.mpr fun p hp => by
      simp only [List.mem_cons, List.not_mem_nil, or_false] at hp
      rcases hp with rfl | rfl
      · refine bdd_agg.mpr fun p hp => ?_
        simp only [List.mem_cons, List.not_mem_nil, or_false] at hp
        rcases hp with rfl | rfl
        · simp
        · exact .sl _ _ gV_bdd
      · simp)

/-- A book without a list is one with an empty one. -/
def rbG : PV → PV
  | .agg [x, .nils] => .agg [x, .sl 25 []]
  | v => v
theorem V.rbG {β : Nat → Option Nat} {H : Heap} {w : World} {v : Value} {r : PV} (h : V β H w v r) : V β H w v (rbG r) := by
  unfold GoC.rbG
  split
  · rename_i x
    obtain ⟨vs, rfl, hs, hv⟩ := h.agg_inv
    refine .agg vs _ (by simpa using hs) fun i a p h1 h2 => ?_
    rcases i with _ | _ | i
    · exact hv 0 a p h1 h2
    · cases h2
      have := hv 1 a .nils h1 rfl
      rw [this.nils_inv]
      exact .sl0 none 0 25
    · simp at h2
  · exact h
theorem c_abatisref18_New (n : Int) : PCall Try.prog 15 [.int .i64 n] (rbV (roomF n) []) := by
  intro H
  refine (SCall.res (g := rbG) (fun _ _ _ _ _ h => V.rbG h) (Q := fun r H' => r = .agg [.int .i64 (roomF n), .nils] ∧ H' = H) ?_).mono fun r H' ⟨r0, h1, h2, h3⟩ => ⟨by rw [h1, h2]; rfl, h3⟩
  refine scall_ofc (ord := fun _ => []) (tdOf_ok _) (rs := [.cell 2 44]) Try.func15 rfl (by kernel_rfl) (by kernel_rfl) (by kernel_rfl) Try.ntmps15 fun hb hargs => go 200 (fun _ => false) mixed ?_
  simp (disch := omega) only [↓reduceIte, go_sem] <;> repeat with_reducible refine And.intro (by first | omega | decide) ?_
  exact fin_c (.inr rfl) hb (by simp only [go_sem] <;> rfl) (by simp)
end Go.Proofs.GoC
