/-
  The law LabelWrites. No claim by itself.
-/
import Derived.Test.YthphhllgpmageaaGoLabD
namespace Go.Proofs.GoC
open Go Go.Proofs.SL
set_option linter.unusedSimpArgs false
set_option linter.unusedVariables false
set_option maxRecDepth 10000
set_option maxHeartbeats 8000000

def ordLW : Nat → List Nat
  | 18 => [1007]
  | _ => []
theorem ordLW_18 : ordLW 18 = [1007] := rfl
theorem ordLW_20 : ordLW 20 = [] := rfl

def intsV (l : List Int) : List PV := l.map fun n => .int .i64 n
@[go_sem] theorem intsV_len {l : List Int} : (intsV l).length = l.length := List.length_map ..
theorem intsV_snoc (l : List Int) (n : Int) : intsV l ++ [PV.int .i64 n] = intsV (l ++ [n]) := by simp [intsV]
theorem intsV_getD {l : List Int} {k : Nat} (h : k < l.length) : (intsV l).getD k .any = .int .i64 (l.getD k 0) := by
  simp [intsV, List.getD_eq_getElem?_getD, h]

/-- Two writers, side by side, and where names began. -/
structure LS where
  H : Heap
  k : Nat
  bv : PV
  mv : PV
  cs : List PV
  B : List UInt8
  es : Names
  ver : Nat
  ats : List Int

/-- Where names began, and that they are read there. -/
def AtsOk (l : List (List UInt8)) (B : List UInt8) (ats : List Int) : Prop := ∀ k, k < ats.length →
  (mayN ((l.getD k []).take 40) = false ∧ ats.getD k 0 = -1) ∨ ∃ p : Nat, ats.getD k 0 = p ∧ p ≤ B.length ∧ mayN ((l.getD k []).take 40) = true ∧ Rd B p p (labF ((l.getD k []).take 40))
theorem AtsOk.app {l : List (List UInt8)} {B : List UInt8} {ats : List Int} (h : AtsOk l B ats) (C : List UInt8) : AtsOk l (B ++ C) ats := fun k hk => by
  rcases h k hk with h | ⟨p, h1, h2, h3, h4⟩
  · exact .inl h
  · exact .inr ⟨p, h1, by simp; omega, h3, h4.app C⟩
theorem AtsOk.snoc {l : List (List UInt8)} {B : List UInt8} {ats : List Int} (h : AtsOk l B ats) {n : Int}
    (hn : (mayN ((l.getD ats.length []).take 40) = false ∧ n = -1) ∨ ∃ p : Nat, n = p ∧ p ≤ B.length ∧ mayN ((l.getD ats.length []).take 40) = true ∧ Rd B p p (labF ((l.getD ats.length []).take 40))) : AtsOk l B (ats ++ [n]) := fun k hk => by
  rw [List.length_append] at hk
  simp only [List.length_cons, List.length_nil] at hk
  by_cases hlt : k < ats.length
  · have e : (ats ++ [n]).getD k 0 = ats.getD k 0 := by rw [List.getD_eq_getElem?_getD, List.getElem?_append_left hlt, ← List.getD_eq_getElem?_getD]
    rw [e]; exact h k hlt
  · have : k = ats.length := by omega
    subst this
    have e : (ats ++ [n]).getD ats.length 0 = n := by rw [List.getD_eq_getElem?_getD, List.getElem?_append_right (Nat.le_refl _), Nat.sub_self]; rfl
    rw [e]; exact hn

/-- The state of the law's loop, in a heap that began as H: the writers at W and W + 1, the document's slices at W + 2 to W + 4, the places at W + 5. -/
structure LOk (H : Heap) (l : List (List UInt8)) (a : LS) : Prop where
  len : H.length + 6 ≤ a.H.length
  pre : ∀ j, j < H.length → a.H[j]? = H[j]?
  w : WAt a.H H.length a.bv a.mv a.B a.es
  fp : ∀ j ∈ bufI a.bv ++ mapI a.mv, H.length + 6 ≤ j
  r : RAt a.H (H.length + 2) (H.length + 3) (H.length + 4) a.cs a.B a.es
  box : a.H[H.length + 1]? = some (some (.cells 0 a.cs))
  ats : a.H[H.length + 5]? = some (some (.cells a.ver (intsV a.ats)))
  alen : a.ats.length = a.k
  ok : OkW a.B a.es
  aok : AtsOk l a.B a.ats
  b1 : a.B.length ≤ 100 * a.k
  b2 : a.es.length ≤ 100 * a.k
  k1 : a.k ≤ l.length
  k2 : a.k ≤ 12

theorem LOk.split {H : Heap} {l : List (List UInt8)} {a : LS} (h : LOk H l a) : ∃ L, a.H = H ++ L := by
  have : Keeps [] H a.H := ⟨by have := h.len; omega, fun j hj _ => h.pre j hj⟩
  exact this.nil_split

theorem WAt.keep {F : List Nat} {H H' : Heap} {i : Nat} {bv mv : PV} {B : List UInt8} {es : Names} (h : WAt H i bv mv B es) (k : Keeps F H H') (hi : i ∉ F) (hF : ∀ j ∈ bufI bv ++ mapI mv, j ∉ F) : WAt H' i bv mv B es :=
  ⟨k.get h.own hi, h.buf.keep k fun j hj => hF j (List.mem_append_left _ hj), h.nb, by
    rcases h.map with h | ⟨iM, h1, h2⟩
    · exact .inl h
    · exact .inr ⟨iM, h1, k.get h2 (hF iM (by rw [h1]; simp [mapI]))⟩, h.far⟩
theorem RAt.keep {F : List Nat} {H H' : Heap} {iB iN iA : Nat} {cs : List PV} {B : List UInt8} {es : Names} (h : RAt H iB iN iA cs B es) (k : Keeps F H H') (h1 : iB ∉ F) (h2 : iN ∉ F) (h3 : iA ∉ F) : RAt H' iB iN iA cs B es := by
  obtain ⟨⟨vB, vN, vA, e, a, b, c⟩, n1, n2, n3, hf⟩ := h
  exact ⟨⟨vB, vN, vA, e, k.get a h1, k.get b h2, k.get c h3⟩, n1, n2, n3, hf⟩

/-- What a name's bytes are, if it may be. -/
def wrM (s B : List UInt8) (es : Names) : List UInt8 × Names := if mayN s = true then wrN s B es else (B, es)
theorem name_any {H : Heap} {i : Nat} {bv mv : PV} {B : List UInt8} {es : Names} (h : WAt H i bv mv B es) (hG : GTab H) (s : List UInt8) (hs : s.length < 1000000) (hl : B.length ≤ 900000000) :
    SCall Try.prog 31 [.ptr i 0 0, .str (bs s)] H fun r H' => r = .bool (mayN s) ∧ ∃ bv' mv', WAt H' i bv' mv' (wrM s B es).1 (wrM s B es).2 ∧ WStep H i bv mv H' bv' mv' := by
  unfold wrM
  cases hm : mayN s with
  | true => exact (name_yes h hG s hs hl hm).mono fun r H' ⟨e, x⟩ => ⟨e, x⟩
  | false => exact (name_no s hs hm).mono fun r H' ⟨e1, e2⟩ => by subst e2; exact ⟨e1, bv, mv, h, WStep.refl⟩
theorem refname_any {H : Heap} {iB iN iA : Nat} {cs : List PV} {B : List UInt8} {es : Names} (h : RAt H iB iN iA cs B es) (s : List UInt8) (hs : s.length < 1000000) (hl : B.length ≤ 900000000) (hle : es.length ≤ 900000000) :
    SCall Try.prog 30 [.agg cs, .str (bs s)] H fun r H' => ∃ cs', r = .tup [.agg cs', .bool (mayN s)] ∧ RAt H' iB iN iA cs' (wrM s B es).1 (wrM s B es).2 ∧ Keeps [iB, iN, iA] H H' := by
  unfold wrM
  cases hm : mayN s with
  | true => exact refname_yes h s hm hl hle
  | false => exact (refname_no h s hs hm).mono fun r H' ⟨e1, e2⟩ => ⟨cs, e1, h.keep e2 (by simp) (by simp) (by simp), e2.mono (by simp)⟩
theorem wrM_len (s B : List UInt8) (es : Names) : (wrM s B es).1.length ≤ B.length + 2 * s.length + 2 ∧ (wrM s B es).2.length ≤ es.length + s.length := by
  unfold wrM
  split
  · exact ⟨wrN_len _ s B es rfl, wrN_es _ s B es rfl⟩
  · simp only; omega
theorem wrM_ok {s B : List UInt8} {es : Names} (h : OkW B es) (hF : Far es) : (∃ X, (wrM s B es).1 = B ++ X) ∧ OkW (wrM s B es).1 (wrM s B es).2 ∧ (mayN s = true → Rd (wrM s B es).1 B.length B.length (labF s)) := by
  unfold wrM
  cases hm : mayN s with
  | true => obtain ⟨a, b, c⟩ := wr_okW hm h hF; exact ⟨a, c, fun _ => b⟩
  | false => exact ⟨⟨[], by simp⟩, h, fun h => by cases h⟩

/-- A slice that grows, read as a text: are the bytes the same? -/
theorem same_view {H : Heap} {i ver : Nat} {tip : Bool} {B : List UInt8} (ho : H[i]? = some (some (.cells ver (bys B)))) : SCall Try.prog 20 [.sl 1 (bys B), .buf i ver 0 B.length 1 tip] H fun r H' => r = .bool true ∧ H' = H := by
  have h := c_abatisref08_SameBytes B B
  rw [decide_eq_true rfl] at h
  exact h.view (.cons (.same (bdd_sl.mpr bys_bdd)) (.cons (view_bys ho) .nil)) (.bool _)

theorem c_abatislaw08_LabelWrites (l : List (List UInt8)) (raw : List UInt8) (hl : l.length ≤ 9223372036854775807) (hr : raw.length ≤ 9223372036854775807) : GCall 8 [.sl 1 (strs l), .sl 1 (bys raw)] (.bool true) := by
  intro H hG
  refine scall_of (ord := ordLW) (rs := [4]) Try.func8 rfl (by kernel_rfl) (by kernel_rfl) (by kernel_rfl) Try.ntmps8 fun hb hargs => go 200 (fun _ => false) mixed ?_
  simp (disch := omega) only [↓reduceIte, go_sem] <;> repeat with_reducible refine And.intro (by first | omega | decide) ?_
  refine Runs.ghost (by rfl) (Ghost.growCell (i := H.length + 1) (ver := 0) (cs := [.nils, .nils, .nils]) 0 1 (by rw [get_tail]; rfl) rfl) ?_
  simp (disch := omega) only [↓reduceIte, go_sem, List.length_append] <;> repeat with_reducible refine And.intro (by first | omega | decide) ?_
  refine Runs.ghost (by rfl) (Ghost.growCell (i := H.length + 1) (ver := 0) (cs := [.buf (H.length + 2) 0 0 0 1 true, .nils, .nils]) 1 1 (by rw [get_tail]; rfl) rfl) ?_
  simp (disch := omega) only [↓reduceIte, go_sem, List.length_append] <;> repeat with_reducible refine And.intro (by first | omega | decide) ?_
  refine Runs.ghost (by rfl) (Ghost.growCell (i := H.length + 1) (ver := 0) (cs := [.buf (H.length + 2) 0 0 0 1 true, .buf (H.length + 3) 0 0 0 1 true, .nils]) 2 1 (by rw [get_tail]; rfl) rfl) ?_
  simp (disch := omega) only [↓reduceIte, go_sem, List.length_append] <;> repeat with_reducible refine And.intro (by first | omega | decide) ?_
  refine Runs.ghost (by rfl) (Ghost.grow (t := 7) (m := 1) rfl) ?_
  simp (disch := omega) only [↓reduceIte, go_sem, List.length_append] <;> repeat with_reducible refine And.intro (by first | omega | decide) ?_
  refine runs_loopA (fun a : LS => LOk H l a) (fun a => l.length - a.k) [true, true, false, false, false, true, true, true, true]
    (fun a => slots 116 [.sl 1 (strs l), .sl 1 (bys raw), .any, .any, .any, .ptr H.length 0 0, .ptr (H.length + 1) 0 0, .buf (H.length + 5) a.ver 0 a.ats.length 1 true, .int .i64 a.k]) (fun a => a.H) (by rfl)
    ⟨_, 0, .nils, .nilm, [.buf (H.length + 2) 0 0 0 1 true, .buf (H.length + 3) 0 0 0 1 true, .buf (H.length + 4) 0 0 0 1 true], [], [], 0, []⟩ ?_ rfl rfl ?_
  · refine ⟨by simp, fun j hj => by simp only; rw [List.getElem?_append_left hj], ⟨by simp only; rw [get_tail0]; rfl, .inl ⟨rfl, rfl⟩, by simp [bufI], .inl ⟨rfl, rfl⟩, by simp [Far]⟩, by simp [bufI, mapI], ⟨⟨0, 0, 0, rfl, ?_, ?_, ?_⟩, by omega, by omega, by omega, by simp [Far]⟩, ?_, ?_, rfl, by simp [OkW], fun k hk => by simp at hk, by simp, by simp, Nat.zero_le _, by simp⟩
    all_goals (simp only; rw [get_tail]; rfl)
  rintro a ha
  obtain ⟨Ha, k, bva, mva, csa, Ba, esa, vera, atsa⟩ := a
  have ho := ha
  obtain ⟨hlen, hpre, hw, hfp, hR, hbx, hats, halen, hok, haok, hb1, hb2, hk1, hk2⟩ := ha
  change H.length + 6 ≤ Ha.length at hlen
  change WAt Ha H.length bva mva Ba esa at hw
  change ∀ j ∈ bufI bva ++ mapI mva, H.length + 6 ≤ j at hfp
  change RAt Ha (H.length + 2) (H.length + 3) (H.length + 4) csa Ba esa at hR
  change Ha[H.length + 1]? = some (some (.cells 0 csa)) at hbx
  change Ha[H.length + 5]? = some (some (.cells vera (intsV atsa))) at hats
  change atsa.length = k at halen
  change OkW Ba esa at hok
  change AtsOk l Ba atsa at haok
  change Ba.length ≤ 100 * k at hb1
  change esa.length ≤ 100 * k at hb2
  change k ≤ l.length at hk1
  change k ≤ 12 at hk2
  have hKH : Keeps [] H Ha := ⟨by omega, fun j hj _ => hpre j hj⟩
  have hGa : GTab Ha := hG.keep hKH (by simp)
  refine go 200 (fun _ => false) mixed ?_
  by_cases hlt : k < l.length ∧ k < 12
  · obtain ⟨hl1, hl2⟩ := hlt
    have g := strs_getD hl1
    obtain ⟨vB0, vN0, vA0, hcs0, _⟩ := hR.own
    simp (disch := omega) only [↓reduceIte, go_sem, hl1, hl2, g] <;> repeat with_reducible refine And.intro (by first | omega | decide) ?_
    refine (c_abatisref01_Few (l.getD k []) 40).on (go 200 (fun _ => false) mixed ?_)
    generalize hs : (l.getD k []).take 40 = s at *
    have hsl : s.length ≤ 40 := by rw [← hs, List.length_take]; omega
    obtain ⟨hwl1, hwl2⟩ := wrM_len s Ba esa
    obtain ⟨⟨X, hX⟩, hok', hRd⟩ := wrM_ok (s := s) hok hw.far
    simp (disch := omega) only [↓reduceIte, go_sem] <;> repeat with_reducible refine And.intro (by first | omega | decide) ?_
    refine (c_label_Writer_Len hw).mono fun r H0' ⟨e1, e2⟩ => ?_
    rw [e1, e2]
    clear e1 e2
    have ob := obj_of hbx
    have oa := obj_of hats
    refine go 200 (fun _ => false) mixed ?_
    rw [hcs0] at ob
    simp (disch := omega) only [↓reduceIte, go_sem, ob] <;> repeat with_reducible refine And.intro (by first | omega | decide) ?_
    rw [← hcs0]
    refine (refname_any hR s (by omega) (by omega) (by omega)).mono fun r H1 ⟨cs1, e1, hR1, K1⟩ => ?_
    subst e1
    obtain ⟨vB1, vN1, vA1, hcs1, hB1, hN1, hA1⟩ := hR1.own
    have l1 := K1.1
    have hbx1 := K1.get hbx (by simp)
    have ob1 := obj_of hbx1
    rw [hcs0] at ob1
    rw [hcs1]
    refine go 40 (fun _ => false) mixed ?_
    simp (disch := omega) only [↓reduceIte, go_sem, ob1] <;> repeat with_reducible refine And.intro (by first | omega | decide) ?_
    rw [← hcs1]
    obtain ⟨H2, hH2⟩ : ∃ H2, H2 = H1.set (H.length + 1) (some (.cells 0 cs1)) ++ [some (.cells 0 cs1)] := ⟨_, rfl⟩
    rw [← hH2]
    have K2 : Keeps [H.length + 1] H1 H2 := by rw [hH2]; exact (Keeps.setF (by simp)).trans Keeps.app
    have hbx2 : H2[H.length + 1]? = some (some (.cells 0 cs1)) := by rw [hH2, List.getElem?_append_left (by simp; omega), List.getElem?_set_self (by omega)]
    clear hH2
    have K12 : Keeps [H.length + 1, H.length + 2, H.length + 3, H.length + 4] Ha H2 := (K1.mono (by simp)).trans (K2.mono (by simp))
    have hw2 : WAt H2 H.length bva mva Ba esa := hw.keep K12 (by simp) fun j hj => by have := hfp j hj; simp; omega
    have hR2 := hR1.keep K2 (by simp) (by simp) (by simp)
    have l2 := K12.1
    have hG2 : GTab H2 := hG.keep ((Keeps.mono hKH (G := [H.length + 1, H.length + 2, H.length + 3, H.length + 4]) (by simp)).trans K12) fun j hj b o e => by
      have := lt_of_get e
      simp only [List.mem_cons, List.not_mem_nil, or_false] at hj
      omega
    refine (name_any hw2 hG2 s (by omega) (by omega)).mono fun r H3 ⟨e1, bv3, mv3, hw3, S3⟩ => ?_
    subst e1
    generalize hB' : (wrM s Ba esa).1 = B' at *
    generalize hes' : (wrM s Ba esa).2 = es' at *
    have l3 := S3.1.1
    have hfp3 : ∀ j ∈ bufI bv3 ++ mapI mv3, H.length + 6 ≤ j := fun j hj => by
      rcases S3.2 j hj with h | h
      · exact hfp j h
      · omega
    have out : ∀ j, j < H.length + 6 → j ≠ H.length → j ∉ H.length :: (bufI bva ++ mapI mva) := fun j h1 h2 hm => by
      rcases List.mem_cons.mp hm with h | h
      · exact h2 h
      · have := hfp j h; omega
    have hR3 := hR2.keep S3.1 (out _ (by omega) (by omega)) (out _ (by omega) (by omega)) (out _ (by omega) (by omega))
    have hbx3 := S3.1.get hbx2 (out _ (by omega) (by omega))
    have hats3 := S3.1.get (K12.get hats (by simp)) (out _ (by omega) (by omega))
    have hpre3 : ∀ j, j < H.length → H3[j]? = H[j]? := fun j hj => by
      rw [S3.1.2 j (by omega) (fun hm => by
        rcases List.mem_cons.mp hm with h | h
        · omega
        · have := hfp j h; omega), K12.2 j (by omega) (by simp; omega), hpre j hj]
    have oa3 := obj_of hats3
    have la3 := lt_of_get hats3
    -- the place that is noted
    obtain ⟨n, hn, haok'⟩ : ∃ n : Int, n = (if mayN s = true then ((Ba.length : Nat) : Int) else -1) ∧ AtsOk l B' (atsa ++ [n]) := by
      refine ⟨_, rfl, ?_⟩
      have h1 := haok.app X
      rw [← hX] at h1
      refine h1.snoc ?_
      rw [halen, hs]
      cases hm : mayN s with
      | false => exact .inl ⟨rfl, rfl⟩
      | true => exact .inr ⟨Ba.length, rfl, by rw [hX]; simp, rfl, hRd hm⟩
    have hal' : (atsa ++ [n]).length = k + 1 := by simp [halen]
    -- the rest of the round, behind the note
    obtain ⟨H4, hH4⟩ : ∃ H4, H4 = H3.set (H.length + 5) (some (.cells (vera + 1) (intsV (atsa ++ [n])))) := ⟨_, rfl⟩
    have K4 : Keeps [H.length + 5] H3 H4 := by rw [hH4]; exact Keeps.setF (by simp)
    have hats4 : H4[H.length + 5]? = some (some (.cells (vera + 1) (intsV (atsa ++ [n])))) := by rw [hH4, List.getElem?_set_self la3]
    have hw4 : WAt H4 H.length bv3 mv3 B' es' := hw3.keep K4 (by simp) fun j hj => by have := hfp3 j hj; simp; omega
    have hR4 := hR3.keep K4 (by simp) (by simp) (by simp)
    have hbx4 := K4.get hbx3 (by simp)
    have l4 := K4.1
    have hpre4 : ∀ j, j < H.length → H4[j]? = H[j]? := fun j hj => by rw [K4.2 j (by omega) (by simp; omega), hpre3 j hj]
    have ob4 := obj_of hbx4
    refine go 30 (fun _ => false) mixed ?_
    have eint : intsV atsa ++ [PV.int .i64 n] = intsV (atsa ++ [n]) := intsV_snoc _ _
    have hcase : (mayN s = false ∧ n = -1) ∨ (mayN s = true ∧ n = (Ba.length : Nat)) := by
      cases hm : mayN s with
      | false => rw [hm, if_neg (by simp)] at hn; exact .inl ⟨rfl, hn⟩
      | true => rw [hm, if_pos rfl] at hn; exact .inr ⟨rfl, hn⟩
    clear hn
    have hB4 := K4.get (S3.1.get (K2.get hB1 (by simp)) (out _ (by omega) (by omega))) (show H.length + 2 ∉ [H.length + 5] by simp)
    have hN4 := K4.get (S3.1.get (K2.get hN1 (by simp)) (out _ (by omega) (by omega))) (show H.length + 3 ∉ [H.length + 5] by simp)
    have hA4 := K4.get (S3.1.get (K2.get hA1 (by simp)) (out _ (by omega) (by omega))) (show H.length + 4 ∉ [H.length + 5] by simp)
    have hbl' : B'.length ≤ 100 * (k + 1) - 1 := by omega
    have hel' : es'.length ≤ 100 * (k + 1) := by omega
    have hfar := hw4.far
    rcases hcase with ⟨hm, hn⟩ | ⟨hm, hn⟩
    all_goals
      rw [hm]
      rw [hn] at eint hH4
      simp (disch := omega) only [↓reduceIte, go_sem, oa3, most, eint] <;> repeat with_reducible refine And.intro (by first | omega | decide) ?_
      rw [← hH4]
      refine go 200 (fun _ => false) mixed ?_
      by_cases hr1 : k < raw.length
      · have g2 := bys_getD hr1
        generalize raw.getD k 0 = x at *
        have hRaw := c_label_Writer_Raw hw4 [x] (by simp; omega) (by simp)
        rw [show bys [x] = [PV.int .u8 ((x.toNat : Nat) : Int)] from rfl] at hRaw
        simp (disch := omega) only [↓reduceIte, go_sem, hr1, g2] <;> repeat with_reducible refine And.intro (by first | omega | decide) ?_
        refine hRaw.mono fun r H5 ⟨bv5, hw5, S5⟩ => ?_
        have out3 : ∀ j, j < H.length + 6 → j ≠ H.length → j ∉ H.length :: (bufI bv3 ++ mapI mv3) := fun j h1 h2 hm => by
          rcases List.mem_cons.mp hm with h | h
          · exact h2 h
          · have := hfp3 j h; omega
        have l5 := S5.1.1
        have hbx5 := S5.1.get hbx4 (out3 _ (by omega) (by omega))
        have hB5 := S5.1.get hB4 (out3 _ (by omega) (by omega))
        have hN5 := S5.1.get hN4 (out3 _ (by omega) (by omega))
        have hA5 := S5.1.get hA4 (out3 _ (by omega) (by omega))
        have hats5 := S5.1.get hats4 (out3 _ (by omega) (by omega))
        have hfp5 : ∀ j ∈ bufI bv5 ++ mapI mv3, H.length + 6 ≤ j := fun j hj => by
          rcases S5.2 j hj with h | h
          · exact hfp3 j h
          · omega
        have ob5 := obj_of hbx5
        have oB5 := obj_of hB5
        rw [hcs1] at ob5
        have ex : bys B' ++ [PV.int .u8 ((x.toNat : Nat) : Int)] = bys (B' ++ [x]) := by rw [bys_app.symm]; rfl
        refine go 200 (fun _ => false) mixed ?_
        simp (disch := omega) only [↓reduceIte, go_sem, hr1, g2, ob5, oB5, ordLW_18, most, ex] <;> repeat with_reducible refine And.intro (by first | omega | decide) ?_
        have K6 : Keeps [H.length + 1, H.length + 2] H5 ((H5.set (H.length + 2) (some (.cells (vB1 + 1) (bys (B' ++ [x]))))).set (H.length + 1) (some (.cells 0 [.buf (H.length + 2) (vB1 + 1) 0 (B'.length + 1) 1 true, .buf (H.length + 3) vN1 0 es'.length 1 true, .buf (H.length + 4) vA1 0 es'.length 1 true]))) := (Keeps.setF (by simp)).trans (Keeps.setF (by simp))
        refine rnd_next ⟨_, k + 1, bv5, mv3, [.buf (H.length + 2) (vB1 + 1) 0 (B' ++ [x]).length 1 true, .buf (H.length + 3) vN1 0 es'.length 1 true, .buf (H.length + 4) vA1 0 es'.length 1 true], B' ++ [x], es', vera + 1, atsa ++ [n]⟩ ?_ (by show l.length - (k + 1) < l.length - k; omega) (by simp [slots, keepB]) rfl
        refine ⟨by simp; omega, fun j hj => ?_, hw5.keep K6 (by simp) (fun j hj => by have := hfp5 j hj; simp; omega), hfp5, ⟨⟨vB1 + 1, vN1, vA1, rfl, ?_, ?_, ?_⟩, by omega, by omega, by omega, hw5.far⟩, ?_, K6.get hats5 (by simp), hal', hok'.app [x], haok'.app [x], ?_, hel', by show k + 1 ≤ _; omega, by show k + 1 ≤ _; omega⟩
        · show (List.set _ _ _)[j]? = _
          rw [K6.2 j (by omega) (by simp; omega), S5.1.2 j (by omega) (fun hm => by
            rcases List.mem_cons.mp hm with h | h
            · omega
            · have := hfp3 j h; omega), hpre4 j hj]
        · show (List.set _ _ _)[_]? = _
          rw [List.getElem?_set_ne (by omega), List.getElem?_set_self (by omega)]
        · exact K6.get hN5 (by simp)
        · exact K6.get hA5 (by simp)
        · show (List.set _ _ _)[_]? = _
          rw [List.getElem?_set_self (by rw [List.length_set]; omega), List.length_append]; rfl
        · show (B' ++ [x]).length ≤ 100 * (k + 1)
          rw [List.length_append]; simp only [List.length_cons, List.length_nil]; omega
      · simp (disch := omega) only [↓reduceIte, go_sem, hr1] <;> repeat with_reducible refine And.intro (by first | omega | decide) ?_
        refine rnd_next ⟨H4, k + 1, bv3, mv3, cs1, B', es', vera + 1, atsa ++ [n]⟩ ?_ (by show l.length - (k + 1) < l.length - k; omega) (by simp [slots, keepB]) rfl
        exact ⟨by show _ ≤ H4.length; omega, hpre4, hw4, hfp3, hR4, hbx4, hats4, hal', hok', haok', by show B'.length ≤ 100 * (k + 1); omega, hel', by show k + 1 ≤ _; omega, by show k + 1 ≤ _; omega⟩
  · obtain ⟨vB0, vN0, vA0, hcs0, hB0, hN0, hA0⟩ := hR.own
    have ob := obj_of hbx
    rw [hcs0] at ob
    have oa := obj_of hats
    have hbl : Ba.length ≤ 1200 := by omega
    have hSV := same_view (tip := true) hB0
    obtain ⟨L, hL⟩ := hKH.nil_split
    have hcond : ¬ k < l.length ∨ (k < l.length ∧ ¬ k < 12) := by omega
    rcases hcond with hl1 | ⟨hl1, hl2⟩
    rotate_left
    all_goals
      first | simp (disch := omega) only [↓reduceIte, go_sem, hl1, hl2] <;> repeat with_reducible refine And.intro (by first | omega | decide) ?_ | simp (disch := omega) only [↓reduceIte, go_sem, hl1] <;> repeat with_reducible refine And.intro (by first | omega | decide) ?_
      refine go 200 (fun _ => false) mixed ?_
      simp (disch := omega) only [↓reduceIte, go_sem] <;> repeat with_reducible refine And.intro (by first | omega | decide) ?_
      refine (c_label_Writer_Bytes hw (by omega)).mono fun r H0' ⟨e1, e2⟩ => ?_
      rw [e1, e2]
      clear e1 e2
      refine go 200 (fun _ => false) mixed ?_
      simp (disch := omega) only [↓reduceIte, go_sem, ordLW_20, ob] <;> repeat with_reducible refine And.intro (by first | omega | decide) ?_
      refine SCall.onq hSV (go 200 (fun _ => false) mixed ?_)
      simp (disch := omega) only [↓reduceIte, go_sem] <;> repeat with_reducible refine And.intro (by first | omega | decide) ?_
      refine SCall.onq (c_label_Writer_Len hw) (go 200 (fun _ => false) mixed ?_)
      simp (disch := omega) only [↓reduceIte, go_sem, ob] <;> repeat with_reducible refine And.intro (by first | omega | decide) ?_
      refine runs_loopA (fun j : Nat => j ≤ atsa.length) (fun j => atsa.length - j) [true, false, false, false, false, false, false, true, false, false, false, false, false, true, true]
        (fun j => slots 116 [.sl 1 (strs l), .any, .any, .any, .any, .any, .any, .buf (H.length + 5) vera 0 atsa.length 1 true, .any, .any, .any, .any, .any, .sl 1 (bys Ba), .int .i64 j]) (fun _ => Ha) (by rfl) 0 (Nat.zero_le _) rfl rfl ?_
      intro j hj
      change j ≤ atsa.length at hj
      refine go 200 (fun _ => false) mixed ?_
      by_cases hlt2 : j < atsa.length
      · have ga := intsV_getD hlt2
        have hjl : j < l.length := by omega
        have gl := strs_getD hjl
        rcases haok j hlt2 with ⟨h1, h2⟩ | ⟨p, h1, h2, h3, h4⟩
        · rw [h2] at ga
          simp (disch := omega) only [↓reduceIte, go_sem, hlt2, oa, ga] <;> repeat with_reducible refine And.intro (by first | omega | decide) ?_
          exact rnd_next (j + 1) hlt2 (by show atsa.length - (j + 1) < atsa.length - j; omega) rfl rfl
        · rw [h1] at ga
          obtain ⟨m, hm⟩ := h4.read 0 [] (by have := may_sum h3; simp [sumL] at this ⊢; omega)
          rw [List.nil_append] at hm
          have hRd := c_label_Read Ba p (by omega) (by omega)
          rw [hm] at hRd
          have hjn := join_lab ((l.getD j []).take 40)
          simp (disch := omega) only [↓reduceIte, go_sem, hlt2, oa, ga] <;> repeat with_reducible refine And.intro (by first | omega | decide) ?_
          refine hRd.on (go 200 (fun _ => false) mixed ?_)
          simp (disch := omega) only [↓reduceIte, go_sem, rdV, hjl, gl] <;> repeat with_reducible refine And.intro (by first | omega | decide) ?_
          refine (c_abatisref01_Few (l.getD j []) 40).on (go 200 (fun _ => false) mixed ?_)
          simp (disch := omega) only [↓reduceIte, go_sem, hjn] <;> repeat with_reducible refine And.intro (by first | omega | decide) ?_
          exact rnd_next (j + 1) hlt2 (by show atsa.length - (j + 1) < atsa.length - j; omega) rfl rfl
      · simp (disch := omega) only [↓reduceIte, go_sem, hlt2] <;> repeat with_reducible refine And.intro (by first | omega | decide) ?_
        refine go 200 (fun _ => false) mixed ?_
        simp (disch := omega) only [↓reduceIte, go_sem] <;> repeat with_reducible refine And.intro (by first | omega | decide) ?_
        refine c_abatislaw08_lives.on hGa (go 200 (fun _ => false) mixed ?_)
        simp (disch := omega) only [↓reduceIte, go_sem] <;> repeat with_reducible refine And.intro (by first | omega | decide) ?_
        rw [hL]
        exact fin_drop (.inr rfl) hb rfl (by simp)
end Go.Proofs.GoC
