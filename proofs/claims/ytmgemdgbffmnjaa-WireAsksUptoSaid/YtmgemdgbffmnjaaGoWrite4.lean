/-
  What the functions compute: names that the document's writer writes; the document's example. No claim by itself.
-/
import Derived.Test.YtmgemdgbffmnjaaGoWrite3
namespace Go.Proofs.GoC
open Go Go.Proofs.SL
set_option linter.unusedSimpArgs false
set_option linter.unusedVariables false
set_option maxRecDepth 10000
set_option maxHeartbeats 8000000

def ordRN : Nat → List Nat
  | 16 => [1009]
  | 17 => [1006]
  | _ => []
theorem ordRN_16 : ordRN 16 = [1009] := rfl
theorem ordRN_17 : ordRN 17 = [1006] := rfl

theorem refname_no {H : Heap} {iB iN iA : Nat} {cs : List PV} {B : List UInt8} {es : Names} (h : RAt H iB iN iA cs B es) (s : List UInt8) (hs : s.length < 1100000) (hmay : mayN s = false) :
    SCall Try.prog 44 [.agg cs, .str (bs s)] H fun r H' => r = .tup [.agg cs, .bool false] ∧ Keeps [] H H' := by
  have hMay := c_abatisref08_May s hs
  rw [hmay] at hMay
  obtain ⟨⟨vB, vN, vA, rfl, hB, hN, hA⟩, n1, n2, n3, hf⟩ := h
  refine scall_ofd (ord := ordRN) (tdOf_ok _) (rs := [.cell 4 81, .tmp 5]) Try.func44 rfl (by kernel_rfl) (by kernel_rfl) (by kernel_rfl) Try.ntmps44 fun hb hargs => go 200 (fun _ => false) mixed ?_
  simp (disch := omega) only [↓reduceIte, go_sem] <;> repeat with_reducible refine And.intro (by first | omega | decide) ?_
  refine hMay.on (go 200 (fun _ => false) mixed ?_)
  simp (disch := omega) only [↓reduceIte, go_sem] <;> repeat with_reducible refine And.intro (by first | omega | decide) ?_
  exact EndsD.same (.inr rfl) (by simp (disch := omega) only [↓reduceIte, go_sem] <;> repeat with_reducible refine And.intro (by first | omega | decide) ?_) ⟨rfl, Keeps.app⟩

structure NR where
  H : Heap
  k : Nat
  cs : List PV
  B : List UInt8
  es : Names

theorem refname_yes {H : Heap} {iB iN iA : Nat} {cs : List PV} {B : List UInt8} {es : Names} (h : RAt H iB iN iA cs B es) (s : List UInt8) (hmay : mayN s = true) (hl : B.length ≤ 900000000) (hle : es.length ≤ 900000000) :
    SCall Try.prog 44 [.agg cs, .str (bs s)] H fun r H' => ∃ cs', r = .tup [.agg cs', .bool true] ∧ RAt H' iB iN iA cs' (wrN s B es).1 (wrN s B es).2 ∧ Keeps [iB, iN, iA] H H' := by
  have hs2 := may_len hmay
  have hMay := c_abatisref08_May s (by omega)
  rw [hmay] at hMay
  have hL := rlabels_sl s (by omega)
  have hLl := labF_len s
  obtain ⟨lB, lN, lA⟩ : iB < H.length ∧ iN < H.length ∧ iA < H.length := by
    obtain ⟨vB, vN, vA, _, hB, hN, hA⟩ := h.own
    exact ⟨lt_of_get hB, lt_of_get hN, lt_of_get hA⟩
  obtain ⟨vB0, vN0, vA0, hcs, _⟩ := h.own
  refine scall_ofd (ord := ordRN) (tdOf_ok _) (rs := [.cell 4 81, .tmp 5]) Try.func44 rfl (by kernel_rfl) (by kernel_rfl) (by kernel_rfl) Try.ntmps44 fun hb hargs => go 200 (fun _ => false) mixed ?_
  rw [hcs]
  simp (disch := omega) only [↓reduceIte, go_sem] <;> repeat with_reducible refine And.intro (by first | omega | decide) ?_
  refine hMay.on (go 200 (fun _ => false) mixed ?_)
  simp (disch := omega) only [↓reduceIte, go_sem] <;> repeat with_reducible refine And.intro (by first | omega | decide) ?_
  refine hL.on (go 200 (fun _ => false) mixed ?_)
  simp (disch := omega) only [↓reduceIte, go_sem] <;> repeat with_reducible refine And.intro (by first | omega | decide) ?_
  rw [← hcs]
  have hR0 : RAt (H ++ [some (.cells 0 cs), some (.cells 0 [.nils, .nils, .nils])]) iB iN iA cs B es := by
    obtain ⟨⟨vB, vN, vA, h1, hB, hN, hA⟩, n1, n2, n3, hf⟩ := h
    exact ⟨⟨vB, vN, vA, h1, by rw [List.getElem?_append_left lB]; exact hB, by rw [List.getElem?_append_left lN]; exact hN, by rw [List.getElem?_append_left lA]; exact hA⟩, n1, n2, n3, hf⟩
  refine runs_loopA (fun a : NR => a.k ≤ (labF s).length ∧ RAt a.H iB iN iA a.cs a.B a.es ∧ a.H[H.length]? = some (some (.cells 0 a.cs)) ∧ Keeps [iB, iN, iA, H.length] (H ++ [some (.cells 0 cs), some (.cells 0 [.nils, .nils, .nils])]) a.H ∧
      wrN s B es = wrN (dotN a.k s) a.B a.es ∧ a.B.length + 2 * (dotN a.k s).length ≤ 900001000 ∧ a.es.length + (labF s).length ≤ 900001000 + a.k) (fun a => (labF s).length - a.k) [false, true, true, false, true, false, false, true, true]
    (fun a => slots 88 [.any, .str (bs s), .ptr H.length 0 0, .any, .ptr (H.length + 1) 0 0, .any, .any, .sl 1 (strs (labF s)), .int .i64 a.k])
    (fun a => a.H) (by rfl) ⟨_, 0, cs, B, es⟩ ⟨Nat.zero_le _, hR0, by rw [get_tail0]; rfl, Keeps.refl, rfl, by show B.length + 2 * (dotN 0 s).length ≤ _; simp only [dotN]; omega, by show es.length + _ ≤ _; omega⟩ rfl rfl ?_
  rintro ⟨Ha, k, csa, Ba, esa⟩ ⟨hk, hRa, hbx, hKa, hall, hbl, hel⟩
  change k ≤ (labF s).length at hk
  change RAt Ha iB iN iA csa Ba esa at hRa
  change Ha[H.length]? = some (some (.cells 0 csa)) at hbx
  change wrN s B es = wrN (dotN k s) Ba esa at hall
  change Ba.length + 2 * (dotN k s).length ≤ 900001000 at hbl
  change esa.length + (labF s).length ≤ 900001000 + k at hel
  change Keeps [iB, iN, iA, H.length] (H ++ [some (.cells 0 cs), some (.cells 0 [.nils, .nils, .nils])]) Ha at hKa
  have hz : Ha[H.length + 1]? = some (some (.cells 0 [.nils, .nils, .nils])) := hKa.get (by rw [get_tail]; rfl) (by simp; omega)
  have hla : H.length + 2 ≤ Ha.length := by have := hKa.1; simpa using this
  have hfind := c_abatisref08_find hRa (dotN k s) (by omega)
  have hRK := hRa
  obtain ⟨⟨vB, vN, vA, rfl, hB, hN, hA⟩, n1, n2, n3, hf⟩ := hRa
  have oB := obj_of hB
  have oN := obj_of hN
  have oA := obj_of hA
  have ob := obj_of hbx
  have oz := obj_of hz
  have back : ∀ {H' : Heap}, Keeps [iB, iN, iA, H.length] Ha H' → Keeps [iB, iN, iA] H H' := fun k2 => by
    have := (Keeps.app (F := [iB, iN, iA, H.length]) (H := H) (L := [some (.cells 0 cs), some (.cells 0 [.nils, .nils, .nils])])).trans (hKa.trans k2)
    refine this.mono fun j hj => ?_
    simp only [List.mem_cons, List.not_mem_nil, or_false] at hj ⊢
    omega
  -- the heap, by its four objects
  obtain ⟨U, hU⟩ : ∃ U : OB → OB → OB → OB → Heap, U = fun b n a x => (((Ha.set iB (some b)).set iN (some n)).set iA (some a)).set H.length (some x) := ⟨_, rfl⟩
  have u0 : Ha = U (.cells vB (bys Ba)) (.cells vN (strs (esa.map (·.1)))) (.cells vA (nums (esa.map (·.2)))) (.cells 0 [.buf iB vB 0 Ba.length 1 true, .buf iN vN 0 esa.length 1 true, .buf iA vA 0 esa.length 1 true]) := by
    rw [hU]
    apply List.ext_getElem?
    intro j
    simp only [List.getElem?_set]
    split
    · rename_i e; subst e; simp [hbx]; omega
    · split
      · rename_i e; subst e; simp [hA]; omega
      · split
        · rename_i e; subst e; simp [hN]; omega
        · split
          · rename_i e; subst e; simp [hB]; omega
          · rfl
  have uB : ∀ v cs n a x ver, obj (U (.cells v cs) n a x) iB ver = if v = ver then some cs else none := fun v cs n a x ver => by rw [hU]; simp (disch := (first | omega | (simp only [len_set]; omega))) only [obj_set_ne, obj_set_self, len_set]
  have uN : ∀ b v cs a x ver, obj (U b (.cells v cs) a x) iN ver = if v = ver then some cs else none := fun b v cs a x ver => by rw [hU]; simp (disch := (first | omega | (simp only [len_set]; omega))) only [obj_set_ne, obj_set_self, len_set]
  have uA : ∀ b n v cs x ver, obj (U b n (.cells v cs) x) iA ver = if v = ver then some cs else none := fun b n v cs x ver => by rw [hU]; simp (disch := (first | omega | (simp only [len_set]; omega))) only [obj_set_ne, obj_set_self, len_set]
  have ux : ∀ b n a v cs ver, obj (U b n a (.cells v cs)) H.length ver = if v = ver then some cs else none := fun b n a v cs ver => by rw [hU]; simp (disch := (first | omega | (simp only [len_set]; omega))) only [obj_set_ne, obj_set_self, len_set]
  have uz : ∀ b n a x, obj (U b n a x) (H.length + 1) 0 = some [.nils, .nils, .nils] := fun b n a x => by rw [hU]; simp (disch := (first | omega | (simp only [len_set]; omega))) only [obj_set_ne, obj_set_self, len_set]; exact oz
  have sB : ∀ b n a x b', (U b n a x).set iB (some b') = U b' n a x := fun b n a x b' => by
    rw [hU]; apply List.ext_getElem?; intro j; simp only [List.getElem?_set, List.length_set]
    repeat' split
    all_goals first | rfl | omega
  have sN : ∀ b n a x b', (U b n a x).set iN (some b') = U b b' a x := fun b n a x b' => by
    rw [hU]; apply List.ext_getElem?; intro j; simp only [List.getElem?_set, List.length_set]
    repeat' split
    all_goals first | rfl | omega
  have sA : ∀ b n a x b', (U b n a x).set iA (some b') = U b n b' x := fun b n a x b' => by
    rw [hU]; apply List.ext_getElem?; intro j; simp only [List.getElem?_set, List.length_set]
    repeat' split
    all_goals first | rfl | omega
  have sx : ∀ b n a x b', (U b n a x).set H.length (some b') = U b n a b' := fun b n a x b' => by
    rw [hU]; apply List.ext_getElem?; intro j; simp only [List.getElem?_set, List.length_set]
    repeat' split
    all_goals first | rfl | omega
  have uK : ∀ b n a x, Keeps [iB, iN, iA, H.length] Ha (U b n a x) := fun b n a x => by
    rw [hU]
    exact (((Keeps.setF (by simp)).trans (Keeps.setF (by simp))).trans (Keeps.setF (by simp))).trans (Keeps.setF (by simp))
  have uR : ∀ v1 l1 v2 v3 l2, Far l2 → RAt (U (.cells v1 (bys l1)) (.cells v2 (strs (l2.map (·.1)))) (.cells v3 (nums (l2.map (·.2)))) (.cells 0 [.buf iB v1 0 l1.length 1 true, .buf iN v2 0 l2.length 1 true, .buf iA v3 0 l2.length 1 true])) iB iN iA [.buf iB v1 0 l1.length 1 true, .buf iN v2 0 l2.length 1 true, .buf iA v3 0 l2.length 1 true] l1 l2 := fun v1 l1 v2 v3 l2 hF => by
    refine ⟨⟨v1, v2, v3, rfl, ?_, ?_, ?_⟩, n1, n2, n3, hF⟩ <;> rw [hU] <;> simp (disch := (first | omega | (simp only [len_set]; omega))) only [get_set_ne, get_set_self, len_set]
  have uG : ∀ b n a x, (U b n a x)[H.length]? = some (some x) := fun b n a x => by rw [hU]; simp (disch := (first | omega | (simp only [len_set]; omega))) only [get_set_ne, get_set_self, len_set]
  have uS : ∀ b n a v cs c2, (((U b n a (.cells v cs)).set (H.length + 1) (some (.cells 0 c2)))[H.length]?) = some (some (.cells v cs)) := fun b n a v cs c2 => by rw [hU]; simp (disch := (first | omega | (simp only [len_set]; omega))) only [get_set_ne, get_set_self, len_set]
  have uL : ∀ b n a x, (U b n a x).length = Ha.length := fun b n a x => by rw [hU]; simp
  clear hU
  have ot : ∀ b n a x c2 ver, obj ((U b n a x).set (H.length + 1) (some (.cells 0 c2))) (H.length + 1) ver = if 0 = ver then some c2 else none := fun b n a x c2 ver => obj_set_self (by rw [uL]; omega)
  have uT : ∀ v1 l1 v2 v3 l2 c2, Far l2 → RAt ((U (.cells v1 (bys l1)) (.cells v2 (strs (l2.map (·.1)))) (.cells v3 (nums (l2.map (·.2)))) (.cells 0 [.buf iB v1 0 l1.length 1 true, .buf iN v2 0 l2.length 1 true, .buf iA v3 0 l2.length 1 true])).set (H.length + 1) (some (.cells 0 c2))) iB iN iA [.buf iB v1 0 l1.length 1 true, .buf iN v2 0 l2.length 1 true, .buf iA v3 0 l2.length 1 true] l1 l2 := fun v1 l1 v2 v3 l2 c2 hF => by
    obtain ⟨⟨w1, w2, w3, e, a, b, c⟩, _⟩ := uR v1 l1 v2 v3 l2 hF
    refine ⟨⟨w1, w2, w3, e, ?_, ?_, ?_⟩, n1, n2, n3, hF⟩ <;> (rw [List.getElem?_set_ne (by omega)]; assumption)
  have uK2 : ∀ b n a x c2, Keeps [iB, iN, iA] H ((U b n a x).set (H.length + 1) (some (.cells 0 c2))) := fun b n a x c2 => by
    have h1 := back (uK b n a x)
    refine ⟨by rw [List.length_set]; exact h1.1, fun j hj hn => ?_⟩
    rw [List.getElem?_set_ne (by omega)]
    exact h1.2 j hj hn
  refine go 200 (fun _ => false) mixed ?_
  by_cases hlt : k < (labF s).length
  · have hne := may_at hmay hlt
    have hdl := dotN_len k s
    simp (disch := omega) only [↓reduceIte, go_sem, hlt] <;> repeat with_reducible refine And.intro (by first | omega | decide) ?_
    refine (c_abatisref08_Rest s k (by omega) (by omega)).on (go 200 (fun _ => false) mixed ?_)
    simp (disch := omega) only [↓reduceIte, go_sem, ob] <;> repeat with_reducible refine And.intro (by first | omega | decide) ?_
    refine hfind.mono fun r' H' ⟨e1, e2⟩ => ?_
    rw [e1, e2, u0]
    refine go 30 (fun _ => false) mixed ?_
    cases hfi : findN (dotN k s) esa with
    | some p =>
      have hp := findN_far hf hfi
      have hI : findI (dotN k s) esa = (p : Nat) := by unfold findI; rw [hfi]
      have e8 : bys Ba ++ [PV.int .u8 ((192 + p / 256 : Nat) : Int), PV.int .u8 ((p % 256 : Nat) : Int)] = bys (Ba ++ [UInt8.ofNat (192 + p / 256), UInt8.ofNat (p % 256)]) := by rw [← bys_ptr hp, bys_app]
      rw [wrN_some hne hfi] at hall
      rw [hI]
      simp (disch := omega) only [↓reduceIte, go_sem, uB, ux, uz, sB, sx, most, e8] <;> repeat with_reducible refine And.intro (by first | omega | decide) ?_
      refine go 30 (fun _ => false) mixed ?_
      simp (disch := omega) only [↓reduceIte, go_sem, uB, ux, uz, sB, sx, most, e8] <;> repeat with_reducible refine And.intro (by first | omega | decide) ?_
      have hlen2 : Ba.length + 2 = (Ba ++ [UInt8.ofNat (192 + p / 256), UInt8.ofNat (p % 256)]).length := by simp
      rw [hall, hlen2]
      exact EndsD.same (.inr rfl) (by simp (disch := omega) only [↓reduceIte, go_sem, ot] <;> repeat with_reducible refine And.intro (by first | omega | decide) ?_) ⟨_, rfl, uT _ _ _ _ _ _ hf, uK2 _ _ _ _ _⟩
    | none =>
      have hI : findI (dotN k s) esa = -1 := by unfold findI; rw [hfi]
      rw [hI]
      have hla0 := lab_at hlt
      have g0 : (strs (labF s)).getD k .any = .str (bs (dotL (dotN k s))) := by rw [strs_getD hlt, hla0]
      have hdlr := dotLR_len (dotN k s)
      rw [wrN_none hne hfi] at hall
      have hF' := hf.step (dotN k s) Ba
      have en : ∀ es2 : Names, es2.map (·.1) ++ [dotN k s] = (es2 ++ [(dotN k s, Ba.length)]).map (·.1) := fun es2 => by simp
      have ea : ∀ es2 : Names, es2.map (·.2) ++ [Ba.length] = (es2 ++ [(dotN k s, Ba.length)]).map (·.2) := fun es2 => by simp
      have el : esa.length + 1 = (esa ++ [(dotN k s, Ba.length)]).length := by simp
      have eb : Ba ++ [UInt8.ofNat (dotL (dotN k s)).length] ++ dotL (dotN k s) = Ba ++ lab1 (dotL (dotN k s)) := by simp [lab1]
      have eB : Ba.length + 1 + (dotL (dotN k s)).length = (Ba ++ lab1 (dotL (dotN k s))).length := by simp [lab1]; omega
      by_cases h16 : Ba.length < 16384
      · rw [if_pos h16] at hall hF'
        simp (disch := omega) only [↓reduceIte, go_sem, uB, uN, uA, ux, sB, sN, sA, sx, most, h16, strs_snoc, nums_snoc, List.length_map] <;> repeat with_reducible refine And.intro (by first | omega | decide) ?_
        refine go 30 (fun _ => false) mixed ?_
        simp (disch := omega) only [↓reduceIte, go_sem, uB, uN, uA, ux, sB, sN, sA, sx, most, h16, strs_snoc, nums_snoc, List.length_map, ordRN_16, ordRN_17, hlt, g0, mw_u8, bys_snoc, bys_app] <;> repeat with_reducible refine And.intro (by first | omega | decide) ?_
        refine go 30 (fun _ => false) mixed ?_
        simp (disch := omega) only [↓reduceIte, go_sem, uB, uN, uA, ux, sB, sN, sA, sx, most, h16, strs_snoc, nums_snoc, List.length_map, ordRN_16, ordRN_17, hlt, g0, mw_u8, bys_snoc, bys_app, List.length_append, List.length_cons, List.length_nil] <;> repeat with_reducible refine And.intro (by first | omega | decide) ?_
        refine go 30 (fun _ => false) mixed ?_
        simp (disch := omega) only [↓reduceIte, go_sem, uB, uN, uA, ux, sB, sN, sA, sx, most, h16, strs_snoc, nums_snoc, List.length_map, ordRN_16, ordRN_17, hlt, g0, mw_u8, bys_snoc, bys_app, List.length_append, List.length_cons, List.length_nil] <;> repeat with_reducible refine And.intro (by first | omega | decide) ?_
        refine go 30 (fun _ => false) mixed ?_
        simp (disch := omega) only [↓reduceIte, go_sem] <;> repeat with_reducible refine And.intro (by first | omega | decide) ?_
        rw [eb, eB, en, ea, el]
        refine rnd_next ⟨_, k + 1, _, Ba ++ lab1 (dotL (dotN k s)), esa ++ [(dotN k s, Ba.length)]⟩ ⟨hlt, uR _ _ _ _ _ hF', uG _ _ _ _, hKa.trans (uK _ _ _ _), by rw [dotN_succ]; exact hall, ?_, ?_⟩ (by show (labF s).length - (k + 1) < (labF s).length - k; omega) rfl rfl
        · show (Ba ++ lab1 (dotL (dotN k s))).length + 2 * (dotN (k + 1) s).length ≤ 900001000
          have := dotR_lt hne
          rw [← eB, dotN_succ]; omega
        · show (esa ++ [(dotN k s, Ba.length)]).length + _ ≤ 900001000 + (k + 1)
          rw [← el]; omega
      · rw [if_neg h16] at hall hF'
        simp (disch := omega) only [↓reduceIte, go_sem, uB, uN, uA, ux, sB, sN, sA, sx, most, h16, strs_snoc, nums_snoc, List.length_map, ordRN_16, ordRN_17, hlt, g0, mw_u8, bys_snoc, bys_app] <;> repeat with_reducible refine And.intro (by first | omega | decide) ?_
        refine go 30 (fun _ => false) mixed ?_
        simp (disch := omega) only [↓reduceIte, go_sem, uB, uN, uA, ux, sB, sN, sA, sx, most, h16, strs_snoc, nums_snoc, List.length_map, ordRN_16, ordRN_17, hlt, g0, mw_u8, bys_snoc, bys_app, List.length_append, List.length_cons, List.length_nil] <;> repeat with_reducible refine And.intro (by first | omega | decide) ?_
        refine go 30 (fun _ => false) mixed ?_
        simp (disch := omega) only [↓reduceIte, go_sem, uB, uN, uA, ux, sB, sN, sA, sx, most, h16, strs_snoc, nums_snoc, List.length_map, ordRN_16, ordRN_17, hlt, g0, mw_u8, bys_snoc, bys_app, List.length_append, List.length_cons, List.length_nil] <;> repeat with_reducible refine And.intro (by first | omega | decide) ?_
        rw [eb, eB]
        refine rnd_next ⟨_, k + 1, _, Ba ++ lab1 (dotL (dotN k s)), esa⟩ ⟨hlt, uR _ _ _ _ _ hF', uG _ _ _ _, hKa.trans (uK _ _ _ _), by rw [dotN_succ]; exact hall, ?_, ?_⟩ (by show (labF s).length - (k + 1) < (labF s).length - k; omega) rfl rfl
        · show (Ba ++ lab1 (dotL (dotN k s))).length + 2 * (dotN (k + 1) s).length ≤ 900001000
          have := dotR_lt hne
          rw [← eB, dotN_succ]; omega
        · show esa.length + _ ≤ 900001000 + (k + 1)
          omega
  · have hk2 : k = (labF s).length := by omega
    rw [hk2, dotN_all, wrN_nil] at hall
    have e0 : Ba.length + 1 = (Ba ++ [0]).length := by simp
    rw [u0]
    simp (disch := omega) only [↓reduceIte, go_sem, hlt] <;> repeat with_reducible refine And.intro (by first | omega | decide) ?_
    refine go 200 (fun _ => false) mixed ?_
    simp (disch := omega) only [↓reduceIte, go_sem, uB, ux, uz, sB, sx, most, bys_snoc0] <;> repeat with_reducible refine And.intro (by first | omega | decide) ?_
    rw [hall, e0]
    exact EndsD.same (.inr rfl) (by simp (disch := omega) only [↓reduceIte, go_sem, ot] <;> repeat with_reducible refine And.intro (by first | omega | decide) ?_) ⟨_, rfl, uT _ _ _ _ _ _ hf, uK2 _ _ _ _ _⟩
end Go.Proofs.GoC
