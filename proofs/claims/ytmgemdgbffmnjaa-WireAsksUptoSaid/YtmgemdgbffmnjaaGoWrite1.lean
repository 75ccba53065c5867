/-
  What the functions compute: a writer of names, and the document's. No claim by itself.
-/
import Derived.Test.YtmgemdgbffmnjaaGoRead2
namespace Go.Proofs.GoC
open Go Go.Proofs.SL
set_option linter.unusedSimpArgs false
set_option linter.unusedVariables false
set_option maxRecDepth 10000
set_option maxHeartbeats 4000000

/-! Where names began. -/
abbrev Names := List (List UInt8 × Nat)
def findN (s : List UInt8) : Names → Option Nat
  | [] => none
  | e :: es => if s = e.1 then some e.2 else findN s es
def namesV (es : Names) : List (PV × PV) := es.map fun e => (.str (bs e.1), .int .i64 (e.2 : Nat))
theorem namesV_keys (es : Names) (a : Nat) (b : Bool) (c : Nat) (d : PV) (e : Option (List Tag)) : keysB ⟨.str, a, b, c, d, e⟩ (namesV es) = true := by
  unfold keysB
  rw [List.all_eq_true]
  intro q hq
  obtain ⟨e, _, rfl⟩ := List.mem_map.mp hq
  rfl
theorem namesV_find (s : List UInt8) : ∀ (es : Names) (i : Nat), (findP (.str (bs s)) (namesV es) i).map (·.2) = (findN s es).map fun n => PV.int .i64 (n : Nat)
  | [], _ => rfl
  | e :: es, i => by
    have hk : keyB (.str (bs s)) (.str (bs e.1)) = decide (s = e.1) := by
      show decide (bs s = bs e.1) = _
      rw [decide_eq_decide]; exact bs_inj
    show (if keyB (.str (bs s)) (.str (bs e.1)) = true then some (i, PV.int .i64 (e.2 : Nat)) else findP (.str (bs s)) (namesV es) (i + 1)).map (·.2) = _
    rw [hk]
    unfold findN
    by_cases h : s = e.1
    · rw [if_pos h, if_pos (by simpa using h)]; rfl
    · rw [if_neg h, if_neg (by simpa using h)]; exact namesV_find s es (i + 1)
theorem look_some {s : List UInt8} {es : Names} {n : Nat} (z : PV) (h : findN s es = some n) : lookM (.str (bs s)) z (namesV es) = (.int .i64 (n : Nat), true) := by
  have := namesV_find s es 0
  rw [h] at this
  unfold lookM
  cases hf : findP (.str (bs s)) (namesV es) 0 with
  | none => rw [hf] at this; cases this
  | some x => rw [hf] at this; obtain ⟨j, v⟩ := x; simp only [Option.map_some, Option.some.injEq] at this; rw [this]
theorem look_none {s : List UInt8} {es : Names} (z : PV) (h : findN s es = none) : lookM (.str (bs s)) z (namesV es) = (z, false) := by
  have := namesV_find s es 0
  rw [h] at this
  unfold lookM
  cases hf : findP (.str (bs s)) (namesV es) 0 with
  | none => rfl
  | some x => rw [hf] at this; cases this
theorem put_none {s : List UInt8} {es : Names} (n : Nat) (h : findN s es = none) : putM (.str (bs s)) (.int .i64 (n : Nat)) (namesV es) = namesV (es ++ [(s, n)]) := by
  have := namesV_find s es 0
  rw [h] at this
  unfold putM
  cases hf : findP (.str (bs s)) (namesV es) 0 with
  | none => simp [namesV]
  | some x => rw [hf] at this; cases this

/-- What a name's bytes are, behind others: so many labels at most. -/
def wrF : Nat → List UInt8 → List UInt8 → Names → List UInt8 × Names
  | 0, _, B, es => (B ++ [0], es)
  | n + 1, s, B, es => if s = [] then (B ++ [0], es) else match findN s es with
    | some p => (B ++ [UInt8.ofNat (192 + p / 256), UInt8.ofNat (p % 256)], es)
    | none => wrF n (dotR s) (B ++ lab1 (dotL s)) (if B.length < 16384 then es ++ [(s, B.length)] else es)
theorem wrF_nil (n : Nat) (B : List UInt8) (es : Names) : wrF n [] B es = (B ++ [0], es) := by cases n <;> simp [wrF]
theorem wrF_more : ∀ (n : Nat) (s B : List UInt8) (es : Names), s.length ≤ n → wrF (n + 1) s B es = wrF n s B es
  | 0, s, B, es, h => by
    have : s = [] := List.eq_nil_of_length_eq_zero (Nat.le_zero.mp h)
    subst this; simp [wrF]
  | n + 1, s, B, es, h => by
    by_cases hs : s = []
    · subst hs; rw [wrF_nil, wrF_nil]
    · unfold wrF
      rw [if_neg hs, if_neg hs]
      cases findN s es with
      | some p => rfl
      | none =>
        have := dotR_lt hs
        exact wrF_more n _ _ _ (by omega)
theorem wrF_le {n k : Nat} {s : List UInt8} (h : s.length ≤ n) (B : List UInt8) (es : Names) : wrF (n + k) s B es = wrF n s B es := by
  induction k with
  | zero => rfl
  | succ k ih => rw [← Nat.add_assoc, wrF_more _ _ _ _ (by omega), ih]
def wrN (s B : List UInt8) (es : Names) : List UInt8 × Names := wrF s.length s B es
theorem wrN_nil (B : List UInt8) (es : Names) : wrN [] B es = (B ++ [0], es) := wrF_nil 0 B es
theorem wrN_some {s B : List UInt8} {es : Names} {p : Nat} (hs : s ≠ []) (h : findN s es = some p) : wrN s B es = (B ++ [UInt8.ofNat (192 + p / 256), UInt8.ofNat (p % 256)], es) := by
  unfold wrN
  obtain ⟨k, hk⟩ : ∃ k, s.length = k + 1 := ⟨s.length - 1, by have : s.length ≠ 0 := fun h2 => hs (List.eq_nil_of_length_eq_zero h2); omega⟩
  rw [hk]; unfold wrF; rw [if_neg hs, h]
theorem wrN_none {s B : List UInt8} {es : Names} (hs : s ≠ []) (h : findN s es = none) : wrN s B es = wrN (dotR s) (B ++ lab1 (dotL s)) (if B.length < 16384 then es ++ [(s, B.length)] else es) := by
  unfold wrN
  obtain ⟨k, hk⟩ : ∃ k, s.length = k + 1 := ⟨s.length - 1, by have : s.length ≠ 0 := fun h2 => hs (List.eq_nil_of_length_eq_zero h2); omega⟩
  have := dotR_lt hs
  obtain ⟨j, hj⟩ : ∃ j, k = (dotR s).length + j := ⟨k - (dotR s).length, by omega⟩
  rw [hk]
  conv => lhs; unfold wrF
  rw [if_neg hs, h]
  show wrF k _ _ _ = _
  rw [hj, wrF_le (Nat.le_refl _)]
theorem dotLR_len (s : List UInt8) : (dotL s).length + (dotR s).length ≤ s.length := by
  rcases dot_split s with ⟨h1, h2, h3⟩ | ⟨h1, h2⟩
  · rw [h2, h3]; simp
  · have := congrArg List.length h2
    simp only [List.length_append, List.length_cons] at this
    omega
theorem chunk_one : ∀ l : List PV, chunk 1 false l.length l = l
  | [] => rfl
  | a :: l => by
    have := chunk_one l
    simp only [List.length_cons, chunk, Bool.false_eq_true, if_false, List.getD_cons_zero, List.drop_succ_cons, List.drop_zero, this]
theorem chunk_bys (l : List UInt8) : chunk 1 false l.length (List.take l.length (bys l)) = bys l := by
  have e : List.take l.length (bys l) = bys l := List.take_of_length_le (by rw [bys_len]; exact Nat.le_refl _)
  rw [e]
  have := chunk_one (bys l)
  rwa [bys_len] at this
theorem wrN_len : ∀ (n : Nat) (s B : List UInt8) (es : Names), s.length = n → (wrN s B es).1.length ≤ B.length + 2 * s.length + 2 := by
  intro n
  induction n using Nat.strongRecOn with
  | _ n ih =>
    intro s B es hn
    by_cases hs : s = []
    · subst hs; rw [wrN_nil]; simp
    · cases hf : findN s es with
      | some p => rw [wrN_some hs hf]; simp <;> omega
      | none =>
        rw [wrN_none hs hf]
        have h1 := dotR_lt hs
        have h2 := ih _ (by omega) (dotR s) (B ++ lab1 (dotL s)) (if B.length < 16384 then es ++ [(s, B.length)] else es) rfl
        have h3 := dotLR_len s
        have h4 : (B ++ lab1 (dotL s)).length = B.length + ((dotL s).length + 1) := by rw [List.length_append]; rfl
        rw [h4] at h2
        omega
/-- All places are such as a pointer may tell. -/
def Far (es : Names) : Prop := ∀ e ∈ es, e.2 < 16384
theorem findN_far {es : Names} (h : Far es) {s : List UInt8} {n : Nat} (hf : findN s es = some n) : n < 16384 := by
  induction es with
  | nil => cases hf
  | cons e es ih =>
    unfold findN at hf
    split at hf
    · cases hf; exact h e (by simp)
    · exact ih (fun e he => h e (List.mem_cons_of_mem _ he)) hf
theorem Far.step {es : Names} (h : Far es) (s B : List UInt8) : Far (if B.length < 16384 then es ++ [(s, B.length)] else es) := by
  split
  · rename_i hB
    intro e he
    rcases List.mem_append.mp he with he | he
    · exact h e he
    · simp only [List.mem_singleton] at he; subst he; exact hB
  · exact h
theorem wrN_far : ∀ (n : Nat) (s B : List UInt8) (es : Names), s.length = n → Far es → Far (wrN s B es).2 := by
  intro n
  induction n using Nat.strongRecOn with
  | _ n ih =>
    intro s B es hn hF
    by_cases hs : s = []
    · subst hs; rw [wrN_nil]; exact hF
    · cases hf : findN s es with
      | some p => rw [wrN_some hs hf]; exact hF
      | none =>
        rw [wrN_none hs hf]
        have h1 := dotR_lt hs
        exact ih _ (by omega) (dotR s) _ _ rfl (hF.step s B)

theorem or192 : ∀ a : Fin 64, bitOp .or .u8 (a.val : Int) 192 = ((192 + a.val : Nat) : Int) := by decide +kernel
theorem lab_first {s : List UInt8} (h : s ≠ []) : (labF s).getD 0 [] = dotL s ∧ 0 < (labF s).length := by
  unfold labF
  rw [if_neg h, split_dot]
  exact ⟨rfl, by simp⟩

/-! The writer. -/
def bufI : PV → List Nat
  | .buf i _ _ _ _ _ => [i]
  | _ => []
def mapI : PV → List Nat
  | .mp i => [i]
  | _ => []
/-- Bytes that grow, nil as long as there are none. -/
def BufAt (H : Heap) (bv : PV) (B : List UInt8) : Prop := (bv = .nils ∧ B = []) ∨ ∃ iB vB, bv = .buf iB vB 0 B.length 1 true ∧ H[iB]? = some (some (.cells vB (bys B))) ∧ B ≠ []
theorem BufAt.keep {F : List Nat} {H H' : Heap} {bv : PV} {B : List UInt8} (h : BufAt H bv B) (k : Keeps F H H') (hF : ∀ j ∈ bufI bv, j ∉ F) : BufAt H' bv B := by
  rcases h with h | ⟨iB, vB, h1, h2, h3⟩
  · exact .inl h
  · exact .inr ⟨iB, vB, h1, k.get h2 (hF iB (by rw [h1]; simp [bufI])), h3⟩
/-- A writer's bytes, and what it knows of names, wherever they lie. -/
structure WAt (H : Heap) (i : Nat) (bv mv : PV) (B : List UInt8) (es : Names) : Prop where
  own : H[i]? = some (some (.cells 0 [bv, mv]))
  buf : BufAt H bv B
  nb : i ∉ bufI bv
  map : (mv = .nilm ∧ es = []) ∨ ∃ iM, mv = .mp iM ∧ H[iM]? = some (some (.map (namesV es)))
  far : Far es
/-- From one state of a writer to a later one: what else was there stays. -/
def WStep (H : Heap) (i : Nat) (bv mv : PV) (H' : Heap) (bv' mv' : PV) : Prop :=
  Keeps (i :: (bufI bv ++ mapI mv)) H H' ∧ ∀ j ∈ bufI bv' ++ mapI mv', j ∈ bufI bv ++ mapI mv ∨ H.length ≤ j
theorem WStep.refl {H : Heap} {i : Nat} {bv mv : PV} : WStep H i bv mv H bv mv := ⟨Keeps.refl, fun j hj => .inl hj⟩
theorem WStep.trans {H H1 H2 : Heap} {i : Nat} {bv mv bv1 mv1 bv2 mv2 : PV} (a : WStep H i bv mv H1 bv1 mv1) (b : WStep H1 i bv1 mv1 H2 bv2 mv2) : WStep H i bv mv H2 bv2 mv2 := by
  refine ⟨⟨Nat.le_trans a.1.1 b.1.1, fun j hj hn => ?_⟩, fun j hj => ?_⟩
  · rw [b.1.2 j (Nat.lt_of_lt_of_le hj a.1.1), a.1.2 j hj hn]
    intro hm
    rcases List.mem_cons.mp hm with h | h
    · exact hn (by simp [h])
    · rcases a.2 j h with h | h
      · exact hn (List.mem_cons_of_mem _ h)
      · omega
  · rcases b.2 j hj with h | h
    · exact a.2 j h
    · exact .inr (Nat.le_trans a.1.1 h)
theorem WAt.noGlob {H : Heap} {i : Nat} {bv mv : PV} {B : List UInt8} {es : Names} (h : WAt H i bv mv B es) : ∀ j ∈ i :: (bufI bv ++ mapI mv), ∀ b o, H[j]? ≠ some (some (OB.glob b o)) := by
  intro j hj b o ho
  rcases List.mem_cons.mp hj with rfl | hj
  · rw [h.own] at ho; cases ho
  · rcases List.mem_append.mp hj with hj | hj
    · rcases h.buf with ⟨h1, _⟩ | ⟨iB, vB, h1, h2, _⟩
      · rw [h1] at hj; cases hj
      · rw [h1] at hj; simp only [bufI, List.mem_singleton] at hj; subst hj; rw [h2] at ho; cases ho
    · rcases h.map with ⟨h1, _⟩ | ⟨iM, h1, h2⟩
      · rw [h1] at hj; cases hj
      · rw [h1] at hj; simp only [mapI, List.mem_singleton] at hj; subst hj; rw [h2] at ho; cases ho
theorem GVar.keep {H H' : Heap} {F : List Nat} {name : String} {Q : Array Value → Prop} (k : Keeps F H H') (hF : ∀ j ∈ F, ∀ b o, H[j]? ≠ some (some (OB.glob b o))) (h : GVar H name Q) : GVar H' name Q := fun b hb => by
  obtain ⟨cs, t, fz, h1, h2⟩ := h b hb
  exact ⟨cs, t, fz, h1, k.hasG h2 fun j hj o => hF j hj b o⟩
theorem GTab.keep {H H' : Heap} {F : List Nat} (k : Keeps F H H') (hF : ∀ j ∈ F, ∀ b o, H[j]? ≠ some (some (OB.glob b o))) (h : GTab H) : GTab H' := ⟨h.pow.keep k hF, h.deb.keep k hF, h.len.keep k hF⟩
theorem GTab.wstep {H H' : Heap} {i : Nat} {bv mv bv' mv' : PV} {B : List UInt8} {es : Names} (hw : WAt H i bv mv B es) (s : WStep H i bv mv H' bv' mv') (h : GTab H) : GTab H' := h.keep s.1 hw.noGlob

theorem c_label_Writer_Raw {H : Heap} {i : Nat} {bv mv : PV} {B : List UInt8} {es : Names} (h : WAt H i bv mv B es) (b : List UInt8) (hl : B.length + b.length ≤ 1000000000) (hne : B ++ b ≠ []) :
    SCall Try.prog 63 [.ptr i 0 0, .sl 1 (bys b)] H fun _ H' => ∃ bv', WAt H' i bv' mv (B ++ b) es ∧ WStep H i bv mv H' bv' mv := by
  obtain ⟨hi, hb0, hnb, hm, hf⟩ := h
  have o1 := obj_of hi
  have l1 := lt_of_get hi
  have hmap : ∀ {H' : Heap} {F : List Nat}, Keeps F H H' → (∀ j ∈ F, ∀ es, H[j]? ≠ some (some (.map es))) → (mv = .nilm ∧ es = []) ∨ ∃ iM, mv = .mp iM ∧ H'[iM]? = some (some (.map (namesV es))) := fun k hF => by
    rcases hm with h | ⟨iM, h1, h2⟩
    · exact .inl h
    · exact .inr ⟨iM, h1, k.get h2 fun hj => hF iM hj _ h2⟩
  refine scall_of (ord := fun _ => []) (rs := []) Try.func63 rfl (by kernel_rfl) (by kernel_rfl) (by kernel_rfl) Try.ntmps63 fun hb hargs => go 200 (fun t => t == 10) mixed ?_
  rcases hb0 with ⟨rfl, rfl⟩ | ⟨iB, vB, rfl, hB, hBn⟩
  · simp (disch := omega) only [↓reduceIte, go_sem, o1, most] <;> repeat with_reducible refine And.intro (by first | omega | decide) ?_
    refine SL.Ends.same (.inl rfl) ⟨.buf H.length 0 0 b.length 1 true, ⟨?_, .inr ⟨H.length, 0, by simp, ?_, hne⟩, ?_, ?_, hf⟩, ?_, ?_⟩
    · rw [List.getElem?_append_left (by simpa using l1), List.getElem?_set_self l1]
    · rw [get_tail0s]; simp
    · simp [bufI]; omega
    · refine hmap (F := [i]) ((Keeps.setF (by simp)).trans Keeps.app) fun j hj es he => ?_
      simp only [List.mem_singleton] at hj; subst hj; rw [hi] at he; cases he
    · exact (Keeps.setF (by simp)).trans Keeps.app
    · intro j hj
      rcases List.mem_append.mp hj with h | h
      · simp only [bufI, List.mem_singleton] at h; right; omega
      · exact .inl (List.mem_append_right _ h)
  · have o2 := obj_of hB
    have l2 := lt_of_get hB
    have hne1 : i ≠ iB := by simpa [bufI] using hnb
    have hne2 := Ne.symm hne1
    simp (disch := omega) only [↓reduceIte, go_sem, o1, o2, most, bys_app] <;> repeat with_reducible refine And.intro (by first | omega | decide) ?_
    refine SL.Ends.same (.inl rfl) ⟨.buf iB (vB + 1) 0 (B.length + b.length) 1 true, ⟨?_, .inr ⟨iB, vB + 1, by rw [List.length_append], ?_, hne⟩, hnb, ?_, hf⟩, ?_, ?_⟩
    · rw [List.getElem?_set_self (by simpa using l1)]
    · rw [List.getElem?_set_ne hne1, List.getElem?_set_self l2]
    · refine hmap (F := [i, iB]) ((Keeps.setF (by simp)).trans (Keeps.setF (by simp))) fun j hj es he => ?_
      simp only [List.mem_cons, List.not_mem_nil, or_false] at hj
      rcases hj with rfl | rfl
      · rw [hi] at he; cases he
      · rw [hB] at he; cases he
    · exact (Keeps.setF (by simp [bufI])).trans (Keeps.setF (by simp))
    · intro j hj
      exact .inl hj

theorem c_label_Writer_Len {H : Heap} {i : Nat} {bv mv : PV} {B : List UInt8} {es : Names} (h : WAt H i bv mv B es) :
    SCall Try.prog 32 [.ptr i 0 0] H fun r H' => r = .int .i64 B.length ∧ H' = H := by
  obtain ⟨hi, hb0, hnb, hm, hf⟩ := h
  have o1 := obj_of hi
  refine scall_of (ord := fun _ => []) (rs := [2]) Try.func32 rfl (by kernel_rfl) (by kernel_rfl) (by kernel_rfl) Try.ntmps32 fun hb hargs => go 200 (fun _ => false) mixed ?_
  rcases hb0 with ⟨rfl, rfl⟩ | ⟨iB, vB, rfl, hB, hBn⟩
  · simp (disch := omega) only [↓reduceIte, go_sem, o1] <;> repeat with_reducible refine And.intro (by first | omega | decide) ?_
    exact fin rfl rfl
  · simp (disch := omega) only [↓reduceIte, go_sem, o1] <;> repeat with_reducible refine And.intro (by first | omega | decide) ?_
    exact fin rfl rfl

theorem c_slices_Clone_byte_byte {H : Heap} {bv : PV} {B : List UInt8} (h : BufAt H bv B) (hl : B.length < 1000000000) :
    SCall Try.prog 66 [bv] H fun r H' => r = noNil 1 (if B = [] then .nils else .sl 1 (bys B)) ∧ H' = H := by
  refine SCall.mono (SCall.res (g := noNil 1) (fun _ _ _ _ _ h => h.noNil 1) (Q := fun r H' => r = (if B = [] then .nils else .sl 1 (bys B)) ∧ H' = H) ?_) fun r H' ⟨r0, h1, h2, h3⟩ => ⟨by rw [h1, h2], h3⟩
  refine scall_of (ord := fun _ => []) (rs := [2]) Try.func66 rfl (by kernel_rfl) (by kernel_rfl) (by kernel_rfl) Try.ntmps66 fun hb hargs => go 200 (fun t => t == 5) mixed ?_
  rcases h with ⟨rfl, rfl⟩ | ⟨iB, vB, rfl, hB, hBn⟩
  · simp (disch := omega) only [↓reduceIte, go_sem] <;> repeat with_reducible refine And.intro (by first | omega | decide) ?_
    exact fin (by simp [retV]) rfl
  · have o1 := obj_of hB
    have l1 := lt_of_get hB
    have hn : ¬ B.length = 0 := fun e => hBn (List.eq_nil_of_length_eq_zero e)
    rw [if_neg hBn]
    simp (disch := omega) only [↓reduceIte, go_sem, o1, hn, most, chunk_bys] <;> repeat with_reducible refine And.intro (by first | omega | decide) ?_
    exact fin_frz 2 (bys B) (.inr rfl) hb rfl (Nat.le_refl _) (by rw [get_tail0]; rfl) (by rw [flat_bys, sub_bys]) bys_len bys_cells (by simp; exact bys_bdd) ⟨rfl, rfl⟩
end Go.Proofs.GoC
