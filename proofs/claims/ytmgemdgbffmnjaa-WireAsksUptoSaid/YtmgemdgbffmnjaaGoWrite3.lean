/-
  What the functions compute: the document's writer; the document's example. No claim by itself.
-/
import Derived.Test.YtmgemdgbffmnjaaGoWrite2
namespace Go.Proofs.GoC
open Go Go.Proofs.SL
set_option linter.unusedSimpArgs false
set_option linter.unusedVariables false
set_option maxRecDepth 10000
set_option maxHeartbeats 4000000

theorem c_label_Writer_Bytes {H : Heap} {i : Nat} {bv mv : PV} {B : List UInt8} {es : Names} (h : WAt H i bv mv B es) (hl : B.length < 1000000000) :
    SCall Try.prog 34 [.ptr i 0 0] H fun r H' => r = .sl 1 (bys B) ∧ H' = H := by
  have o1 := obj_of h.own
  refine scall_of (ord := fun _ => []) (rs := [2]) Try.func34 rfl (by kernel_rfl) (by kernel_rfl) (by kernel_rfl) Try.ntmps34 fun hb hargs => go 200 (fun _ => false) mixed ?_
  simp (disch := omega) only [↓reduceIte, go_sem, o1] <;> repeat with_reducible refine And.intro (by first | omega | decide) ?_
  refine (c_slices_Clone_byte_byte h.buf hl).mono fun r H' ⟨e1, e2⟩ => ?_
  subst e1 e2
  refine go 200 (fun _ => false) mixed ?_
  simp (disch := omega) only [↓reduceIte, go_sem] <;> repeat with_reducible refine And.intro (by first | omega | decide) ?_
  refine fin ?_ rfl
  by_cases hB : B = []
  · subst hB; rfl
  · rw [if_neg hB]; rfl

/-! A name's labels, one by one. -/
theorem split_nodot : ∀ (n : Nat) (s : List UInt8), s.length = n → ∀ p ∈ splitA 46 s [] [], (46 : UInt8) ∉ p := by
  intro n
  induction n using Nat.strongRecOn with
  | _ n ih =>
    intro s hn p hp
    rw [split_dot] at hp
    rcases List.mem_cons.mp hp with rfl | hp
    · rcases dot_split s with ⟨h1, h2, _⟩ | ⟨h1, _⟩
      · rw [h2]; exact h1
      · exact h1
    · split at hp
      · rename_i hm
        have hne : s ≠ [] := fun h => by rw [h] at hm; simp at hm
        exact ih _ (by rw [← hn]; exact dotR_lt hne) (dotR s) rfl p hp
      · cases hp
theorem lab_nodot {s p : List UInt8} (h : p ∈ labF s) : (46 : UInt8) ∉ p := by
  unfold labF at h
  split at h
  · cases h
  · exact split_nodot _ s rfl p h
theorem dotL_no : ∀ {l : List UInt8}, (46 : UInt8) ∉ l → dotL l = l
  | [], _ => rfl
  | b :: l, h => by
    simp only [List.mem_cons, not_or] at h
    unfold dotL
    rw [if_neg (fun e => h.1 e.symm), dotL_no h.2]
theorem dotL_app : ∀ {a b : List UInt8}, (46 : UInt8) ∉ a → dotL (a ++ 46 :: b) = a
  | [], b, _ => by simp [dotL]
  | x :: a, b, h => by
    simp only [List.mem_cons, not_or] at h
    rw [List.cons_append]
    unfold dotL
    rw [if_neg (fun e => h.1 e.symm), dotL_app h.2]
theorem dotL_join {a : List UInt8} (h : (46 : UInt8) ∉ a) (l : List (List UInt8)) : dotL (joinL [46] (a :: l)) = a := by
  cases l with
  | nil => simp only [joinL, List.intercalate, List.intersperse, List.flatten_cons, List.flatten_nil, List.append_nil]; exact dotL_no h
  | cons b l => rw [joinL_cons _ _ _ (by simp), List.append_assoc]; exact dotL_app h
theorem lab_at {s : List UInt8} {i : Nat} (hi : i < (labF s).length) : (labF s).getD i [] = dotL (dotN i s) := by
  rw [← rest_eq, List.drop_eq_getElem_cons hi, ← getDL_of hi, dotL_join]
  rw [getDL_of hi]; exact lab_nodot (List.getElem_mem _)
theorem may_labs {s : List UInt8} (h : mayN s = true) : ∀ a ∈ labF s, a ≠ [] ∧ a.length ≤ 63 := by
  unfold mayN at h
  simp only [Bool.and_eq_true, Bool.not_eq_true', List.any_eq_false] at h
  intro a ha
  have := h.2 a ha
  simp only [oddL, Bool.or_eq_true, decide_eq_true_eq, not_or] at this
  exact ⟨this.1, by omega⟩
theorem may_len {s : List UInt8} (h : mayN s = true) : s.length ≤ 253 := by
  unfold mayN at h
  simp only [Bool.and_eq_true, decide_eq_true_eq] at h
  exact h.1
theorem may_at {s : List UInt8} (h : mayN s = true) {i : Nat} (hi : i < (labF s).length) : dotN i s ≠ [] := by
  intro e
  have h1 := lab_at hi
  rw [e] at h1
  have h2 := (may_labs h ((labF s).getD i []) (by rw [getDL_of hi]; exact List.getElem_mem _)).1
  exact h2 h1

/-! The document's writer. -/
def nums (l : List Nat) : List PV := l.map fun n => .int .i64 (n : Nat)
@[go_sem] theorem nums_len {l : List Nat} : (nums l).length = l.length := List.length_map ..
theorem nums_getD {l : List Nat} {k : Nat} (h : k < l.length) : (nums l).getD k .any = .int .i64 (l.getD k 0 : Nat) := by
  simp [nums, List.getD_eq_getElem?_getD, h]
theorem nums_snoc (l : List Nat) (n : Nat) : nums l ++ [PV.int .i64 (n : Nat)] = nums (l ++ [n]) := by simp [nums]
theorem strs_snoc (l : List (List UInt8)) (s : List UInt8) : strs l ++ [PV.str (bs s)] = strs (l ++ [s]) := by simp [strs]

/-- The document's writer: its bytes, names, places, each in an object that grows. -/
structure RAt (H : Heap) (iB iN iA : Nat) (cs : List PV) (B : List UInt8) (es : Names) : Prop where
  own : ∃ vB vN vA, cs = [.buf iB vB 0 B.length 1 true, .buf iN vN 0 es.length 1 true, .buf iA vA 0 es.length 1 true] ∧ H[iB]? = some (some (.cells vB (bys B))) ∧
    H[iN]? = some (some (.cells vN (strs (es.map (·.1))))) ∧ H[iA]? = some (some (.cells vA (nums (es.map (·.2)))))
  n1 : iB ≠ iN
  n2 : iB ≠ iA
  n3 : iN ≠ iA
  far : Far es

def findI (s : List UInt8) (es : Names) : Int := match findN s es with
  | some n => (n : Int)
  | none => -1
theorem findN_cons (s : List UInt8) (e : List UInt8 × Nat) (es : Names) : findN s (e :: es) = if s = e.1 then some e.2 else findN s es := rfl
theorem findN_drop {s : List UInt8} : ∀ {es : Names} {k : Nat}, (∀ j, j < k → (es.map (·.1)).getD j [] ≠ s) → k ≤ es.length → findN s es = findN s (es.drop k)
  | es, 0, _, _ => rfl
  | [], k + 1, _, h => by simp at h
  | e :: es, k + 1, h, hk => by
    have h0 := h 0 (by omega)
    simp only [List.map_cons, List.getD_cons_zero] at h0
    rw [findN_cons, if_neg (fun x => h0 x.symm), List.drop_succ_cons]
    refine findN_drop (fun j hj => ?_) (by simpa using hk)
    have := h (j + 1) (by omega)
    simpa using this

theorem c_abatisref08_find {H : Heap} {iB iN iA : Nat} {cs : List PV} {B : List UInt8} {es : Names} (h : RAt H iB iN iA cs B es) (s : List UInt8) (hl : es.length < 1000000000) :
    SCall Try.prog 75 [.agg cs, .str (bs s)] H fun r H' => r = .int .i64 (findI s es) ∧ H' = H := by
  obtain ⟨⟨vB, vN, vA, rfl, hB, hN, hA⟩, n1, n2, n3, hf⟩ := h
  have oN := obj_of hN
  have oA := obj_of hA
  have lN := lt_of_get hN
  have lA := lt_of_get hA
  refine scall_of (ord := fun _ => []) (rs := [4]) Try.func75 rfl (by kernel_rfl) (by kernel_rfl) (by kernel_rfl) Try.ntmps75 fun hb hargs => go 200 (fun _ => false) mixed ?_
  simp (disch := omega) only [↓reduceIte, go_sem] <;> repeat with_reducible refine And.intro (by first | omega | decide) ?_
  refine runs_loopA (fun k : Nat => k ≤ es.length ∧ ∀ j, j < k → (es.map (·.1)).getD j [] ≠ s) (fun k => es.length - k) [false, true, true, false, false, true]
    (fun k => slots 25 [.any, .str (bs s), .ptr H.length 0 0, .any, .any, .int .i64 k])
    (fun _ => H ++ [some (.cells 0 [.buf iB vB 0 B.length 1 true, .buf iN vN 0 es.length 1 true, .buf iA vA 0 es.length 1 true])]) (by rfl) 0 ⟨Nat.zero_le _, by simp⟩ rfl rfl ?_
  rintro k ⟨hk, hno⟩
  refine go 200 (fun _ => false) mixed ?_
  by_cases hlt : k < es.length
  · have hlm : k < (es.map (·.1)).length := by simpa using hlt
    have hlm2 : k < (es.map (·.2)).length := by simpa using hlt
    have g1 := strs_getD hlm
    have g2 := nums_getD hlm2
    have hdr : findN s es = findN s (es.drop k) := findN_drop hno hk
    rw [List.drop_eq_getElem_cons hlt, findN_cons] at hdr
    have e1 : (es.map (·.1)).getD k [] = es[k].1 := by simp [List.getD_eq_getElem?_getD, hlt]
    have e2 : (es.map (·.2)).getD k 0 = es[k].2 := by simp [List.getD_eq_getElem?_getD, hlt]
    rw [e1] at g1
    rw [e2] at g2
    by_cases he : es[k].1 = s
    · rw [if_pos he.symm] at hdr
      have hI : findI s es = (es[k].2 : Nat) := by unfold findI; rw [hdr]
      simp (disch := omega) only [↓reduceIte, go_sem, hlt, oN, oA, g1, g2, he, List.length_map] <;> repeat with_reducible refine And.intro (by first | omega | decide) ?_
      exact fin_drop (.inr rfl) hb (by rw [hI]; rfl) (by simp)
    · simp (disch := omega) only [↓reduceIte, go_sem, hlt, oN, oA, g1, g2, he, List.length_map] <;> repeat with_reducible refine And.intro (by first | omega | decide) ?_
      refine rnd_next (k + 1) ⟨hlt, fun j hj => ?_⟩ (by show es.length - (k + 1) < es.length - k; omega) rfl rfl
      rcases Nat.lt_succ_iff_lt_or_eq.mp hj with h | h
      · exact hno j h
      · subst h; rw [e1]; exact he
  · have hk2 : k = es.length := by omega
    have hdr := findN_drop hno hk
    rw [hk2, List.drop_length] at hdr
    have hI : findI s es = -1 := by unfold findI; rw [hdr]; rfl
    rw [hI]
    simp (disch := omega) only [↓reduceIte, go_sem, hlt] <;> repeat with_reducible refine And.intro (by first | omega | decide) ?_
    refine go 200 (fun _ => false) mixed ?_
    simp (disch := omega) only [↓reduceIte, go_sem] <;> repeat with_reducible refine And.intro (by first | omega | decide) ?_
    exact fin_drop (.inr rfl) hb rfl (by simp)
end Go.Proofs.GoC
