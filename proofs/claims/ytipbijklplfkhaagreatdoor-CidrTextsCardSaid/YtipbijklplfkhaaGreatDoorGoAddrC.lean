/-
  The laws of layer 4. No claim by itself.
-/
import Derived.Test.YtipbijklplfkhaaGreatDoorGoM6
import Derived.Test.YtipbijklplfkhaaGreatDoorGoSixF
namespace Go.Proofs.GoC
open Go Go.Proofs.SL
set_option linter.unusedSimpArgs false
set_option linter.unusedVariables false
set_option maxRecDepth 10000
set_option maxHeartbeats 4000000

theorem c_abatisref04_Parse (s : List UInt8) (hl : s.length < 1000000) : PCall Tryz.prog 16 [.str (bs s)] (parseAV (parseA s)) := by
  intro H
  unfold parseA
  refine scall_ofc (ord := fun _ => []) (tdOf_ok _) (rs := [.cell 2 24, .tmp 3]) Tryz.func16 rfl (by kernel_rfl) (by kernel_rfl) (by kernel_rfl) Tryz.ntmps16 fun hb hargs => go 200 (fun _ => false) mixed ?_
  simp (disch := omega) only [↓reduceIte, go_sem] <;> repeat with_reducible refine And.intro (by first | omega | decide) ?_
  refine (c_abatisref02_Strict s hl).on (go 200 (fun _ => false) mixed ?_)
  cases hv : strictF s with
  | some v =>
    have hvl := strictF_le hv
    have t16 := u8s_take16 (of4L_len v)
    simp only [strictV]
    simp (disch := omega) only [↓reduceIte, go_sem] <;> repeat with_reducible refine And.intro (by first | omega | decide) ?_
    refine (c_abatisref04_Of4 v hvl).on (go 200 (fun _ => false) mixed ?_)
    simp (disch := omega) only [↓reduceIte, go_sem, adrV, adrC, of4L_len, t16] <;> repeat with_reducible refine And.intro (by first | omega | decide) ?_
    exact fin_c (.inr rfl) hb (by simp only [go_sem, of4L_len, t16] <;> rfl) (parseAV_bdd (some (4, of4L v)))
  | none =>
    simp only [strictV]
    simp (disch := omega) only [↓reduceIte, go_sem] <;> repeat with_reducible refine And.intro (by first | omega | decide) ?_
    refine (c_abatisref03_Parse s hl).on (go 200 (fun _ => false) mixed ?_)
    cases hp : parseF s with
    | some gs =>
      have h8 := parse2_len hp
      have hle := parseF_le hp
      have b16 : (bytes6 gs).length = 16 := by rw [bytes6_len]; omega
      have t16 := u8s_take16 b16
      have t8 : List.take 8 (u16s gs) = u16s gs := List.take_of_length_le (by rw [u16s_len]; omega)
      simp only [parseV]
      simp (disch := omega) only [↓reduceIte, go_sem, h8, t8] <;> repeat with_reducible refine And.intro (by first | omega | decide) ?_
      refine (c_abatisref04_Of6 gs h8 hle).on (go 200 (fun _ => false) mixed ?_)
      simp (disch := omega) only [↓reduceIte, go_sem, adrV, adrC, b16, t16] <;> repeat with_reducible refine And.intro (by first | omega | decide) ?_
      exact fin_c (.inr rfl) hb (by simp only [go_sem, b16, t16] <;> rfl) (parseAV_bdd (some (6, bytes6 gs)))
    | none =>
      simp only [parseV]
      simp (disch := omega) only [↓reduceIte, go_sem, u16s] <;> repeat with_reducible refine And.intro (by first | omega | decide) ?_
      exact fin_c (.inr rfl) hb (by simp only [go_sem] <;> rfl) (parseAV_bdd none)

theorem c_abatisref04_Print (f : Int) (l : List Nat) (hl : l.length = 16) (hle : ∀ b ∈ l, b ≤ 255) : PCall Tryz.prog 24 [adrV f l] (.str (bs (printA f l))) := by
  intro H
  have t16 := u8s_take16 hl
  unfold printA
  refine scall_of (ord := fun _ => []) (rs := [2]) Tryz.func24 rfl (by kernel_rfl) (by kernel_rfl) (by kernel_rfl) Tryz.ntmps24 fun hb hargs => go 200 (fun _ => false) mixed ?_
  by_cases h4 : f = 4
  · subst h4
    simp (disch := omega) only [↓reduceIte, go_sem, hl, t16, adrV, adrC] <;> repeat with_reducible refine And.intro (by first | omega | decide) ?_
    refine (c_abatisref04_Four 4 l hl hle).on (go 200 (fun _ => false) mixed ?_)
    simp (disch := omega) only [↓reduceIte, go_sem] <;> repeat with_reducible refine And.intro (by first | omega | decide) ?_
    refine (c_abatisref02_Print _ (fourL_le hle)).on (go 200 (fun _ => false) mixed ?_)
    simp (disch := omega) only [↓reduceIte, go_sem] <;> repeat with_reducible refine And.intro (by first | omega | decide) ?_
    exact fin_drop (.inr rfl) hb rfl (by simp)
  by_cases h6 : f = 6
  · subst h6
    simp (disch := omega) only [↓reduceIte, go_sem, hl, t16, adrV, adrC] <;> repeat with_reducible refine And.intro (by first | omega | decide) ?_
    refine (c_abatisref04_Groups 6 l hl hle).on (go 200 (fun _ => false) mixed ?_)
    simp (disch := omega) only [↓reduceIte, go_sem] <;> repeat with_reducible refine And.intro (by first | omega | decide) ?_
    refine (c_abatisref03_Print (of6 l) (of6_len l 8 (by omega)) (of6_le l hle)).on (go 200 (fun _ => false) mixed ?_)
    simp (disch := omega) only [↓reduceIte, go_sem] <;> repeat with_reducible refine And.intro (by first | omega | decide) ?_
    exact fin_drop (.inr rfl) hb rfl (by simp)
  · simp (disch := omega) only [↓reduceIte, go_sem, hl, t16, adrV, adrC, h4, h6] <;> repeat with_reducible refine And.intro (by first | omega | decide) ?_
    exact fin_drop (.inr rfl) hb rfl (by simp)

/-! Plain laws. -/
theorem z12_le : ∀ b ∈ z12, b ≤ 255 := by decide
theorem pre12_le : ∀ b ∈ pre12, b ≤ 255 := by decide
theorem print6_len4 (gs : List Nat) (hl : gs.length = 8) (hle : ∀ g ∈ gs, g ≤ 65535) : (print6 gs).length ≤ 100 := by
  unfold print6
  split
  · have l6 := mem_get hle 6
    have l7 := mem_get hle 7
    have := printF_len (gs.getD 6 0 * 65536 + gs.getD 7 0) (by omega)
    simp only [List.length_append, List.length_cons, List.length_nil]; omega
  · split
    · have := rowF_len gs hle; omega
    · have l1 := rowF_len (gs.take (runF (zeros gs)).1) (fun g hg => hle g (List.mem_of_mem_take hg))
      have l2 := rowF_len (gs.drop ((runF (zeros gs)).1 + (runF (zeros gs)).2)) (fun g hg => hle g (List.mem_of_mem_drop hg))
      rw [List.length_take] at l1
      rw [List.length_drop] at l2
      simp only [List.length_append, List.length_cons, List.length_nil]; omega
def mapP (f : Int) (l : List Nat) : Int × List Nat := if f = 4 then (6, pre12 ++ l.take 4) else (f, l)
def unmapP (f : Int) (l : List Nat) : Int × List Nat := if f = 6 ∧ l.take 12 = pre12 then (4, l.drop 12 ++ z12) else (f, l)
theorem mapA_eq (f : Int) (l : List Nat) : mapA f l = adrV (mapP f l).1 (mapP f l).2 := by unfold mapA mapP; split <;> rfl
theorem unmapA_eq (f : Int) (l : List Nat) : unmapA f l = adrV (unmapP f l).1 (unmapP f l).2 := by unfold unmapA unmapP; split <;> rfl
theorem mapP_len {f : Int} {l : List Nat} (hl : l.length = 16) : (mapP f l).2.length = 16 := by
  unfold mapP; split
  · simp [pre12, hl]
  · exact hl
theorem unmapP_len {f : Int} {l : List Nat} (hl : l.length = 16) : (unmapP f l).2.length = 16 := by
  unfold unmapP; split
  · simp [z12, hl]
  · exact hl
theorem mapP_le {f : Int} {l : List Nat} (hle : ∀ b ∈ l, b ≤ 255) : ∀ b ∈ (mapP f l).2, b ≤ 255 := by
  unfold mapP; split
  · intro b hb
    rcases List.mem_append.mp hb with h | h
    · exact pre12_le b h
    · exact hle b (List.mem_of_mem_take h)
  · exact hle
theorem unmapP_le {f : Int} {l : List Nat} (hle : ∀ b ∈ l, b ≤ 255) : ∀ b ∈ (unmapP f l).2, b ≤ 255 := by
  unfold unmapP; split
  · intro b hb
    rcases List.mem_append.mp hb with h | h
    · exact hle b (List.mem_of_mem_drop h)
    · exact z12_le b h
  · exact hle

/-- An address that is one, of any. -/
def goodP (f : Int) (l : List Nat) : Int × List Nat := if f.tmod 2 = 0 then (4, l.take 4 ++ z12) else (6, l)
theorem goodP_eq (f : Int) (l : List Nat) : (if f.tmod 2 = 0 then adrV 4 (l.take 4 ++ z12) else adrV 6 l) = adrV (goodP f l).1 (goodP f l).2 := by unfold goodP; split <;> rfl
structure GoodA (a : Int × List Nat) : Prop where
  len : a.2.length = 16
  le : ∀ b ∈ a.2, b ≤ 255
  kind : (a.1 = 4 ∧ a.2 = a.2.take 4 ++ z12) ∨ a.1 = 6
theorem goodP_good {f : Int} {l : List Nat} (hl : l.length = 16) (hle : ∀ b ∈ l, b ≤ 255) : GoodA (goodP f l) := by
  unfold goodP
  split
  · refine ⟨by simp [z12, hl], fun b hb => ?_, .inl ⟨rfl, ?_⟩⟩
    · rcases List.mem_append.mp hb with h | h
      · exact hle b (List.mem_of_mem_take h)
      · exact z12_le b h
    · obtain ⟨a0, a1, a2, a3, a4, a5, a6, a7, a8, a9, b0, b1, b2, b3, b4, b5, rfl⟩ := len16 hl
      rfl
  · exact ⟨hl, hle, .inr rfl⟩

theorem splitA_has (sep b : UInt8) (hb : b ≠ sep) : ∀ (l : List UInt8) (acc : List (List UInt8)) (cur : List UInt8), b ∈ cur ∨ b ∈ l → ∃ p ∈ splitA sep l acc cur, b ∈ p
  | [], acc, cur, h => by
    rcases h with h | h
    · exact ⟨cur, by simp [splitA], h⟩
    · cases h
  | c :: l, acc, cur, h => by
    simp only [splitA]
    split
    · rename_i hc
      rcases h with h | h
      · exact ⟨cur, splitA_mem sep l _ _ cur (by simp), h⟩
      · rcases List.mem_cons.mp h with h | h
        · exact absurd (h.trans hc) hb
        · exact splitA_has sep b hb l _ _ (.inr h)
    · rcases h with h | h
      · exact splitA_has sep b hb l _ _ (.inl (by simp [h]))
      · rcases List.mem_cons.mp h with h | h
        · exact splitA_has sep b hb l _ _ (.inl (by simp [h]))
        · exact splitA_has sep b hb l _ _ (.inr h)
theorem octs_none : ∀ (ps : List (List UInt8)), (∃ p ∈ ps, octF p = none) → octs ps = none
  | [], h => by obtain ⟨p, hp, _⟩ := h; cases hp
  | p :: ps, h => by
    rw [octs]
    obtain ⟨q, hq, hn⟩ := h
    rcases List.mem_cons.mp hq with rfl | hq
    · rw [hn]
    · cases octF p with
      | none => rfl
      | some n => rw [octs_none ps ⟨q, hq, hn⟩]; rfl
theorem strict_bad {p : List UInt8} (b : UInt8) (hb : b ≠ 46) (hd : digitV b.toNat < 0) (h : b ∈ p) : strictF p = none := by
  unfold strictF
  split
  · obtain ⟨q, hq, hbq⟩ := splitA_has 46 b hb p [] [] (.inr h)
    rw [octs_none _ ⟨q, hq, by unfold octF; rw [numF_no 10 b hd q 0 hbq]⟩]; rfl
  · rfl
theorem rowF_58 {gs : List Nat} (h : 2 ≤ gs.length) : (58 : UInt8) ∈ rowF gs := by
  match gs, h with
  | a :: b :: l, _ =>
    unfold rowF
    rw [List.map_cons, joinL_cons _ _ _ (by simp)]
    simp
theorem print6_58 {gs : List Nat} (hl : gs.length = 8) : (58 : UInt8) ∈ print6 gs := by
  unfold print6
  split
  · simp
  · split
    · exact rowF_58 (by omega)
    · simp
theorem parse_printA {a : Int × List Nat} (h : GoodA a) : parseA (printA a.1 a.2) = some a := by
  obtain ⟨f, l⟩ := a
  obtain ⟨hl, hle, hk⟩ := h
  dsimp only at hl hle hk ⊢
  rcases hk with ⟨rfl, hz⟩ | rfl
  · unfold printA parseA
    rw [if_pos rfl, strict_print _ (fourL_le hle)]
    simp only
    rw [of4_four hl hle, ← hz]
  · unfold printA parseA
    rw [if_neg (by decide), if_pos rfl, strict_bad 58 (by decide) (by decide) (print6_58 (of6_len l 8 (by omega))), parse_print _ (of6_len l 8 (by omega)) (of6_le l hle)]
    simp only [Option.map_some]
    rw [bytes6_of6 l 8 (by omega) hle]

theorem good_may {a : Int × List Nat} (h : GoodA a) : mayA a.1 a.2 = true := by
  rcases h.kind with ⟨h4, hz⟩ | h6
  · unfold mayA; rw [h4, if_neg (by decide), if_pos rfl]; exact decide_eq_true hz
  · unfold mayA; rw [h6, if_neg (by decide), if_neg (by decide)]; rfl
theorem printA_len {a : Int × List Nat} (h : GoodA a) : (printA a.1 a.2).length ≤ 100 := by
  rcases h.kind with ⟨h4, hz⟩ | h6
  · unfold printA; rw [if_pos h4]; have := printF_len _ (fourL_le h.le); omega
  · unfold printA; rw [if_neg (by rw [h6]; decide), if_pos h6]; exact print6_len4 _ (of6_len _ 8 (by rw [h.len])) (of6_le _ h.le)

theorem lives_parse : parseA [58, 58, 102, 102, 102, 102, 58, 49, 48, 46, 48, 46, 48, 46, 49] = some (6, [0, 0, 0, 0, 0, 0, 0, 0, 0, 0, 255, 255, 10, 0, 0, 1]) := by decide +kernel
theorem lives_text : printA 4 [10, 0, 0, 1, 0, 0, 0, 0, 0, 0, 0, 0, 0, 0, 0, 0] = [49, 48, 46, 48, 46, 48, 46, 49] := by decide +kernel

theorem parseAV_two (o : Option (Int × List Nat)) (h : ∀ a, o = some a → a.2.length = 16 ∧ (∀ b ∈ a.2, b ≤ 255) ∧ mayA a.1 a.2 = true) : ∃ (f : Int) (l : List Nat) (b : Bool), parseAV o = .tup [adrV f l, .bool b] ∧ l.length = 16 ∧ (∀ b ∈ l, b ≤ 255) ∧ mayA f l = true := by
  cases o with
  | none => exact ⟨0, z16, false, rfl, rfl, by decide, by decide⟩
  | some a => exact ⟨a.1, a.2, true, rfl, (h a rfl).1, (h a rfl).2.1, (h a rfl).2.2⟩
theorem parseA_good {s : List UInt8} {a : Int × List Nat} (h : parseA s = some a) : GoodA a := by
  unfold parseA at h
  cases hv : strictF s with
  | some v =>
    rw [hv] at h
    simp only [Option.some.injEq] at h
    subst h
    exact ⟨rfl, of4L_le v (strictF_le hv), .inl ⟨rfl, rfl⟩⟩
  | none =>
    rw [hv] at h
    simp only [Option.map_eq_some_iff] at h
    obtain ⟨gs, hp, rfl⟩ := h
    have h8 := parse2_len hp
    exact ⟨by show (bytes6 gs).length = 16; rw [bytes6_len]; omega, bytes6_le gs (parseF_le hp), .inr rfl⟩

end Go.Proofs.GoC
