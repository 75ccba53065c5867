/-
  The laws AddrRound, AddrMaps, AddrBits, AddrRow, AddrTexts. No claim by itself.
-/
import Derived.Test.YtolmockeplmfaaaDoorGoAddrC
namespace Go.Proofs.GoC
open Go Go.Proofs.SL
set_option linter.unusedSimpArgs false
set_option linter.unusedVariables false
set_option maxRecDepth 10000
set_option maxHeartbeats 8000000

theorem c_abatislaw04_AddrRound (f : Int) (f1 : -9223372036854775808 ≤ f) (f2 : f ≤ 9223372036854775807) (l : List Nat) (hl : l.length = 16) (hle : ∀ b ∈ l, b ≤ 255) (n : Nat) (hn : n ≤ 4294967295) (gs : List Nat) (gl : gs.length = 8) (gle : ∀ g ∈ gs, g ≤ 65535) :
    GCall 5 [adrV f l, .int .u32 n, .agg (u16s gs)] (.bool true) := by
  intro H hG
  have t8 : List.take 8 (u16s gs) = u16s gs := List.take_of_length_le (by rw [u16s_len]; omega)
  have t16 := u8s_take16 hl
  have hg := goodP_good (f := f) hl hle
  obtain ⟨⟨of, ol⟩, ho⟩ : ∃ a, a = goodP f l := ⟨_, rfl⟩
  rw [← ho] at hg
  have hpp := parse_printA hg
  have hpl := printA_len hg
  have hmay := good_may hg
  obtain ⟨ol16, ole, _⟩ := hg
  dsimp only at ol16 ole hpp hpl hmay
  have ot16 := u8s_take16 ol16
  have otu := u8s_tag16 ol16
  have n16 := u8s_tag16 (of4L_len n)
  have b16 : (bytes6 gs).length = 16 := by rw [bytes6_len]; omega
  have g16 := u8s_tag16 b16
  refine scall_of (ord := fun _ => []) (rs := [6]) Tryd.func5 rfl (by kernel_rfl) (by kernel_rfl) (by kernel_rfl) Tryd.ntmps5 fun hb hargs => go 200 (fun _ => false) mixed ?_
  simp (disch := omega) only [↓reduceIte, go_sem, hl, t16, gl, t8, adrV, adrC] <;> repeat with_reducible refine And.intro (by first | omega | decide) ?_
  refine (c_abatisref04_Good f f1 f2 l hl hle).on (go 200 (fun _ => false) mixed ?_)
  rw [goodP_eq, ← ho]
  simp (disch := omega) only [↓reduceIte, go_sem, adrV, adrC, ol16, ot16] <;> repeat with_reducible refine And.intro (by first | omega | decide) ?_
  refine (c_addr_Print of ol ol16 ole).on hG.app (go 200 (fun _ => false) mixed ?_)
  simp (disch := omega) only [↓reduceIte, go_sem] <;> repeat with_reducible refine And.intro (by first | omega | decide) ?_
  refine (c_addr_Parse (printA of ol) (by omega)).on hG.app (go 200 (fun _ => false) mixed ?_)
  rw [hpp]
  simp only [parseAV]
  simp (disch := omega) only [↓reduceIte, go_sem, adrV, adrC, ol16, ot16, hl, t16] <;> repeat with_reducible refine And.intro (by first | omega | decide) ?_
  refine ⟨_, c_addr_Print f l hl hle _ hG.app, go 200 (fun _ => false) mixed ?_⟩
  simp (disch := omega) only [↓reduceIte, go_sem, hl, t16] <;> repeat with_reducible refine And.intro (by first | omega | decide) ?_
  refine (c_abatisref04_Print f l hl hle).onq (go 200 (fun _ => false) mixed ?_)
  simp (disch := omega) only [↓reduceIte, go_sem, hl, t16, ol16, ot16, otu] <;> repeat with_reducible refine And.intro (by first | omega | decide) ?_
  refine (c_addr_May f l hl hle).onq (go 200 (fun _ => false) mixed ?_)
  simp (disch := omega) only [↓reduceIte, go_sem, hl, t16] <;> repeat with_reducible refine And.intro (by first | omega | decide) ?_
  refine (c_abatisref04_May f l hl hle).onq (go 200 (fun _ => false) mixed ?_)
  simp (disch := omega) only [↓reduceIte, go_sem, ol16, ot16] <;> repeat with_reducible refine And.intro (by first | omega | decide) ?_
  refine (c_addr_May of ol ol16 ole).onq (go 200 (fun _ => false) mixed ?_)
  rw [hmay]
  simp (disch := omega) only [↓reduceIte, go_sem] <;> repeat with_reducible refine And.intro (by first | omega | decide) ?_
  refine (c_addr_Of4 n hn).onq (go 200 (fun _ => false) mixed ?_)
  simp (disch := omega) only [↓reduceIte, go_sem] <;> repeat with_reducible refine And.intro (by first | omega | decide) ?_
  refine (c_abatisref04_Of4 n hn).onq (go 200 (fun _ => false) mixed ?_)
  simp (disch := omega) only [↓reduceIte, go_sem, adrV, adrC, n16, gl, t8] <;> repeat with_reducible refine And.intro (by first | omega | decide) ?_
  refine (c_addr_Of6 gs gl gle).onq (go 200 (fun _ => false) mixed ?_)
  simp (disch := omega) only [↓reduceIte, go_sem, gl, t8] <;> repeat with_reducible refine And.intro (by first | omega | decide) ?_
  refine (c_abatisref04_Of6 gs gl gle).onq (go 200 (fun _ => false) mixed ?_)
  simp (disch := omega) only [↓reduceIte, go_sem, adrV, adrC, g16, hl, t16] <;> repeat with_reducible refine And.intro (by first | omega | decide) ?_
  refine (c_addr_Four f l hl hle).onq (go 200 (fun _ => false) mixed ?_)
  simp (disch := omega) only [↓reduceIte, go_sem, hl, t16] <;> repeat with_reducible refine And.intro (by first | omega | decide) ?_
  refine (c_abatisref04_Four f l hl hle).onq (go 200 (fun _ => false) mixed ?_)
  simp (disch := omega) only [↓reduceIte, go_sem] <;> repeat with_reducible refine And.intro (by first | omega | decide) ?_
  refine (c_addr_Of4 n hn).onq (go 200 (fun _ => false) mixed ?_)
  simp (disch := omega) only [↓reduceIte, go_sem] <;> repeat with_reducible refine And.intro (by first | omega | decide) ?_
  refine (c_addr_Four 4 (of4L n) (of4L_len n) (of4L_le n hn)).onq (go 200 (fun _ => false) mixed ?_)
  rw [four_of4 n hn]
  simp (disch := omega) only [↓reduceIte, go_sem] <;> repeat with_reducible refine And.intro (by first | omega | decide) ?_
  refine ⟨_, c_abatislaw04_lives _ hG.app, go 200 (fun _ => false) mixed ?_⟩
  simp (disch := omega) only [↓reduceIte, go_sem] <;> repeat with_reducible refine And.intro (by first | omega | decide) ?_
  exact fin_drop (.inr rfl) hb rfl (by simp)

theorem unmap_unmap {a : Int × List Nat} (h : GoodA a) : unmapP (unmapP a.1 a.2).1 (unmapP a.1 a.2).2 = unmapP a.1 a.2 := by
  by_cases hc : a.1 = 6 ∧ a.2.take 12 = pre12
  · have e : unmapP a.1 a.2 = (4, a.2.drop 12 ++ z12) := if_pos hc
    rw [e]; rfl
  · have e : unmapP a.1 a.2 = (a.1, a.2) := if_neg hc
    rw [e]; exact e
theorem unmap_map {a : Int × List Nat} (h : GoodA a) : unmapP (mapP a.1 a.2).1 (mapP a.1 a.2).2 = unmapP a.1 a.2 := by
  obtain ⟨f, l⟩ := a
  obtain ⟨hl, hle, hk⟩ := h
  dsimp only at hl hk ⊢
  rcases hk with ⟨rfl, hz⟩ | rfl
  · obtain ⟨a0, a1, a2, a3, a4, a5, a6, a7, a8, a9, b0, b1, b2, b3, b4, b5, rfl⟩ := len16 hl
    simp only [z12, List.take_succ_cons, List.take_zero, List.cons_append, List.nil_append, List.cons.injEq, true_and, and_true] at hz
    obtain ⟨rfl, rfl, rfl, rfl, rfl, rfl, rfl, rfl, rfl, rfl, rfl, rfl⟩ := hz
    rfl
  · rfl
theorem unmap_four {a : Int × List Nat} (h4 : a.1 = 4) : (mapP a.1 a.2).1 = 6 ∧ unmapP a.1 a.2 = a := by
  obtain ⟨f, l⟩ := a
  dsimp only at h4
  subst h4
  exact ⟨rfl, rfl⟩

theorem c_abatislaw04_AddrMaps (f : Int) (f1 : -9223372036854775808 ≤ f) (f2 : f ≤ 9223372036854775807) (l : List Nat) (hl : l.length = 16) (hle : ∀ b ∈ l, b ≤ 255) :
    GCall 3 [adrV f l] (.bool true) := by
  intro H hG
  have t16 := u8s_take16 hl
  have hg := goodP_good (f := f) hl hle
  obtain ⟨⟨of, ol⟩, ho⟩ : ∃ a, a = goodP f l := ⟨_, rfl⟩
  rw [← ho] at hg
  have x1 := unmap_unmap hg
  have x2 := unmap_map hg
  have x3 := unmap_four (a := (of, ol))
  obtain ⟨ol16, ole, _⟩ := hg
  dsimp only at ol16 ole x1 x2 x3
  have ot16 := u8s_take16 ol16
  have otu := u8s_tag16 ol16
  have m16 := mapP_len (f := of) ol16
  have u16 := unmapP_len (f := of) ol16
  have mle := mapP_le (f := of) ole
  have ule := unmapP_le (f := of) ole
  obtain ⟨⟨mf, ml⟩, hm⟩ : ∃ a, a = mapP of ol := ⟨_, rfl⟩
  obtain ⟨⟨uf, ul⟩, hu⟩ : ∃ a, a = unmapP of ol := ⟨_, rfl⟩
  rw [← hm] at m16 mle x2 x3
  rw [← hu] at u16 ule x1 x2 x3
  dsimp only at m16 mle u16 ule x1 x2 x3
  have mt := u8s_take16 m16
  have ut := u8s_take16 u16
  have utu := u8s_tag16 u16
  have am16 := u8s_tag16 (mapP_len (f := f) hl)
  have au16 := u8s_tag16 (unmapP_len (f := f) hl)
  refine scall_of (ord := fun _ => []) (rs := [2]) Tryd.func3 rfl (by kernel_rfl) (by kernel_rfl) (by kernel_rfl) Tryd.ntmps3 fun hb hargs => go 200 (fun _ => false) mixed ?_
  simp (disch := omega) only [↓reduceIte, go_sem, hl, t16, adrV, adrC] <;> repeat with_reducible refine And.intro (by first | omega | decide) ?_
  refine (c_abatisref04_Good f f1 f2 l hl hle).on (go 200 (fun _ => false) mixed ?_)
  rw [goodP_eq, ← ho]
  simp (disch := omega) only [↓reduceIte, go_sem, adrV, adrC, ol16, ot16] <;> repeat with_reducible refine And.intro (by first | omega | decide) ?_
  refine (c_addr_Map of ol ol16).on (go 200 (fun _ => false) mixed ?_)
  rw [mapA_eq, ← hm]
  simp (disch := omega) only [↓reduceIte, go_sem, adrV, adrC, ol16, ot16, m16, mt] <;> repeat with_reducible refine And.intro (by first | omega | decide) ?_
  refine (c_addr_Unmap of ol ol16).on (go 200 (fun _ => false) mixed ?_)
  rw [unmapA_eq, ← hu]
  simp (disch := omega) only [↓reduceIte, go_sem, adrV, adrC, u16, ut, hl, t16] <;> repeat with_reducible refine And.intro (by first | omega | decide) ?_
  refine (c_addr_Map f l hl).onq (go 200 (fun _ => false) mixed ?_)
  simp (disch := omega) only [↓reduceIte, go_sem, hl, t16] <;> repeat with_reducible refine And.intro (by first | omega | decide) ?_
  refine (c_abatisref04_Map f l hl hle).onq (go 200 (fun _ => false) mixed ?_)
  rw [mapA_eq]
  simp (disch := omega) only [↓reduceIte, go_sem, adrV, adrC, am16, hl, t16] <;> repeat with_reducible refine And.intro (by first | omega | decide) ?_
  refine (c_addr_Unmap f l hl).onq (go 200 (fun _ => false) mixed ?_)
  simp (disch := omega) only [↓reduceIte, go_sem, hl, t16] <;> repeat with_reducible refine And.intro (by first | omega | decide) ?_
  refine (c_abatisref04_Unmap f l hl hle).onq (go 200 (fun _ => false) mixed ?_)
  rw [unmapA_eq]
  simp (disch := omega) only [↓reduceIte, go_sem, adrV, adrC, au16, u16, ut] <;> repeat with_reducible refine And.intro (by first | omega | decide) ?_
  refine (c_addr_Unmap uf ul u16).onq (go 200 (fun _ => false) mixed ?_)
  rw [unmapA_eq, x1]
  simp (disch := omega) only [↓reduceIte, go_sem, adrV, adrC, utu, u16, ut, m16, mt] <;> repeat with_reducible refine And.intro (by first | omega | decide) ?_
  refine (c_addr_Unmap mf ml m16).onq (go 200 (fun _ => false) mixed ?_)
  rw [unmapA_eq, x2]
  by_cases h4 : of = 4
  · obtain ⟨y1, y2⟩ := x3 h4
    subst y1
    obtain ⟨rfl, rfl⟩ := Prod.mk.inj y2
    simp (disch := omega) only [↓reduceIte, go_sem, adrV, adrC, utu, u16, ut, m16, mt, ol16, ot16, otu, h4] <;> repeat with_reducible refine And.intro (by first | omega | decide) ?_
    refine ⟨_, c_abatislaw04_lives _ hG.app, go 200 (fun _ => false) mixed ?_⟩
    simp (disch := omega) only [↓reduceIte, go_sem] <;> repeat with_reducible refine And.intro (by first | omega | decide) ?_
    exact fin_drop (.inr rfl) hb rfl (by simp)
  · simp (disch := omega) only [↓reduceIte, go_sem, adrV, adrC, utu, u16, ut, m16, mt, ol16, ot16, otu, h4] <;> repeat with_reducible refine And.intro (by first | omega | decide) ?_
    refine ⟨_, c_abatislaw04_lives _ hG.app, go 200 (fun _ => false) mixed ?_⟩
    simp (disch := omega) only [↓reduceIte, go_sem] <;> repeat with_reducible refine And.intro (by first | omega | decide) ?_
    exact fin_drop (.inr rfl) hb rfl (by simp)

theorem c_abatislaw04_AddrBits (f : Int) (f1 : -9223372036854775808 ≤ f) (f2 : f ≤ 9223372036854775807) (l : List Nat) (hl : l.length = 16) (hle : ∀ b ∈ l, b ≤ 255) (i : Int) (i1 : -9223372036854775808 ≤ i) (i2 : i ≤ 9223372036854775807) :
    GCall 6 [adrV f l, .int .i64 i] (.bool true) := by
  intro H hG
  have t16 := u8s_take16 hl
  refine scall_of (ord := fun _ => []) (rs := [4]) Tryd.func6 rfl (by kernel_rfl) (by kernel_rfl) (by kernel_rfl) Tryd.ntmps6 fun hb hargs => go 200 (fun _ => false) mixed ?_
  simp (disch := omega) only [↓reduceIte, go_sem, hl, t16, adrV, adrC] <;> repeat with_reducible refine And.intro (by first | omega | decide) ?_
  refine (c_addr_Bits f l hl).on (go 200 (fun _ => false) mixed ?_)
  simp (disch := omega) only [↓reduceIte, go_sem, hl, t16] <;> repeat with_reducible refine And.intro (by first | omega | decide) ?_
  refine (c_abatisref04_Bits f l hl).onq (go 200 (fun _ => false) mixed ?_)
  simp (disch := omega) only [↓reduceIte, go_sem, hl, t16] <;> repeat with_reducible refine And.intro (by first | omega | decide) ?_
  refine (c_addr_Bit f l hl hle i).onq (go 200 (fun _ => false) mixed ?_)
  simp (disch := omega) only [↓reduceIte, go_sem, hl, t16] <;> repeat with_reducible refine And.intro (by first | omega | decide) ?_
  refine (c_abatisref04_Bit f l hl hle i).onq (go 200 (fun _ => false) mixed ?_)
  simp (disch := omega) only [↓reduceIte, go_sem] <;> repeat with_reducible refine And.intro (by first | omega | decide) ?_
  refine runs_loopA (fun k : Nat => k ≤ 130) (fun k => 130 - k) [false, false, true, false, true, false, true]
    (fun k => slots 34 [.any, .any, .ptr H.length 0 0, .any, .bool false, .any, .int .i64 ((k : Int) - 1)])
    (fun _ => H ++ [some (.cells 0 (.int .i64 f :: u8s l))]) (by rfl) 0 (Nat.zero_le _) rfl rfl ?_
  intro k hk
  refine go 200 (fun _ => false) mixed ?_
  by_cases hlt : k < 130
  · have hc : (k : Int) - 1 ≤ 128 := by omega
    have e1 : IntKind.i64.wrap ((k : Int) - 1 + 1) = ((k + 1 : Nat) : Int) - 1 := by rw [w64 (by omega) (by omega)]; omega
    generalize hj : (k : Int) - 1 = j at *
    simp (disch := omega) only [↓reduceIte, go_sem, hc, hl, t16] <;> repeat with_reducible refine And.intro (by first | omega | decide) ?_
    refine (c_addr_Bit f l hl hle j).onq (go 200 (fun _ => false) mixed ?_)
    simp (disch := omega) only [↓reduceIte, go_sem, hl, t16] <;> repeat with_reducible refine And.intro (by first | omega | decide) ?_
    refine (c_abatisref04_Bit f l hl hle j).onq (go 200 (fun _ => false) mixed ?_)
    simp (disch := omega) only [↓reduceIte, go_sem, e1] <;> repeat with_reducible refine And.intro (by first | omega | decide) ?_
    exact rnd_next (k + 1) (by show k + 1 ≤ 130; omega) (by show 130 - (k + 1) < 130 - k; omega) (by rw [show ((k + 1 : Nat) : Int) - 1 = (k : Int) by omega]; rfl) rfl
  · have hc : ¬ (k : Int) - 1 ≤ 128 := by omega
    generalize (k : Int) - 1 = j at *
    simp (disch := omega) only [↓reduceIte, go_sem, hc] <;> repeat with_reducible refine And.intro (by first | omega | decide) ?_
    refine go 200 (fun _ => false) mixed ?_
    simp (disch := omega) only [↓reduceIte, go_sem] <;> repeat with_reducible refine And.intro (by first | omega | decide) ?_
    refine c_abatislaw04_lives.on hG.app (go 200 (fun _ => false) mixed ?_)
    simp (disch := omega) only [↓reduceIte, go_sem] <;> repeat with_reducible refine And.intro (by first | omega | decide) ?_
    exact fin_drop (.inr rfl) hb rfl (by simp)

/-! The row of addresses. -/
theorem cmpI_neg (a b : Int) : cmpI b a = - cmpI a b := by unfold cmpI; split <;> split <;> (try split) <;> omega
theorem cmpI_zero (a b : Int) : cmpI a b = 0 ↔ a = b := by unfold cmpI; constructor <;> intro h <;> (split at * <;> (try split at *) <;> omega)
theorem cmpB_neg : ∀ a b : List Nat, cmpB b a = - cmpB a b
  | [], [] => rfl
  | [], _ :: _ => rfl
  | _ :: _, [] => rfl
  | x :: a, y :: b => by
    have := cmpB_neg a b
    simp only [cmpB]
    by_cases h1 : x < y
    · rw [if_pos h1, if_neg (by omega), if_pos h1]; rfl
    · by_cases h2 : y < x
      · rw [if_pos h2, if_neg h1, if_pos h2]
      · rw [if_neg h2, if_neg h1, if_neg h1, if_neg h2, this]
theorem cmpB_zero : ∀ a b : List Nat, cmpB a b = 0 ↔ a = b
  | [], [] => by simp [cmpB]
  | [], _ :: _ => by simp [cmpB]
  | _ :: _, [] => by simp [cmpB]
  | x :: a, y :: b => by
    have := cmpB_zero a b
    simp only [cmpB, List.cons.injEq]
    by_cases h1 : x < y
    · rw [if_pos h1]; constructor
      · intro h; omega
      · rintro ⟨h, _⟩; omega
    · by_cases h2 : y < x
      · rw [if_neg h1, if_pos h2]; constructor
        · intro h; omega
        · rintro ⟨h, _⟩; omega
      · rw [if_neg h1, if_neg h2, this]
        exact ⟨fun h => ⟨by omega, h⟩, fun h => h.2⟩
theorem cmpB_trans : ∀ a b c : List Nat, cmpB a b ≤ 0 → cmpB b c ≤ 0 → cmpB a c ≤ 0
  | [], _, [], _, _ => by simp [cmpB]
  | [], _, _ :: _, _, _ => by simp [cmpB]
  | _ :: _, [], _, h, _ => by simp [cmpB] at h
  | _ :: _, _ :: _, [], _, h => by simp [cmpB] at h
  | x :: a, y :: b, z :: c, h1, h2 => by
    have ih := cmpB_trans a b c
    simp only [cmpB] at *
    split at h1
    · split at h2
      · rw [if_pos (by omega)]; omega
      · split at h2
        · omega
        · rw [if_pos (by omega)]; omega
    · split at h1
      · omega
      · split at h2
        · rw [if_pos (by omega)]; omega
        · split at h2
          · omega
          · rw [if_neg (by omega), if_neg (by omega)]; exact ih h1 h2
theorem cmpA_neg (f : Int) (l : List Nat) (g : Int) (m : List Nat) : cmpA g m f l = - cmpA f l g m := by
  unfold cmpA
  rw [cmpI_neg f g, cmpB_neg l m]
  split <;> split <;> omega
theorem cmpA_zero (f : Int) (l : List Nat) (g : Int) (m : List Nat) : cmpA f l g m = 0 ↔ f = g ∧ l = m := by
  have h1 := cmpI_zero f g
  have h2 := cmpB_zero l m
  unfold cmpA
  split
  · rw [h2]; exact ⟨fun h => ⟨h1.mp ‹_›, h⟩, fun h => h.2⟩
  · exact ⟨fun h => absurd h ‹_›, fun h => absurd (h1.mpr h.1) ‹_›⟩
theorem cmpA_trans (f : Int) (l : List Nat) (g : Int) (m : List Nat) (h : Int) (n : List Nat) (h1 : cmpA f l g m ≤ 0) (h2 : cmpA g m h n ≤ 0) : cmpA f l h n ≤ 0 := by
  have hB := cmpB_trans l m n
  unfold cmpA cmpI at *
  by_cases c1 : f < g
  · simp only [c1, if_true] at h1
    by_cases c2 : g < h
    · simp [show f < h by omega]
    · by_cases c3 : h < g
      · simp [c2, c3] at h2
      · simp [show f < h by omega]
  · by_cases c1' : g < f
    · simp [c1, c1'] at h1
    · by_cases c2 : g < h
      · simp [show f < h by omega]
      · by_cases c3 : h < g
        · simp [c2, c3] at h2
        · simp [c1, c1'] at h1
          simp [c2, c3] at h2
          simp [show ¬ f < h by omega, show ¬ h < f by omega]
          exact hB h1 h2
theorem cmpA_in (f : Int) (l : List Nat) (g : Int) (m : List Nat) : cmpA f l g m = -1 ∨ cmpA f l g m = 0 ∨ cmpA f l g m = 1 := by
  have hb : ∀ a b : List Nat, cmpB a b = -1 ∨ cmpB a b = 0 ∨ cmpB a b = 1 := by
    intro a
    induction a with
    | nil => intro b; cases b <;> simp [cmpB]
    | cons x a ih =>
      intro b
      cases b with
      | nil => simp [cmpB]
      | cons y b =>
        simp only [cmpB]
        split
        · omega
        · split
          · omega
          · exact ih b
  have := hb l m
  have hi : cmpI f g = -1 ∨ cmpI f g = 0 ∨ cmpI f g = 1 := by unfold cmpI; split <;> (try split) <;> omega
  unfold cmpA
  split
  · exact this
  · exact hi

theorem c_abatislaw04_AddrRow (f : Int) (f1 : -9223372036854775808 ≤ f) (f2 : f ≤ 9223372036854775807) (l : List Nat) (hl : l.length = 16) (hle : ∀ b ∈ l, b ≤ 255)
    (g : Int) (g1 : -9223372036854775808 ≤ g) (g2 : g ≤ 9223372036854775807) (m : List Nat) (hm : m.length = 16) (hme : ∀ b ∈ m, b ≤ 255)
    (h : Int) (h1 : -9223372036854775808 ≤ h) (h2 : h ≤ 9223372036854775807) (n : List Nat) (hn : n.length = 16) (hne : ∀ b ∈ n, b ≤ 255) :
    GCall 7 [adrV f l, adrV g m, adrV h n] (.bool true) := by
  intro H hG
  have lt := u8s_take16 hl; have mt := u8s_take16 hm; have nt := u8s_take16 hn
  have lu := u8s_tag16 hl; have mu := u8s_tag16 hm
  have c1 := cmpA_neg f l g m
  have c2 := cmpA_zero f l g m
  have c3 := cmpA_trans f l g m h n
  have c4 := cmpA_in f l g m
  have c5 := cmpA_in g m h n
  have c6 := cmpA_in f l h n
  by_cases hz : f = g ∧ l = m
  · obtain ⟨rfl, rfl⟩ := hz
    have hz0 : cmpA f l f l = 0 := c2.mpr ⟨rfl, rfl⟩
    refine scall_of (ord := fun _ => []) (rs := [6]) Tryd.func7 rfl (by kernel_rfl) (by kernel_rfl) (by kernel_rfl) Tryd.ntmps7 fun hb hargs => go 200 (fun _ => false) mixed ?_
    simp (disch := omega) only [↓reduceIte, go_sem, hl, lt, hm, mt, hn, nt, adrV, adrC] <;> repeat with_reducible refine And.intro (by first | omega | decide) ?_
    refine (c_addr_Compare f l hl hle f l hm hme).on (go 200 (fun _ => false) mixed ?_)
    simp (disch := omega) only [↓reduceIte, go_sem, hl, lt, hm, mt, hn, nt] <;> repeat with_reducible refine And.intro (by first | omega | decide) ?_
    refine (c_addr_Compare f l hm hme h n hn hne).on (go 200 (fun _ => false) mixed ?_)
    simp (disch := omega) only [↓reduceIte, go_sem, hl, lt, hm, mt, hn, nt] <;> repeat with_reducible refine And.intro (by first | omega | decide) ?_
    refine (c_abatisref04_Compare f l hl hle f l hm hme).on (go 200 (fun _ => false) mixed ?_)
    simp (disch := omega) only [↓reduceIte, go_sem, hl, lt, hm, mt, hn, nt] <;> repeat with_reducible refine And.intro (by first | omega | decide) ?_
    refine (c_addr_Compare f l hm hme f l hl hle).on (go 200 (fun _ => false) mixed ?_)
    simp (disch := omega) only [↓reduceIte, go_sem, hl, lt, hm, mt, lu, mu, hz0] <;> repeat with_reducible refine And.intro (by first | omega | decide) ?_
    by_cases h4 : 0 < cmpA f l h n
    · simp (disch := omega) only [↓reduceIte, go_sem, h4] <;> repeat with_reducible refine And.intro (by first | omega | decide) ?_
      refine c_abatislaw04_lives.on hG.app (go 200 (fun _ => false) mixed ?_)
      simp (disch := omega) only [↓reduceIte, go_sem] <;> repeat with_reducible refine And.intro (by first | omega | decide) ?_
      exact fin_drop (.inr rfl) hb rfl (by simp)
    have h5 := c3 (by omega) (by omega)
    simp (disch := omega) only [↓reduceIte, go_sem, h4, hl, lt, hn, nt] <;> repeat with_reducible refine And.intro (by first | omega | decide) ?_
    refine (c_addr_Compare f l hl hle h n hn hne).on (go 200 (fun _ => false) mixed ?_)
    simp (disch := omega) only [↓reduceIte, go_sem, h5] <;> repeat with_reducible refine And.intro (by first | omega | decide) ?_
    refine c_abatislaw04_lives.on hG.app (go 200 (fun _ => false) mixed ?_)
    simp (disch := omega) only [↓reduceIte, go_sem] <;> repeat with_reducible refine And.intro (by first | omega | decide) ?_
    exact fin_drop (.inr rfl) hb rfl (by simp)
  · have hz0 : ¬ cmpA f l g m = 0 := fun h => hz (c2.mp h)
    refine scall_of (ord := fun _ => []) (rs := [6]) Tryd.func7 rfl (by kernel_rfl) (by kernel_rfl) (by kernel_rfl) Tryd.ntmps7 fun hb hargs => go 200 (fun _ => false) mixed ?_
    simp (disch := omega) only [↓reduceIte, go_sem, hl, lt, hm, mt, hn, nt, adrV, adrC] <;> repeat with_reducible refine And.intro (by first | omega | decide) ?_
    refine (c_addr_Compare f l hl hle g m hm hme).on (go 200 (fun _ => false) mixed ?_)
    simp (disch := omega) only [↓reduceIte, go_sem, hl, lt, hm, mt, hn, nt] <;> repeat with_reducible refine And.intro (by first | omega | decide) ?_
    refine (c_addr_Compare g m hm hme h n hn hne).on (go 200 (fun _ => false) mixed ?_)
    simp (disch := omega) only [↓reduceIte, go_sem, hl, lt, hm, mt, hn, nt] <;> repeat with_reducible refine And.intro (by first | omega | decide) ?_
    refine (c_abatisref04_Compare f l hl hle g m hm hme).on (go 200 (fun _ => false) mixed ?_)
    have hneg : IntKind.i64.wrap (0 - cmpA f l g m) = cmpA g m f l := by rw [w64 (by omega) (by omega)]; omega
    simp (disch := omega) only [↓reduceIte, go_sem, hl, lt, hm, mt, hn, nt] <;> repeat with_reducible refine And.intro (by first | omega | decide) ?_
    refine (c_addr_Compare g m hm hme f l hl hle).on (go 200 (fun _ => false) mixed ?_)
    simp (disch := omega) only [↓reduceIte, go_sem, hl, lt, hm, mt, hneg, lu, mu, hz, hz0] <;> repeat with_reducible refine And.intro (by first | omega | decide) ?_
    by_cases h3 : 0 < cmpA f l g m
    · simp (disch := omega) only [↓reduceIte, go_sem, h3] <;> repeat with_reducible refine And.intro (by first | omega | decide) ?_
      refine c_abatislaw04_lives.on hG.app (go 200 (fun _ => false) mixed ?_)
      simp (disch := omega) only [↓reduceIte, go_sem] <;> repeat with_reducible refine And.intro (by first | omega | decide) ?_
      exact fin_drop (.inr rfl) hb rfl (by simp)
    by_cases h4 : 0 < cmpA g m h n
    · simp (disch := omega) only [↓reduceIte, go_sem, h3, h4] <;> repeat with_reducible refine And.intro (by first | omega | decide) ?_
      refine c_abatislaw04_lives.on hG.app (go 200 (fun _ => false) mixed ?_)
      simp (disch := omega) only [↓reduceIte, go_sem] <;> repeat with_reducible refine And.intro (by first | omega | decide) ?_
      exact fin_drop (.inr rfl) hb rfl (by simp)
    have h5 := c3 (by omega) (by omega)
    simp (disch := omega) only [↓reduceIte, go_sem, h3, h4, hl, lt, hn, nt] <;> repeat with_reducible refine And.intro (by first | omega | decide) ?_
    refine (c_addr_Compare f l hl hle h n hn hne).on (go 200 (fun _ => false) mixed ?_)
    simp (disch := omega) only [↓reduceIte, go_sem, h5] <;> repeat with_reducible refine And.intro (by first | omega | decide) ?_
    refine c_abatislaw04_lives.on hG.app (go 200 (fun _ => false) mixed ?_)
    simp (disch := omega) only [↓reduceIte, go_sem] <;> repeat with_reducible refine And.intro (by first | omega | decide) ?_
    exact fin_drop (.inr rfl) hb rfl (by simp)

theorem good_text {a b : Int × List Nat} (ha : GoodA a) (hb : GoodA b) : printA a.1 a.2 = printA b.1 b.2 ↔ a = b := by
  constructor
  · intro h
    have h1 := parse_printA ha
    have h2 := parse_printA hb
    rw [h, h2] at h1
    exact (Option.some.inj h1).symm
  · intro h; rw [h]

theorem c_abatislaw04_AddrTexts (f : Int) (f1 : -9223372036854775808 ≤ f) (f2 : f ≤ 9223372036854775807) (l : List Nat) (hl : l.length = 16) (hle : ∀ b ∈ l, b ≤ 255)
    (g : Int) (g1 : -9223372036854775808 ≤ g) (g2 : g ≤ 9223372036854775807) (m : List Nat) (hm : m.length = 16) (hme : ∀ b ∈ m, b ≤ 255) :
    GCall 8 [adrV f l, adrV g m] (.bool true) := by
  intro H hG
  have lt := u8s_take16 hl; have mt := u8s_take16 hm
  have hg := goodP_good (f := f) hl hle
  have hh := goodP_good (f := g) hm hme
  obtain ⟨⟨of, ol⟩, ho⟩ : ∃ a, a = goodP f l := ⟨_, rfl⟩
  obtain ⟨⟨pf, pl⟩, hp⟩ : ∃ a, a = goodP g m := ⟨_, rfl⟩
  rw [← ho] at hg
  rw [← hp] at hh
  have x1 := good_text hg hh
  have x2 := cmpA_zero of ol pf pl
  obtain ⟨o16, ole, _⟩ := hg
  obtain ⟨p16, ple, _⟩ := hh
  dsimp only at o16 ole p16 ple x1
  have ot := u8s_take16 o16; have pt := u8s_take16 p16
  have ou := u8s_tag16 o16; have pu := u8s_tag16 p16
  have key : ∀ (hz : (of = pf ∧ ol = pl) ∨ ¬ (of = pf ∧ ol = pl)), True := fun _ => trivial
  by_cases hz : of = pf ∧ ol = pl
  · obtain ⟨rfl, rfl⟩ := hz
    have hz0 : cmpA of ol of ol = 0 := x2.mpr ⟨rfl, rfl⟩
    refine scall_of (ord := fun _ => []) (rs := [4]) Tryd.func8 rfl (by kernel_rfl) (by kernel_rfl) (by kernel_rfl) Tryd.ntmps8 fun hb hargs => go 200 (fun _ => false) mixed ?_
    simp (disch := omega) only [↓reduceIte, go_sem, hl, lt, hm, mt, adrV, adrC] <;> repeat with_reducible refine And.intro (by first | omega | decide) ?_
    refine (c_abatisref04_Good f f1 f2 l hl hle).on (go 200 (fun _ => false) mixed ?_)
    rw [goodP_eq, ← ho]
    simp (disch := omega) only [↓reduceIte, go_sem, adrV, adrC, o16, ot, hm, mt] <;> repeat with_reducible refine And.intro (by first | omega | decide) ?_
    refine (c_abatisref04_Good g g1 g2 m hm hme).on (go 200 (fun _ => false) mixed ?_)
    rw [goodP_eq, ← hp]
    simp (disch := omega) only [↓reduceIte, go_sem, adrV, adrC, o16, ot, p16, pt] <;> repeat with_reducible refine And.intro (by first | omega | decide) ?_
    refine ⟨_, c_addr_Print of ol o16 ole _ hG.app, go 200 (fun _ => false) mixed ?_⟩
    simp (disch := omega) only [↓reduceIte, go_sem, o16, ot, p16, pt] <;> repeat with_reducible refine And.intro (by first | omega | decide) ?_
    refine ⟨_, c_addr_Print of ol o16 ole _ hG.app, go 200 (fun _ => false) mixed ?_⟩
    simp (disch := omega) only [↓reduceIte, go_sem, o16, ot, p16, pt, ou, pu] <;> repeat with_reducible refine And.intro (by first | omega | decide) ?_
    refine (c_addr_Compare of ol o16 ole of ol o16 ole).onq (go 200 (fun _ => false) mixed ?_)
    simp (disch := omega) only [↓reduceIte, go_sem, o16, ot, p16, pt, ou, pu, hz0] <;> repeat with_reducible refine And.intro (by first | omega | decide) ?_
    refine ⟨_, c_abatislaw04_lives _ hG.app, go 200 (fun _ => false) mixed ?_⟩
    simp (disch := omega) only [↓reduceIte, go_sem] <;> repeat with_reducible refine And.intro (by first | omega | decide) ?_
    exact fin_drop (.inr rfl) hb rfl (by simp)
  · have hz0 : ¬ cmpA of ol pf pl = 0 := fun h => hz (x2.mp h)
    have hzt : ¬ printA of ol = printA pf pl := fun h => hz (by have := x1.mp h; exact ⟨congrArg Prod.fst this, congrArg Prod.snd this⟩)
    refine scall_of (ord := fun _ => []) (rs := [4]) Tryd.func8 rfl (by kernel_rfl) (by kernel_rfl) (by kernel_rfl) Tryd.ntmps8 fun hb hargs => go 200 (fun _ => false) mixed ?_
    simp (disch := omega) only [↓reduceIte, go_sem, hl, lt, hm, mt, adrV, adrC] <;> repeat with_reducible refine And.intro (by first | omega | decide) ?_
    refine (c_abatisref04_Good f f1 f2 l hl hle).on (go 200 (fun _ => false) mixed ?_)
    rw [goodP_eq, ← ho]
    simp (disch := omega) only [↓reduceIte, go_sem, adrV, adrC, o16, ot, hm, mt] <;> repeat with_reducible refine And.intro (by first | omega | decide) ?_
    refine (c_abatisref04_Good g g1 g2 m hm hme).on (go 200 (fun _ => false) mixed ?_)
    rw [goodP_eq, ← hp]
    simp (disch := omega) only [↓reduceIte, go_sem, adrV, adrC, o16, ot, p16, pt] <;> repeat with_reducible refine And.intro (by first | omega | decide) ?_
    refine ⟨_, c_addr_Print of ol o16 ole _ hG.app, go 200 (fun _ => false) mixed ?_⟩
    simp (disch := omega) only [↓reduceIte, go_sem, o16, ot, p16, pt] <;> repeat with_reducible refine And.intro (by first | omega | decide) ?_
    refine ⟨_, c_addr_Print pf pl p16 ple _ hG.app, go 200 (fun _ => false) mixed ?_⟩
    simp (disch := omega) only [↓reduceIte, go_sem, o16, ot, p16, pt, ou, pu, hzt, hz] <;> repeat with_reducible refine And.intro (by first | omega | decide) ?_
    refine (c_addr_Compare of ol o16 ole pf pl p16 ple).onq (go 200 (fun _ => false) mixed ?_)
    simp (disch := omega) only [↓reduceIte, go_sem, o16, ot, p16, pt, ou, pu, hz0, hz] <;> repeat with_reducible refine And.intro (by first | omega | decide) ?_
    refine ⟨_, c_abatislaw04_lives _ hG.app, go 200 (fun _ => false) mixed ?_⟩
    simp (disch := omega) only [↓reduceIte, go_sem] <;> repeat with_reducible refine And.intro (by first | omega | decide) ?_
    exact fin_drop (.inr rfl) hb rfl (by simp)
end Go.Proofs.GoC
