/-
  What the functions compute: which addresses a prefix has. No claim by itself.
-/
import Derived.Test.YtipbijklplfkhaaGreatDoorGoCidrA
import Derived.Test.YtipbijklplfkhaaGreatDoorGoSixH
namespace Go.Proofs.GoC
open Go Go.Proofs.SL
set_option linter.unusedSimpArgs false
set_option linter.unusedVariables false
set_option maxRecDepth 10000
set_option maxHeartbeats 4000000

theorem maskN_nat {f : Int} {n : Nat} (h : n ≤ bitsA f) : maskN f n = n := by unfold maskN; omega
theorem mask_self {f : Int} {l : List Nat} (hl : l.length = 16) (hle : ∀ x ∈ l, x ≤ 255) {n : Nat} (h : n ≤ bitsA f) : l = maskL f l n ↔ ∀ q, n ≤ q → q < bitsA f → bt l q = false := by
  have hB := bitsA_le f
  constructor
  · intro e q h1 h2
    rw [e, maskL_bt hl hle (by omega), maskN_nat h, if_pos ⟨h1, h2⟩]
  · intro hz
    refine bt_ext hl (maskL_len hl) hle (maskL_le hle) fun q hq => ?_
    rw [maskL_bt hl hle hq, maskN_nat h]
    split
    · rename_i hc; exact hz q hc.1 hc.2
    · rfl
theorem may_bits {f : Int} {l : List Nat} (hl : l.length = 16) (hle : ∀ x ∈ l, x ≤ 255) (b : Int) : (l = maskL f l b ∧ b = maskN f b) ↔ (0 ≤ b ∧ b ≤ bitsA f ∧ ∀ q : Nat, b.toNat ≤ q → q < bitsA f → bt l q = false) := by
  have hB := bitsA_le f
  by_cases h : 0 ≤ b ∧ b ≤ bitsA f
  · obtain ⟨n, rfl⟩ : ∃ n : Nat, b = n := ⟨b.toNat, by omega⟩
    have hn : n ≤ bitsA f := by omega
    have hs := mask_self hl hle hn
    rw [maskN_nat hn]
    exact ⟨fun h' => ⟨h.1, h.2, hs.mp h'.1⟩, fun h' => ⟨hs.mpr h'.2.2, rfl⟩⟩
  · constructor
    · rintro ⟨_, e⟩
      have := maskN_le f b
      exact absurd ⟨by omega, by omega⟩ h
    · rintro ⟨h1, h2, _⟩; exact absurd ⟨h1, h2⟩ h

theorem c_abatisref05_May (f : Int) (l : List Nat) (hl : l.length = 16) (hle : ∀ b ∈ l, b ≤ 255) (b : Int) : PCall Tryz.prog 18 [preV f l b] (.bool (mayP f l b)) := by
  intro H
  have hB := bitsA_le f
  have hmb := may_bits (f := f) hl hle b
  have hbit := fun q => bitA_bt (f := f) (l := l) (q := q)
  obtain ⟨M, hM⟩ : ∃ M : Bool, M = decide (l = maskL f l b ∧ b = (maskN f b : Int)) := ⟨_, rfl⟩
  have hMt : M = true ↔ (0 ≤ b ∧ b ≤ bitsA f ∧ ∀ q : Nat, b.toNat ≤ q → q < bitsA f → bt l q = false) := by rw [hM, decide_eq_true_eq]; exact hmb
  have hMf : ¬ (0 ≤ b ∧ b ≤ bitsA f ∧ ∀ q : Nat, b.toNat ≤ q → q < bitsA f → bt l q = false) → M = false := fun h => by
    cases hMc : M with
    | false => rfl
    | true => exact absurd (hMt.mp hMc) h
  unfold mayP
  rw [← hM]
  clear hM hmb
  refine scall_of (ord := fun _ => []) (rs := [2]) Tryz.func18 rfl (by kernel_rfl) (by kernel_rfl) (by kernel_rfl) Tryz.ntmps18 fun hb hargs => go 200 (fun _ => false) mixed ?_
  simp (disch := omega) only [↓reduceIte, go_sem, hl, preV, preC] <;> repeat with_reducible refine And.intro (by first | omega | decide) ?_
  refine (c_abatisref04_May f l hl hle).on (go 200 (fun _ => false) mixed ?_)
  cases hmay : mayA f l with
  | false =>
    simp (disch := omega) only [↓reduceIte, go_sem, hl] <;> repeat with_reducible refine And.intro (by first | omega | decide) ?_
    exact fin_drop (.inr rfl) hb rfl (by simp)
  | true =>
    by_cases h0 : f = 0
    · simp (disch := omega) only [↓reduceIte, go_sem, hl, h0] <;> repeat with_reducible refine And.intro (by first | omega | decide) ?_
      exact fin_drop (.inr rfl) hb (by simp [retV]) (by simp)
    · by_cases hb0 : b < 0
      · obtain rfl := hMf (fun h => by omega)
        simp (disch := omega) only [↓reduceIte, go_sem, hl, h0, hb0] <;> repeat with_reducible refine And.intro (by first | omega | decide) ?_
        exact fin_drop (.inr rfl) hb (by simp [retV]) (by simp)
      · obtain ⟨n, rfl⟩ : ∃ n : Nat, b = n := ⟨b.toNat, by omega⟩
        simp (disch := omega) only [↓reduceIte, go_sem, hl, h0] <;> repeat with_reducible refine And.intro (by first | omega | decide) ?_
        refine (c_abatisref04_Bits f l hl).onq (go 200 (fun _ => false) mixed ?_)
        by_cases hn : bitsA f < n
        · obtain rfl := hMf (fun h => by omega)
          simp (disch := omega) only [↓reduceIte, go_sem, hl, h0, hn] <;> repeat with_reducible refine And.intro (by first | omega | decide) ?_
          exact fin_drop (.inr rfl) hb (by simp [retV]) (by simp)
        · simp (disch := omega) only [↓reduceIte, go_sem, hl, h0, hn] <;> repeat with_reducible refine And.intro (by first | omega | decide) ?_
          refine runs_loopA (fun k : Nat => n ≤ k ∧ k ≤ bitsA f ∧ ∀ q, n ≤ q → q < k → bt l q = false) (fun k => bitsA f - k) [false, true, false, false, true]
            (fun k => slots 43 [.any, .ptr H.length 0 0, .any, .any, .int .i64 k])
            (fun k => H ++ [some (.cells 0 (.int .i64 f :: (u8s l ++ [.int .i64 n])))]) (by rfl) n ⟨Nat.le_refl _, by omega, fun q h1 h2 => absurd h1 (by omega)⟩ rfl rfl ?_
          rintro k ⟨hk1, hk2, hz⟩
          refine go 200 (fun _ => false) mixed ?_
          simp (disch := omega) only [↓reduceIte, go_sem, hl] <;> repeat with_reducible refine And.intro (by first | omega | decide) ?_
          refine (c_abatisref04_Bits f l hl).on (go 200 (fun _ => false) mixed ?_)
          by_cases hlt : k < bitsA f
          · have hb1 := hbit k hlt
            simp (disch := omega) only [↓reduceIte, go_sem, hlt, hl] <;> repeat with_reducible refine And.intro (by first | omega | decide) ?_
            refine (c_abatisref04_Bit f l hl hle k).on (go 200 (fun _ => false) mixed ?_)
            rw [hb1]
            cases hbt : bt l k with
            | false =>
              simp only [Bool.toNat_false]
              simp (disch := omega) only [↓reduceIte, go_sem] <;> repeat with_reducible refine And.intro (by first | omega | decide) ?_
              refine rnd_next (k + 1) ⟨by omega, by omega, fun q h1 h2 => ?_⟩ (by show bitsA f - (k + 1) < bitsA f - k; omega) rfl rfl
              by_cases hq : q = k
              · rw [hq]; exact hbt
              · exact hz q h1 (by omega)
            | true =>
              obtain rfl := hMf (fun h => by
                have := h.2.2 k (by omega) hlt
                rw [this] at hbt; cases hbt)
              simp only [Bool.toNat_true]
              simp (disch := omega) only [↓reduceIte, go_sem] <;> repeat with_reducible refine And.intro (by first | omega | decide) ?_
              exact fin_drop (.inr rfl) hb (by simp [retV]) (by simp)
          · have hkB : k = bitsA f := by omega
            obtain rfl := hMt.mpr ⟨by omega, by omega, fun q h1 h2 => hz q (by simpa using h1) (by omega)⟩
            simp (disch := omega) only [↓reduceIte, go_sem, hlt] <;> repeat with_reducible refine And.intro (by first | omega | decide) ?_
            refine go 200 (fun _ => false) mixed ?_
            simp (disch := omega) only [↓reduceIte, go_sem] <;> repeat with_reducible refine And.intro (by first | omega | decide) ?_
            exact fin_drop (.inr rfl) hb (by simp [retV, h0]) (by simp)

/-- A prefix that may be. -/
structure GoodX (f : Int) (l : List Nat) (n : Nat) : Prop where
  good : GoodA (f, l)
  le : n ≤ bitsA f
  zero : ∀ q, n ≤ q → q < 128 → bt l q = false
theorem GoodX.len {f : Int} {l : List Nat} {n : Nat} (h : GoodX f l n) : l.length = 16 := h.good.len
theorem GoodX.bd {f : Int} {l : List Nat} {n : Nat} (h : GoodX f l n) : ∀ b ∈ l, b ≤ 255 := h.good.le
theorem GoodX.tail {f : Int} {l : List Nat} {n : Nat} (h : GoodX f l n) : Tail0 f l := good_tail h.good

theorem good_of_tail {f : Int} {l : List Nat} (hl : l.length = 16) (hle : ∀ b ∈ l, b ≤ 255) (hf : f = 4 ∨ f = 6) (ht : Tail0 f l) : GoodA (f, l) := by
  refine ⟨hl, hle, ?_⟩
  rcases hf with rfl | rfl
  · left
    refine ⟨rfl, ?_⟩
    show l = l.take 4 ++ z12
    have h16 : (l.take 4 ++ z12).length = 16 := by rw [List.length_append, List.length_take, hl]; rfl
    refine bt_ext hl h16 hle (fun b hb => ?_) fun q hq => ?_
    · rcases List.mem_append.mp hb with h | h
      · exact hle b (List.mem_of_mem_take h)
      · exact z12_le b h
    · rcases Nat.lt_or_ge q 32 with h | h
      · unfold bt
        congr 1
        rw [List.getD_eq_getElem?_getD, List.getD_eq_getElem?_getD, List.getElem?_append_left (by rw [List.length_take, hl]; omega), List.getElem?_take, if_pos (by omega)]
      · rw [ht q h hq, z12_bt _ (by rw [List.length_take, hl]; rfl) h hq]
  · exact .inr rfl

theorem mask_good {a : Int × List Nat} (h : GoodA a) (b : Int) : GoodX a.1 (maskL a.1 a.2 b) (maskN a.1 b) := by
  have ht : Tail0 a.1 (maskL a.1 a.2 b) := fill_tail h.len h.le (good_tail h) _ _
  refine ⟨good_of_tail (maskL_len h.len) (maskL_le h.le) (by rcases h.kind with h | h; exact .inl h.1; exact .inr h) ht, maskN_le _ _, fun q h1 h2 => ?_⟩
  rcases Nat.lt_or_ge q (bitsA a.1) with hq | hq
  · rw [maskL_bt h.len h.le h2, if_pos ⟨h1, hq⟩]
  · exact ht q hq h2
theorem good_mayP {f : Int} {l : List Nat} {n : Nat} (h : GoodX f l n) : mayP f l n = true := by
  have hB := bitsA_le f
  unfold mayP
  have h1 : mayA f l = true := good_may h.good
  have h2 : ¬ f = 0 := by rcases h.good.kind with h | h <;> (dsimp only at h; omega)
  have h3 : l = maskL f l n ∧ (n : Int) = maskN f n := (may_bits h.len h.bd n).mpr ⟨by omega, by have := h.le; omega, fun q q1 q2 => h.zero q (by simpa using q1) (by omega)⟩
  rw [h1, decide_eq_false h2, decide_eq_true h3]; rfl

/-- A prefix that may be, of any. -/
def goodX (f : Int) (l : List Nat) (b : Int) : Int × List Nat × Nat :=
  let a := goodP f l
  let n := aroundF b (bitsA a.1 + 1)
  (a.1, maskL a.1 a.2 n, n)
theorem goodX_good {f : Int} {l : List Nat} (hl : l.length = 16) (hle : ∀ b ∈ l, b ≤ 255) (b : Int) : GoodX (goodX f l b).1 (goodX f l b).2.1 (goodX f l b).2.2 := by
  have hg := goodP_good (f := f) hl hle
  have hn := aroundF_lt b (m := bitsA (goodP f l).1 + 1) (by omega)
  have := mask_good hg (aroundF b (bitsA (goodP f l).1 + 1) : Nat)
  rw [maskN_nat (by omega)] at this
  exact this

theorem c_abatisref05_Good (f : Int) (f1 : -9223372036854775808 ≤ f) (f2 : f ≤ 9223372036854775807) (l : List Nat) (hl : l.length = 16) (hle : ∀ b ∈ l, b ≤ 255) (b : Int) (b1 : -9223372036854775808 ≤ b) (b2 : b ≤ 9223372036854775807) :
    PCall Tryz.prog 7 [preV f l b] (preV (goodX f l b).1 (goodX f l b).2.1 (goodX f l b).2.2) := by
  intro H
  have hg := goodP_good (f := f) hl hle
  have hgx := goodX_good (f := f) hl hle b
  have hx : goodX f l b = ((goodP f l).1, maskL (goodP f l).1 (goodP f l).2 (aroundF b (bitsA (goodP f l).1 + 1) : Nat), aroundF b (bitsA (goodP f l).1 + 1)) := rfl
  rw [hx] at hgx ⊢
  have hn := aroundF_lt b (m := bitsA (goodP f l).1 + 1) (by omega)
  obtain ⟨⟨g, m⟩, hgp⟩ : ∃ a, a = goodP f l := ⟨_, rfl⟩
  rw [← hgp] at hg hgx hn ⊢
  have hB := bitsA_le g
  have ml := hg.len; have mle := hg.le; have mt := good_tail hg
  dsimp only at ml mle mt hgx hn ⊢
  have xl := hgx.len
  refine scall_ofc (ord := fun _ => []) (tdOf_ok _) (rs := [.cell 2 26]) Tryz.func7 rfl (by kernel_rfl) (by kernel_rfl) (by kernel_rfl) Tryz.ntmps7 fun hb hargs => go 200 (fun _ => false) mixed ?_
  simp (disch := omega) only [↓reduceIte, go_sem, hl, preV, preC] <;> repeat with_reducible refine And.intro (by first | omega | decide) ?_
  refine (c_abatisref04_Good f f1 f2 l hl hle).on (go 200 (fun _ => false) mixed ?_)
  rw [goodP_eq, ← hgp]
  simp (disch := omega) only [↓reduceIte, go_sem, adrV, adrC, ml, hl] <;> repeat with_reducible refine And.intro (by first | omega | decide) ?_
  refine (c_abatisref04_Bits g m ml).onq (go 200 (fun _ => false) mixed ?_)
  simp (disch := omega) only [↓reduceIte, go_sem, hl] <;> repeat with_reducible refine And.intro (by first | omega | decide) ?_
  refine (c_abatisref01_Around b b1 b2 (bitsA g + 1) (by omega)).onq (go 200 (fun _ => false) mixed ?_)
  generalize aroundF b (bitsA g + 1) = n at *
  simp (disch := omega) only [↓reduceIte, go_sem, ml] <;> repeat with_reducible refine And.intro (by first | omega | decide) ?_
  refine (c_abatisref05_Mask g m ml mle mt n).onq (go 200 (fun _ => false) mixed ?_)
  rw [maskN_nat (by omega)]
  simp (disch := omega) only [↓reduceIte, go_sem, preV, preC, xl] <;> repeat with_reducible refine And.intro (by first | omega | decide) ?_
  refine fin_c (.inr rfl) hb ?_ bdd_pre
  simp (disch := omega) only [↓reduceIte, go_sem, xl, preC] <;> repeat with_reducible refine And.intro (by first | omega | decide) ?_
end Go.Proofs.GoC
