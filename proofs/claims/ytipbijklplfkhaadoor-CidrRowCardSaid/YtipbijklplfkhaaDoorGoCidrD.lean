/-
  The laws of layer 5. No claim by itself.
-/
import Derived.Test.YtipbijklplfkhaaDoorGoCidrC
import Derived.Test.YtipbijklplfkhaaDoorGoAddrD
namespace Go.Proofs.GoC
open Go Go.Proofs.SL
set_option linter.unusedSimpArgs false
set_option linter.unusedVariables false
set_option maxRecDepth 10000
set_option maxHeartbeats 8000000

@[go_sem] theorem drop16c {l : List Nat} (h : l.length = 16) : List.drop 16 (u8s l) = [] := List.drop_eq_nil_of_le (by rw [u8s_len]; omega)

theorem lt_of_bit {a b j : Nat} (h : ∀ i, j < i → a.testBit i = b.testBit i) (ha : a.testBit j = false) (hb : b.testBit j = true) : a < b := by
  have e : a / 2 ^ (j + 1) = b / 2 ^ (j + 1) := Nat.eq_of_testBit_eq fun i => by
    rw [Nat.testBit_div_two_pow, Nat.testBit_div_two_pow]; exact h _ (by omega)
  rw [Nat.testBit_eq_decide_div_mod_eq] at ha hb
  simp only [decide_eq_false_iff_not, decide_eq_true_eq] at ha hb
  rw [Nat.pow_succ, ← Nat.div_div_eq_div_mul, ← Nat.div_div_eq_div_mul] at e
  rcases Nat.lt_or_ge a b with h | h
  · exact h
  · have := Nat.div_le_div_right (c := 2 ^ j) h
    omega
theorem cmpB_first : ∀ (k : Nat) (l m : List Nat), k < l.length → k < m.length → (∀ i, i < k → l.getD i 0 = m.getD i 0) → l.getD k 0 < m.getD k 0 → cmpB l m = -1
  | _, [], _, h, _, _, _ => by simp at h
  | _, _ :: _, [], _, h, _, _ => by simp at h
  | 0, a :: l, b :: m, _, _, _, h => by simp only [List.getD_cons_zero] at h; simp only [cmpB, if_pos h]
  | k + 1, a :: l, b :: m, h1, h2, he, h => by
    have h0 := he 0 (by omega)
    simp only [List.getD_cons_zero] at h0
    subst h0
    simp only [cmpB, Nat.lt_irrefl, if_false]
    exact cmpB_first k l m (by simpa using h1) (by simpa using h2) (fun i hi => by simpa using he (i + 1) (by omega)) (by simpa using h)
theorem cmpB_bit {l m : List Nat} (hl : l.length = 16) (hm : m.length = 16) (hle : ∀ b ∈ l, b ≤ 255) (hme : ∀ b ∈ m, b ≤ 255) {q : Nat} (hq : q < 128) (he : ∀ i, i < q → bt l i = bt m i) (h1 : bt l q = false) (h2 : bt m q = true) : cmpB l m = -1 := by
  refine cmpB_first (q / 8) l m (by omega) (by omega) (fun i hi => ?_) ?_
  · refine byte_ext (mem_get8 hle i) (mem_get8 hme i) fun j hj => ?_
    have := he (8 * i + (7 - j)) (by omega)
    unfold bt at this
    rw [show (8 * i + (7 - j)) / 8 = i by omega, show 7 - (8 * i + (7 - j)) % 8 = j by omega] at this
    exact this
  · refine lt_of_bit (j := 7 - q % 8) (fun i hi => ?_) h1 h2
    rcases Nat.lt_or_ge i 8 with h8 | h8
    · have := he (8 * (q / 8) + (7 - i)) (by omega)
      unfold bt at this
      rw [show (8 * (q / 8) + (7 - i)) / 8 = q / 8 by omega, show 7 - (8 * (q / 8) + (7 - i)) % 8 = i by omega] at this
      exact this
    · have h2 : (2 : Nat) ^ 8 ≤ 2 ^ i := Nat.pow_le_pow_right (by omega) h8
      have a1 := mem_get8 hle (q / 8)
      have a2 := mem_get8 hme (q / 8)
      rw [Nat.testBit_lt_two_pow (by omega), Nat.testBit_lt_two_pow (by omega)]
/-- Bytes are the same, or there is a first bit at which they part. -/
theorem bt_part {l m : List Nat} (hl : l.length = 16) (hm : m.length = 16) (hle : ∀ b ∈ l, b ≤ 255) (hme : ∀ b ∈ m, b ≤ 255) : l = m ∨ ∃ q, q < 128 ∧ (∀ i, i < q → bt l i = bt m i) ∧ bt l q ≠ bt m q := by
  by_cases h : ∀ q, q < 128 → bt l q = bt m q
  · exact .inl (bt_ext hl hm hle hme h)
  · right
    have key : ∀ n, (∃ q, q < n ∧ bt l q ≠ bt m q) → ∃ q, q < n ∧ (∀ i, i < q → bt l i = bt m i) ∧ bt l q ≠ bt m q := by
      intro n
      induction n with
      | zero => rintro ⟨q, hq, _⟩; omega
      | succ n ih =>
        rintro ⟨q, hq, hne⟩
        by_cases h2 : ∃ q, q < n ∧ bt l q ≠ bt m q
        · obtain ⟨q', a, b, c⟩ := ih h2
          exact ⟨q', by omega, b, c⟩
        · refine ⟨q, hq, fun i hi => ?_, hne⟩
          by_cases h3 : bt l i = bt m i
          · exact h3
          · exact absurd ⟨i, by omega, h3⟩ h2
    have : ∃ q, q < 128 ∧ bt l q ≠ bt m q := by
      by_cases h3 : ∃ q, q < 128 ∧ bt l q ≠ bt m q
      · exact h3
      · exact absurd (fun q hq => by
          by_cases h4 : bt l q = bt m q
          · exact h4
          · exact absurd ⟨q, hq, h4⟩ h3) h
    exact key 128 this

theorem fill_good {f : Int} {l : List Nat} {n : Nat} (h : GoodX f l n) (v : Bool) : GoodA (f, fillF l n v (bitsA f)) :=
  good_of_tail ((fillF_len l n v _).trans h.len) (fillF_le h.bd n v _) (by rcases h.good.kind with h | h; exact .inl h.1; exact .inr h) (fill_tail h.len h.bd h.tail n v)
theorem fill_in {f : Int} {l : List Nat} {n : Nat} (h : GoodX f l n) (v : Bool) {q : Nat} (hq : q < 128) : bt (fillF l n v (bitsA f)) q = if n ≤ q ∧ q < bitsA f then v else bt l q := fillF_bt h.len h.bd n v hq _ (bitsA_le f)
theorem fill_has {f : Int} {l : List Nat} {n : Nat} (h : GoodX f l n) (v : Bool) : hasP f l n f (fillF l n v (bitsA f)) = true := by
  have hB := bitsA_le f
  have := h.le
  refine (has_bits h (fill_good h v)).mpr ⟨rfl, fun q hq => ?_⟩
  rw [fill_in h v (by omega), if_neg (by omega)]

/-- Whatever a prefix has stands from its first address to its last one, and nothing else does. -/
theorem has_between {f : Int} {l : List Nat} {n : Nat} (h : GoodX f l n) {g : Int} {m : List Nat} (hm : GoodA (g, m)) :
    hasP f l n g m = true ↔ (g = f ∧ cmpA f (fillF l n false (bitsA f)) g m ≤ 0 ∧ cmpA g m f (fillF l n true (bitsA f)) ≤ 0) := by
  have hB := bitsA_le f
  have hn := h.le
  rw [has_bits h hm]
  have g0 := fill_good h false
  have g1 := fill_good h true
  have i0 := fun q (hq : q < 128) => fill_in h false hq
  have i1 := fun q (hq : q < 128) => fill_in h true hq
  have ca : ∀ a b : List Nat, cmpA f a f b = cmpB a b := fun a b => by simp [cmpA, cmpI]
  constructor
  · rintro ⟨rfl, hq⟩
    refine ⟨rfl, ?_, ?_⟩
    · rw [ca]
      rcases bt_part g0.len hm.len g0.le hm.le with e | ⟨q, h1, h2, h3⟩
      · rw [show fillF l n false (bitsA g) = m from e, (cmpB_zero m m).mpr rfl]; omega
      · have hz : bt (fillF l n false (bitsA g)) q = false := by
          rw [i0 q h1]
          split
          · rfl
          · rename_i hc
            by_cases hqn : q < n
            · exact absurd (by rw [i0 q h1, if_neg hc, hq q hqn]) h3
            · exact h.zero q (by omega) h1
        have hmq : bt m q = true := by
          cases hx : bt m q with
          | true => rfl
          | false => exact absurd (hz.trans hx.symm) h3
        rw [cmpB_bit g0.len hm.len g0.le hm.le h1 h2 hz hmq]; omega
    · rw [ca]
      rcases bt_part hm.len g1.len hm.le g1.le with e | ⟨q, h1, h2, h3⟩
      · rw [show m = fillF l n true (bitsA g) from e, (cmpB_zero _ _).mpr rfl]; omega
      · have hqn : ¬ q < n := fun hqn => h3 (by show bt m q = bt (fillF l n true (bitsA g)) q; rw [i1 q h1, if_neg (by omega), hq q hqn])
        by_cases hqB : q < bitsA g
        · have hz : bt (fillF l n true (bitsA g)) q = true := by rw [i1 q h1, if_pos ⟨by omega, hqB⟩]
          have hmq : bt m q = false := by
            cases hx : bt m q with
            | false => rfl
            | true => exact absurd (hx.trans hz.symm) h3
          rw [cmpB_bit hm.len g1.len hm.le g1.le h1 h2 hmq hz]; omega
        · have t1 : bt m q = false := good_tail hm q (by show bitsA g ≤ q; omega) h1
          have t2 : bt (fillF l n true (bitsA g)) q = false := good_tail g1 q (by show bitsA g ≤ q; omega) h1
          exact absurd (t1.trans t2.symm) h3
  · rintro ⟨rfl, c0, c1⟩
    refine ⟨rfl, ?_⟩
    rw [ca] at c0 c1
    have hno : ¬ ∃ q, q < n ∧ bt m q ≠ bt l q := by
      rintro ⟨q0, hq0, hne0⟩
      rcases bt_part hm.len g0.len hm.le g0.le with e | ⟨q, h1, h2, h3⟩
      · apply hne0
        rw [show m = fillF l n false (bitsA g) from e, i0 q0 (by omega), if_neg (by omega)]
      · have hqn : q < n := by
          rcases Nat.lt_or_ge q n with h' | h'
          · exact h'
          · have := h2 q0 (by omega)
            dsimp only at this
            rw [i0 q0 (by omega), if_neg (by omega)] at this
            exact absurd this hne0
        have e0 : bt (fillF l n false (bitsA g)) q = bt l q := by rw [i0 q h1, if_neg (by omega)]
        have e1 : bt (fillF l n true (bitsA g)) q = bt l q := by rw [i1 q h1, if_neg (by omega)]
        dsimp only at h3
        rw [e0] at h3
        cases hl : bt l q with
        | true =>
          have hmq : bt m q = false := by
            cases hx : bt m q with
            | false => rfl
            | true => exact absurd (hx.trans hl.symm) h3
          have := cmpB_bit hm.len g0.len hm.le g0.le h1 h2 hmq (e0.trans hl)
          have h4 := cmpB_neg (fillF l n false (bitsA g)) m
          dsimp only at this
          omega
        | false =>
          have hmq : bt m q = true := by
            cases hx : bt m q with
            | true => rfl
            | false => exact absurd (hx.trans hl.symm) h3
          have h2' : ∀ i, i < q → bt (fillF l n true (bitsA g)) i = bt m i := fun i hi => by
            have := h2 i hi
            dsimp only at this
            rw [this, i0 i (by omega), i1 i (by omega), if_neg (by omega), if_neg (by omega)]
          have := cmpB_bit g1.len hm.len g1.le hm.le h1 h2' (e1.trans hl) hmq
          have h4 := cmpB_neg (fillF l n true (bitsA g)) m
          dsimp only at this
          omega
    intro q hq
    by_cases h' : bt m q = bt l q
    · exact h'
    · exact absurd ⟨q, hq, h'⟩ hno

/-- A prefix within another one. -/
theorem within_bits {f : Int} {l : List Nat} {n : Nat} (h : GoodX f l n) {g : Int} {m : List Nat} {k : Nat} (h' : GoodX g m k) :
    (decide (k ≤ n) && hasP g m k f l) = true ↔ (k ≤ n ∧ f = g ∧ ∀ q, q < k → bt l q = bt m q) := by
  rw [Bool.and_eq_true, decide_eq_true_eq, has_bits h' h.good]
theorem within_both {f : Int} {l : List Nat} {n : Nat} (h : GoodX f l n) {g : Int} {m : List Nat} {k : Nat} (h' : GoodX g m k) :
    (decide (k ≤ n) && hasP g m k f l) = (hasP g m k f (fillF l n false (bitsA f)) && hasP g m k f (fillF l n true (bitsA f))) := by
  have hB := bitsA_le f
  rw [Bool.eq_iff_iff, within_bits h h', Bool.and_eq_true, has_bits h' (fill_good h false), has_bits h' (fill_good h true)]
  have i0 := fun q (hq : q < 128) => fill_in h false hq
  have i1 := fun q (hq : q < 128) => fill_in h true hq
  have hn := h.le
  have hk := h'.le
  constructor
  · rintro ⟨hkn, rfl, hq⟩
    refine ⟨⟨rfl, fun q hqk => ?_⟩, rfl, fun q hqk => ?_⟩
    · rw [i0 q (by omega), if_neg (by omega)]; exact hq q hqk
    · rw [i1 q (by omega), if_neg (by omega)]; exact hq q hqk
  · rintro ⟨⟨rfl, h0⟩, _, h1⟩
    have hkn : k ≤ n := by
      rcases Nat.lt_or_ge n k with hlt | hge
      · have a0 := h0 n hlt
        have a1 := h1 n hlt
        rw [i0 n (by omega), if_pos ⟨Nat.le_refl _, by omega⟩] at a0
        rw [i1 n (by omega), if_pos ⟨Nat.le_refl _, by omega⟩, ← a0] at a1
        cases a1
      · exact hge
    refine ⟨hkn, rfl, fun q hq => ?_⟩
    have := h0 q hq
    rwa [i0 q (by omega), if_neg (by omega)] at this
theorem within_self {f : Int} {l : List Nat} {n : Nat} (h : GoodX f l n) : (decide (n ≤ n) && hasP f l n f l) = true := (within_bits h h).mpr ⟨Nat.le_refl _, rfl, fun _ _ => rfl⟩
theorem within_anti {f : Int} {l : List Nat} {n : Nat} (h : GoodX f l n) {g : Int} {m : List Nat} {k : Nat} (h' : GoodX g m k)
    (a : (decide (k ≤ n) && hasP g m k f l) = true) (b : (decide (n ≤ k) && hasP f l n g m) = true) : f = g ∧ l = m ∧ n = k := by
  obtain ⟨a1, rfl, a3⟩ := (within_bits h h').mp a
  obtain ⟨b1, _, b3⟩ := (within_bits h' h).mp b
  obtain rfl : n = k := by omega
  refine ⟨rfl, bt_ext h.len h'.len h.bd h'.bd fun q hq => ?_, rfl⟩
  by_cases hqn : q < n
  · exact a3 q hqn
  · rw [h.zero q (by omega) hq, h'.zero q (by omega) hq]

theorem c_abatislaw05_CidrMay (f : Int) (f1 : -9223372036854775808 ≤ f) (f2 : f ≤ 9223372036854775807) (l : List Nat) (hl : l.length = 16) (hle : ∀ b ∈ l, b ≤ 255) (b : Int) (b1 : -9223372036854775808 ≤ b) (b2 : b ≤ 9223372036854775807)
    (g : Int) (g1 : -9223372036854775808 ≤ g) (g2 : g ≤ 9223372036854775807) (m : List Nat) (hm : m.length = 16) (hme : ∀ b ∈ m, b ≤ 255) (c : Int) (c1 : -9223372036854775808 ≤ c) (c2 : c ≤ 9223372036854775807) :
    GCall 3 [preV f l b, adrV g m, .int .i64 c] (.bool true) := by
  intro H hG
  have hx := goodX_good (f := f) hl hle b
  have hg := goodP_good (f := g) hm hme
  obtain ⟨⟨g', m'⟩, hgp⟩ : ∃ a, a = goodP g m := ⟨_, rfl⟩
  obtain ⟨⟨f', l', n'⟩, hxp⟩ : ∃ a, a = goodX f l b := ⟨_, rfl⟩
  rw [← hxp] at hx
  rw [← hgp] at hg
  have hmg := mask_good hg c
  dsimp only at hx hmg
  have xm := good_mayP hx
  have mm := good_mayP hmg
  have ml := hg.len; have mle := hg.le; have mt := good_tail hg
  dsimp only at ml mle mt
  have xl := hx.len; have kl := hmg.len; have kle := hmg.bd
  refine scall_of (ord := fun _ => []) (rs := [6]) Tryd.func3 rfl (by kernel_rfl) (by kernel_rfl) (by kernel_rfl) Tryd.ntmps3 fun hb hargs => go 200 (fun _ => false) mixed ?_
  simp (disch := omega) only [↓reduceIte, go_sem, hl, hm, preV, preC, adrV, adrC] <;> repeat with_reducible refine And.intro (by first | omega | decide) ?_
  refine (c_abatisref04_Good g g1 g2 m hm hme).on (go 200 (fun _ => false) mixed ?_)
  rw [goodP_eq, ← hgp]
  simp (disch := omega) only [↓reduceIte, go_sem, adrV, adrC, ml, hm] <;> repeat with_reducible refine And.intro (by first | omega | decide) ?_
  refine (c_cidr_Mask g' m' ml mle c).on (go 200 (fun _ => false) mixed ?_)
  simp (disch := omega) only [↓reduceIte, go_sem, preV, preC, kl, hl] <;> repeat with_reducible refine And.intro (by first | omega | decide) ?_
  refine (c_cidr_May f l hl hle b).onq (go 200 (fun _ => false) mixed ?_)
  simp (disch := omega) only [↓reduceIte, go_sem, hl] <;> repeat with_reducible refine And.intro (by first | omega | decide) ?_
  refine (c_abatisref05_May f l hl hle b).onq (go 200 (fun _ => false) mixed ?_)
  simp (disch := omega) only [↓reduceIte, go_sem, kl, ml] <;> repeat with_reducible refine And.intro (by first | omega | decide) ?_
  refine (c_abatisref05_Mask g' m' ml mle mt c).onq (go 200 (fun _ => false) mixed ?_)
  simp (disch := omega) only [↓reduceIte, go_sem, preV, preC, kl] <;> repeat with_reducible refine And.intro (by first | omega | decide) ?_
  refine (c_cidr_May g' (maskL g' m' c) kl kle (maskN g' c : Nat)).onq (go 200 (fun _ => false) mixed ?_)
  rw [mm]
  simp (disch := omega) only [↓reduceIte, go_sem, hl] <;> repeat with_reducible refine And.intro (by first | omega | decide) ?_
  refine (c_abatisref05_Good f f1 f2 l hl hle b b1 b2).onq (go 200 (fun _ => false) mixed ?_)
  rw [← hxp]
  simp (disch := omega) only [↓reduceIte, go_sem, preV, preC] <;> repeat with_reducible refine And.intro (by first | omega | decide) ?_
  refine (c_cidr_May f' l' xl hx.bd n').onq (go 200 (fun _ => false) mixed ?_)
  rw [xm]
  simp (disch := omega) only [↓reduceIte, go_sem] <;> repeat with_reducible refine And.intro (by first | omega | decide) ?_
  refine ⟨_, c_abatislaw05_lives _ hG.app, go 200 (fun _ => false) mixed ?_⟩
  simp (disch := omega) only [↓reduceIte, go_sem] <;> repeat with_reducible refine And.intro (by first | omega | decide) ?_
  exact fin_drop (.inr rfl) hb rfl (by simp)

theorem c_abatislaw05_CidrWithin (f : Int) (f1 : -9223372036854775808 ≤ f) (f2 : f ≤ 9223372036854775807) (l : List Nat) (hl : l.length = 16) (hle : ∀ b ∈ l, b ≤ 255) (b : Int) (b1 : -9223372036854775808 ≤ b) (b2 : b ≤ 9223372036854775807)
    (g : Int) (g1 : -9223372036854775808 ≤ g) (g2 : g ≤ 9223372036854775807) (m : List Nat) (hm : m.length = 16) (hme : ∀ b ∈ m, b ≤ 255) (c : Int) (c1 : -9223372036854775808 ≤ c) (c2 : c ≤ 9223372036854775807) :
    GCall 4 [preV f l b, preV g m c] (.bool true) := by
  intro H hG
  have hx := goodX_good (f := f) hl hle b
  have hy := goodX_good (f := g) hm hme c
  have hxe := c_abatisref05_Good f f1 f2 l hl hle b b1 b2
  have hye := c_abatisref05_Good g g1 g2 m hm hme c c1 c2
  generalize (goodX f l b).1 = x at *
  generalize (goodX f l b).2.1 = xl at *
  generalize (goodX f l b).2.2 = xn at *
  generalize (goodX g m c).1 = y at *
  generalize (goodX g m c).2.1 = yl at *
  generalize (goodX g m c).2.2 = yn at *
  have lx := hx.len; have ly := hy.len; have lex := hx.bd; have ley := hy.bd
  have bx := bitsA_le x; have by' := bitsA_le y
  have nx := hx.le; have ny := hy.le
  have g0 := fill_good hx false; have g1' := fill_good hx true
  have l0 := g0.len; have l1 := g1'.len
  dsimp only at l0 l1
  have wb := within_both hx hy
  have ws := within_self hx
  have wa := within_anti hx hy
  refine scall_of (ord := fun _ => []) (rs := [4]) Tryd.func4 rfl (by kernel_rfl) (by kernel_rfl) (by kernel_rfl) Tryd.ntmps4 fun hb hargs => go 200 (fun _ => false) mixed ?_
  simp (disch := omega) only [↓reduceIte, go_sem, hl, hm, preV, preC] <;> repeat with_reducible refine And.intro (by first | omega | decide) ?_
  refine hxe.on (go 200 (fun _ => false) mixed ?_)
  simp (disch := omega) only [↓reduceIte, go_sem, preV, preC, lx, hl, hm] <;> repeat with_reducible refine And.intro (by first | omega | decide) ?_
  refine hye.on (go 200 (fun _ => false) mixed ?_)
  simp (disch := omega) only [↓reduceIte, go_sem, preV, preC, lx, ly, hm] <;> repeat with_reducible refine And.intro (by first | omega | decide) ?_
  refine (c_abatisref05_With x xl lx lex hx.tail xn (by omega) false).onq (go 200 (fun _ => false) mixed ?_)
  simp (disch := omega) only [↓reduceIte, go_sem, adrV, adrC, l0] <;> repeat with_reducible refine And.intro (by first | omega | decide) ?_
  refine (c_abatisref05_Has y yl ly ley yn ny x (fillF xl xn false (bitsA x)) l0 g0.le (hasP y yl yn x (fillF xl xn false (bitsA x))) (has_bits hy g0)).onq (go 200 (fun _ => false) mixed ?_)
  have hh1 := c_abatisref05_Has y yl ly ley yn ny x (fillF xl xn true (bitsA x)) l1 g1'.le (hasP y yl yn x (fillF xl xn true (bitsA x))) (has_bits hy g1')
  generalize hasP y yl yn x (fillF xl xn false (bitsA x)) = P0 at *
  generalize hasP y yl yn x (fillF xl xn true (bitsA x)) = P1 at *
  cases P0 with
  | false =>
    have hW : (decide (yn ≤ xn) && hasP y yl (yn : Int) x xl) = false := wb
    simp (disch := omega) only [↓reduceIte, go_sem, preV, preC, lx, ly] <;> repeat with_reducible refine And.intro (by first | omega | decide) ?_
    refine (c_cidr_Within x xl lx lex xn y yl ly yn).on (go 200 (fun _ => false) mixed ?_)
    rw [hW]
    simp (disch := omega) only [↓reduceIte, go_sem, preV, preC, lx, ly] <;> repeat with_reducible refine And.intro (by first | omega | decide) ?_
    refine (c_cidr_Within x xl lx lex xn x xl lx xn).on (go 200 (fun _ => false) mixed ?_)
    rw [ws]
    simp (disch := omega) only [↓reduceIte, go_sem, preV, preC, lx, ly] <;> repeat with_reducible refine And.intro (by first | omega | decide) ?_
    refine (c_cidr_Within x xl lx lex xn y yl ly yn).on (go 200 (fun _ => false) mixed ?_)
    rw [hW]
    simp (disch := omega) only [↓reduceIte, go_sem] <;> repeat with_reducible refine And.intro (by first | omega | decide) ?_
    refine c_abatislaw05_lives.on hG.app (go 200 (fun _ => false) mixed ?_)
    simp (disch := omega) only [↓reduceIte, go_sem] <;> repeat with_reducible refine And.intro (by first | omega | decide) ?_
    exact fin_drop (.inr rfl) hb rfl (by simp)
  | true =>
    simp (disch := omega) only [↓reduceIte, go_sem, preV, preC, lx, ly] <;> repeat with_reducible refine And.intro (by first | omega | decide) ?_
    refine (c_abatisref05_With x xl lx lex hx.tail xn (by omega) true).onq (go 200 (fun _ => false) mixed ?_)
    simp (disch := omega) only [↓reduceIte, go_sem, adrV, adrC, l1, lx, ly] <;> repeat with_reducible refine And.intro (by first | omega | decide) ?_
    refine hh1.onq (go 200 (fun _ => false) mixed ?_)
    cases P1 with
    | false =>
      have hW : (decide (yn ≤ xn) && hasP y yl (yn : Int) x xl) = false := wb
      simp (disch := omega) only [↓reduceIte, go_sem, preV, preC, lx, ly] <;> repeat with_reducible refine And.intro (by first | omega | decide) ?_
      refine (c_cidr_Within x xl lx lex xn y yl ly yn).on (go 200 (fun _ => false) mixed ?_)
      rw [hW]
      simp (disch := omega) only [↓reduceIte, go_sem, preV, preC, lx, ly] <;> repeat with_reducible refine And.intro (by first | omega | decide) ?_
      refine (c_cidr_Within x xl lx lex xn x xl lx xn).on (go 200 (fun _ => false) mixed ?_)
      rw [ws]
      simp (disch := omega) only [↓reduceIte, go_sem, preV, preC, lx, ly] <;> repeat with_reducible refine And.intro (by first | omega | decide) ?_
      refine (c_cidr_Within x xl lx lex xn y yl ly yn).on (go 200 (fun _ => false) mixed ?_)
      rw [hW]
      simp (disch := omega) only [↓reduceIte, go_sem] <;> repeat with_reducible refine And.intro (by first | omega | decide) ?_
      refine c_abatislaw05_lives.on hG.app (go 200 (fun _ => false) mixed ?_)
      simp (disch := omega) only [↓reduceIte, go_sem] <;> repeat with_reducible refine And.intro (by first | omega | decide) ?_
      exact fin_drop (.inr rfl) hb rfl (by simp)
    | true =>
      have hW : (decide (yn ≤ xn) && hasP y yl (yn : Int) x xl) = true := wb
      simp (disch := omega) only [↓reduceIte, go_sem, preV, preC, lx, ly] <;> repeat with_reducible refine And.intro (by first | omega | decide) ?_
      refine (c_cidr_Within x xl lx lex xn y yl ly yn).on (go 200 (fun _ => false) mixed ?_)
      rw [hW]
      simp (disch := omega) only [↓reduceIte, go_sem, preV, preC, lx, ly] <;> repeat with_reducible refine And.intro (by first | omega | decide) ?_
      refine (c_cidr_Within x xl lx lex xn x xl lx xn).on (go 200 (fun _ => false) mixed ?_)
      rw [ws]
      simp (disch := omega) only [↓reduceIte, go_sem, preV, preC, lx, ly] <;> repeat with_reducible refine And.intro (by first | omega | decide) ?_
      refine (c_cidr_Within x xl lx lex xn y yl ly yn).on (go 200 (fun _ => false) mixed ?_)
      rw [hW]
      simp (disch := omega) only [↓reduceIte, go_sem, preV, preC, lx, ly] <;> repeat with_reducible refine And.intro (by first | omega | decide) ?_
      refine (c_cidr_Within y yl ly ley yn x xl lx xn).on (go 200 (fun _ => false) mixed ?_)
      cases hV : (decide (xn ≤ yn) && hasP x xl (xn : Int) y yl) with
      | false =>
        simp (disch := omega) only [↓reduceIte, go_sem] <;> repeat with_reducible refine And.intro (by first | omega | decide) ?_
        refine c_abatislaw05_lives.on hG.app (go 200 (fun _ => false) mixed ?_)
        simp (disch := omega) only [↓reduceIte, go_sem] <;> repeat with_reducible refine And.intro (by first | omega | decide) ?_
        exact fin_drop (.inr rfl) hb rfl (by simp)
      | true =>
        obtain ⟨rfl, rfl, rfl⟩ := wa hW hV
        simp (disch := omega) only [↓reduceIte, go_sem, lx] <;> repeat with_reducible refine And.intro (by first | omega | decide) ?_
        refine c_abatislaw05_lives.on hG.app (go 200 (fun _ => false) mixed ?_)
        simp (disch := omega) only [↓reduceIte, go_sem] <;> repeat with_reducible refine And.intro (by first | omega | decide) ?_
        exact fin_drop (.inr rfl) hb rfl (by simp)
end Go.Proofs.GoC
