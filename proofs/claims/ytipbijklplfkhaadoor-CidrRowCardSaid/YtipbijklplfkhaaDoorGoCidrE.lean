/-
  The laws CidrHas, CidrMasks, CidrRow. No claim by itself.
-/
import Derived.Test.YtipbijklplfkhaaDoorGoCidrD
namespace Go.Proofs.GoC
open Go Go.Proofs.SL
set_option linter.unusedSimpArgs false
set_option linter.unusedVariables false
set_option maxRecDepth 10000
set_option maxHeartbeats 8000000

theorem false_of {p : Prop} {b : Bool} (h : b = true ↔ p) (hn : ¬ p) : b = false := by
  cases b with
  | false => rfl
  | true => exact absurd (h.mp rfl) hn

theorem c_abatislaw05_CidrHas (f : Int) (f1 : -9223372036854775808 ≤ f) (f2 : f ≤ 9223372036854775807) (l : List Nat) (hl : l.length = 16) (hle : ∀ b ∈ l, b ≤ 255) (b : Int) (b1 : -9223372036854775808 ≤ b) (b2 : b ≤ 9223372036854775807)
    (g : Int) (g1 : -9223372036854775808 ≤ g) (g2 : g ≤ 9223372036854775807) (m : List Nat) (hm : m.length = 16) (hme : ∀ b ∈ m, b ≤ 255) :
    GCall 5 [preV f l b, adrV g m] (.bool true) := by
  intro H hG
  have hx := goodX_good (f := f) hl hle b
  have hy := goodP_good (f := g) hm hme
  have hxe := c_abatisref05_Good f f1 f2 l hl hle b b1 b2
  have hye := c_abatisref04_Good g g1 g2 m hm hme
  rw [goodP_eq] at hye
  generalize (goodX f l b).1 = x at *
  generalize (goodX f l b).2.1 = xl at *
  generalize (goodX f l b).2.2 = xn at *
  obtain ⟨⟨y, yl⟩, hgp⟩ : ∃ a, a = goodP g m := ⟨_, rfl⟩
  rw [← hgp] at hy hye
  dsimp only at hye
  have lx := hx.len; have ly := hy.len; have lex := hx.bd; have ley := hy.le
  dsimp only at ly ley
  have bx := bitsA_le x
  have nx := hx.le
  have g0 := fill_good hx false; have g1' := fill_good hx true
  have l0 := g0.len; have l1 := g1'.len
  have x0 := fill_has hx false; have x1 := fill_has hx true
  have hb0 := has_between hx hy
  have hhas := c_abatisref05_Has x xl lx lex xn nx y yl ly ley (hasP x xl xn y yl) (has_bits hx hy)
  have hhas2 := c_cidr_Has x xl lx xn y yl ly ley
  have hh0 := c_cidr_Has x xl lx xn x (fillF xl xn false (bitsA x)) l0 g0.le
  have hh1 := c_cidr_Has x xl lx xn x (fillF xl xn true (bitsA x)) l1 g1'.le
  rw [x0] at hh0
  rw [x1] at hh1
  have cw0 := c_abatisref05_With x xl lx lex hx.tail xn (by omega) false
  have cw1 := c_abatisref05_With x xl lx lex hx.tail xn (by omega) true
  have cf0 := c_cidr_First x xl lx lex xn (by omega)
  have cf1 := c_cidr_Last x xl lx lex xn (by omega)
  have cc0 := c_abatisref04_Compare x (fillF xl xn false (bitsA x)) l0 g0.le y yl ly ley
  have cc1 := c_abatisref04_Compare y yl ly ley x (fillF xl xn true (bitsA x)) l1 g1'.le
  dsimp only at l0 l1
  generalize fillF xl xn false (bitsA x) = F0 at *
  generalize fillF xl xn true (bitsA x) = F1 at *
  generalize hasP x xl xn y yl = W at *
  refine scall_of (ord := fun _ => []) (rs := [4]) Tryd.func5 rfl (by kernel_rfl) (by kernel_rfl) (by kernel_rfl) Tryd.ntmps5 fun hb hargs => go 200 (fun _ => false) mixed ?_
  simp (disch := omega) only [↓reduceIte, go_sem, hl, hm, preV, preC, adrV, adrC] <;> repeat with_reducible refine And.intro (by first | omega | decide) ?_
  refine hxe.on (go 200 (fun _ => false) mixed ?_)
  simp (disch := omega) only [↓reduceIte, go_sem, preV, preC, lx, hl, hm] <;> repeat with_reducible refine And.intro (by first | omega | decide) ?_
  refine hye.on (go 200 (fun _ => false) mixed ?_)
  simp (disch := omega) only [↓reduceIte, go_sem, adrV, adrC, lx, ly, hm] <;> repeat with_reducible refine And.intro (by first | omega | decide) ?_
  refine cf0.on (go 200 (fun _ => false) mixed ?_)
  simp (disch := omega) only [↓reduceIte, go_sem, adrV, adrC, lx, ly, l0] <;> repeat with_reducible refine And.intro (by first | omega | decide) ?_
  refine cf1.on (go 200 (fun _ => false) mixed ?_)
  simp (disch := omega) only [↓reduceIte, go_sem, adrV, adrC, lx, ly, l0, l1] <;> repeat with_reducible refine And.intro (by first | omega | decide) ?_
  refine hhas2.on (go 200 (fun _ => false) mixed ?_)
  by_cases hf : y = x
  · have hfT := eq_true hf
    by_cases c0 : cmpA x F0 y yl ≤ 0
    · by_cases c1 : cmpA y yl x F1 ≤ 0
      · obtain rfl := hb0.mpr ⟨hf, c0, c1⟩
        simp (disch := omega) only [↓reduceIte, go_sem, hfT, lx, ly, l0, l1] <;> repeat with_reducible refine And.intro (by first | omega | decide) ?_
        refine cc0.on (go 200 (fun _ => false) mixed ?_)
        simp (disch := omega) only [↓reduceIte, go_sem, c0, lx, ly, l0, l1] <;> repeat with_reducible refine And.intro (by first | omega | decide) ?_
        refine cc1.on (go 200 (fun _ => false) mixed ?_)
        simp (disch := omega) only [↓reduceIte, go_sem, c1, lx, ly, l0, l1] <;> repeat with_reducible refine And.intro (by first | omega | decide) ?_
        refine hhas.onq (go 200 (fun _ => false) mixed ?_)
        simp (disch := omega) only [↓reduceIte, go_sem, lx, ly, l0, l1] <;> repeat with_reducible refine And.intro (by first | omega | decide) ?_
        refine cw0.onq (go 200 (fun _ => false) mixed ?_)
        simp (disch := omega) only [↓reduceIte, go_sem, adrV, adrC, lx, ly, l0, l1] <;> repeat with_reducible refine And.intro (by first | omega | decide) ?_
        refine cw1.onq (go 200 (fun _ => false) mixed ?_)
        simp (disch := omega) only [↓reduceIte, go_sem, adrV, adrC, lx, ly, l0, l1] <;> repeat with_reducible refine And.intro (by first | omega | decide) ?_
        refine hh0.onq (go 200 (fun _ => false) mixed ?_)
        simp (disch := omega) only [↓reduceIte, go_sem, lx, ly, l0, l1] <;> repeat with_reducible refine And.intro (by first | omega | decide) ?_
        refine hh1.onq (go 200 (fun _ => false) mixed ?_)
        simp (disch := omega) only [↓reduceIte, go_sem] <;> repeat with_reducible refine And.intro (by first | omega | decide) ?_
        refine ⟨_, c_abatislaw05_lives _ hG.app, go 200 (fun _ => false) mixed ?_⟩
        simp (disch := omega) only [↓reduceIte, go_sem] <;> repeat with_reducible refine And.intro (by first | omega | decide) ?_
        exact fin_drop (.inr rfl) hb rfl (by simp)
      · obtain rfl := false_of hb0 (fun h => c1 h.2.2)
        simp (disch := omega) only [↓reduceIte, go_sem, hfT, lx, ly, l0, l1] <;> repeat with_reducible refine And.intro (by first | omega | decide) ?_
        refine cc0.on (go 200 (fun _ => false) mixed ?_)
        simp (disch := omega) only [↓reduceIte, go_sem, c0, lx, ly, l0, l1] <;> repeat with_reducible refine And.intro (by first | omega | decide) ?_
        refine cc1.on (go 200 (fun _ => false) mixed ?_)
        simp (disch := omega) only [↓reduceIte, go_sem, c1, lx, ly, l0, l1] <;> repeat with_reducible refine And.intro (by first | omega | decide) ?_
        refine hhas.onq (go 200 (fun _ => false) mixed ?_)
        simp (disch := omega) only [↓reduceIte, go_sem, lx, ly, l0, l1] <;> repeat with_reducible refine And.intro (by first | omega | decide) ?_
        refine cw0.onq (go 200 (fun _ => false) mixed ?_)
        simp (disch := omega) only [↓reduceIte, go_sem, adrV, adrC, lx, ly, l0, l1] <;> repeat with_reducible refine And.intro (by first | omega | decide) ?_
        refine cw1.onq (go 200 (fun _ => false) mixed ?_)
        simp (disch := omega) only [↓reduceIte, go_sem, adrV, adrC, lx, ly, l0, l1] <;> repeat with_reducible refine And.intro (by first | omega | decide) ?_
        refine hh0.onq (go 200 (fun _ => false) mixed ?_)
        simp (disch := omega) only [↓reduceIte, go_sem, lx, ly, l0, l1] <;> repeat with_reducible refine And.intro (by first | omega | decide) ?_
        refine hh1.onq (go 200 (fun _ => false) mixed ?_)
        simp (disch := omega) only [↓reduceIte, go_sem] <;> repeat with_reducible refine And.intro (by first | omega | decide) ?_
        refine ⟨_, c_abatislaw05_lives _ hG.app, go 200 (fun _ => false) mixed ?_⟩
        simp (disch := omega) only [↓reduceIte, go_sem] <;> repeat with_reducible refine And.intro (by first | omega | decide) ?_
        exact fin_drop (.inr rfl) hb rfl (by simp)
    · obtain rfl := false_of hb0 (fun h => c0 h.2.1)
      simp (disch := omega) only [↓reduceIte, go_sem, hfT, lx, ly, l0, l1] <;> repeat with_reducible refine And.intro (by first | omega | decide) ?_
      refine cc0.on (go 200 (fun _ => false) mixed ?_)
      simp (disch := omega) only [↓reduceIte, go_sem, c0, lx, ly, l0, l1] <;> repeat with_reducible refine And.intro (by first | omega | decide) ?_
      refine hhas.onq (go 200 (fun _ => false) mixed ?_)
      simp (disch := omega) only [↓reduceIte, go_sem, lx, ly, l0, l1] <;> repeat with_reducible refine And.intro (by first | omega | decide) ?_
      refine cw0.onq (go 200 (fun _ => false) mixed ?_)
      simp (disch := omega) only [↓reduceIte, go_sem, adrV, adrC, lx, ly, l0, l1] <;> repeat with_reducible refine And.intro (by first | omega | decide) ?_
      refine cw1.onq (go 200 (fun _ => false) mixed ?_)
      simp (disch := omega) only [↓reduceIte, go_sem, adrV, adrC, lx, ly, l0, l1] <;> repeat with_reducible refine And.intro (by first | omega | decide) ?_
      refine hh0.onq (go 200 (fun _ => false) mixed ?_)
      simp (disch := omega) only [↓reduceIte, go_sem, lx, ly, l0, l1] <;> repeat with_reducible refine And.intro (by first | omega | decide) ?_
      refine hh1.onq (go 200 (fun _ => false) mixed ?_)
      simp (disch := omega) only [↓reduceIte, go_sem] <;> repeat with_reducible refine And.intro (by first | omega | decide) ?_
      refine ⟨_, c_abatislaw05_lives _ hG.app, go 200 (fun _ => false) mixed ?_⟩
      simp (disch := omega) only [↓reduceIte, go_sem] <;> repeat with_reducible refine And.intro (by first | omega | decide) ?_
      exact fin_drop (.inr rfl) hb rfl (by simp)
  · obtain rfl := false_of hb0 (fun h => hf h.1)
    simp (disch := omega) only [↓reduceIte, go_sem, hf, lx, ly, l0, l1] <;> repeat with_reducible refine And.intro (by first | omega | decide) ?_
    refine hhas.onq (go 200 (fun _ => false) mixed ?_)
    simp (disch := omega) only [↓reduceIte, go_sem, lx, ly, l0, l1] <;> repeat with_reducible refine And.intro (by first | omega | decide) ?_
    refine cw0.onq (go 200 (fun _ => false) mixed ?_)
    simp (disch := omega) only [↓reduceIte, go_sem, adrV, adrC, lx, ly, l0, l1] <;> repeat with_reducible refine And.intro (by first | omega | decide) ?_
    refine cw1.onq (go 200 (fun _ => false) mixed ?_)
    simp (disch := omega) only [↓reduceIte, go_sem, adrV, adrC, lx, ly, l0, l1] <;> repeat with_reducible refine And.intro (by first | omega | decide) ?_
    refine hh0.onq (go 200 (fun _ => false) mixed ?_)
    simp (disch := omega) only [↓reduceIte, go_sem, lx, ly, l0, l1] <;> repeat with_reducible refine And.intro (by first | omega | decide) ?_
    refine hh1.onq (go 200 (fun _ => false) mixed ?_)
    simp (disch := omega) only [↓reduceIte, go_sem] <;> repeat with_reducible refine And.intro (by first | omega | decide) ?_
    refine ⟨_, c_abatislaw05_lives _ hG.app, go 200 (fun _ => false) mixed ?_⟩
    simp (disch := omega) only [↓reduceIte, go_sem] <;> repeat with_reducible refine And.intro (by first | omega | decide) ?_
    exact fin_drop (.inr rfl) hb rfl (by simp)

theorem fill_all (l : List Nat) (B : Nat) (v : Bool) : ∀ i, i ≤ B → fillF l B v i = l
  | 0, _ => rfl
  | i + 1, h => by rw [fillF, if_neg (by omega)]; exact fill_all l B v i (by omega)
theorem mask_all {f : Int} (l : List Nat) : maskL f l (bitsA f : Nat) = l := by
  unfold maskL
  rw [maskN_nat (Nat.le_refl _)]
  exact fill_all l _ _ _ (Nat.le_refl _)

theorem c_abatislaw05_CidrMasks (g : Int) (g1 : -9223372036854775808 ≤ g) (g2 : g ≤ 9223372036854775807) (m : List Nat) (hm : m.length = 16) (hme : ∀ b ∈ m, b ≤ 255) (u : Int) (u1 : -9223372036854775808 ≤ u) (u2 : u ≤ 9223372036854775807) (v : Int) (v1 : -9223372036854775808 ≤ v) (v2 : v ≤ 9223372036854775807)
    (h : Int) (h1 : -9223372036854775808 ≤ h) (h2 : h ≤ 9223372036854775807) (n : List Nat) (hn : n.length = 16) (hne : ∀ b ∈ n, b ≤ 255) :
    GCall 6 [adrV g m, .int .i64 u, .int .i64 v, adrV h n] (.bool true) := by
  intro H hG
  have hy := goodP_good (f := g) hm hme
  have hz := goodP_good (f := h) hn hne
  have hye := c_abatisref04_Good g g1 g2 m hm hme
  have hze := c_abatisref04_Good h h1 h2 n hn hne
  rw [goodP_eq] at hye hze
  obtain ⟨⟨y, yl⟩, hgp⟩ : ∃ a, a = goodP g m := ⟨_, rfl⟩
  obtain ⟨⟨z, zl⟩, hzp⟩ : ∃ a, a = goodP h n := ⟨_, rfl⟩
  rw [← hgp] at hy hye
  rw [← hzp] at hz hze
  dsimp only at hye hze
  have ly := hy.len; have ley := hy.le; have lz := hz.len; have lez := hz.le
  dsimp only at ly ley lz lez
  have bY := bitsA_le y
  have au := aroundF_lt u (m := bitsA y + 1) (by omega)
  have av := aroundF_lt v (m := bitsA y + 1) (by omega)
  have cu := c_abatisref01_Around u u1 u2 (bitsA y + 1) (by omega)
  have cv := c_abatisref01_Around v v1 v2 (bitsA y + 1) (by omega)
  generalize aroundF u (bitsA y + 1) = M at *
  generalize aroundF v (bitsA y + 1) = N at *
  have gM := mask_good hy (M : Nat)
  have gN := mask_good hy (N : Nat)
  have gB := mask_good hy (bitsA y : Nat)
  dsimp only at gM gN gB
  have mM := c_cidr_Mask y yl ly ley (M : Nat)
  have mN := c_cidr_Mask y yl ly ley (N : Nat)
  have mB := c_cidr_Mask y yl ly ley (bitsA y : Nat)
  rw [maskN_nat (by omega)] at gM gN gB mM mN mB
  rw [mask_all] at gB mB
  have bM := fun q (hq : q < 128) => maskL_bt (f := y) (b := (M : Nat)) ly ley hq
  have bN := fun q (hq : q < 128) => maskL_bt (f := y) (b := (N : Nat)) ly ley hq
  rw [maskN_nat (by omega)] at bM bN
  have e1 : hasP y (maskL y yl (M : Nat)) M y yl = true := (has_bits gM hy).mpr ⟨rfl, fun q hq => by rw [bM q (by omega), if_neg (by omega)]⟩
  have e2 : (decide (N ≤ M) && hasP y (maskL y yl (N : Nat)) N y (maskL y yl (M : Nat))) = decide (N ≤ M) := by
    by_cases hNM : N ≤ M
    · have : hasP y (maskL y yl (N : Nat)) N y (maskL y yl (M : Nat)) = true := (has_bits gN gM.good).mpr ⟨rfl, fun q hq => by rw [bN q (by omega), bM q (by omega), if_neg (by omega), if_neg (by omega)]⟩
      rw [this, Bool.and_true]
    · rw [decide_eq_false hNM]; rfl
  have e3 : hasP y yl (bitsA y : Nat) z zl = true ↔ (y = z ∧ yl = zl) := by
    rw [has_bits gB hz]
    constructor
    · rintro ⟨rfl, hq⟩
      refine ⟨rfl, bt_ext ly lz ley lez fun q hq2 => ?_⟩
      rcases Nat.lt_or_ge q (bitsA z) with hb | hb
      · exact (hq q hb).symm
      · exact (good_tail hy q hb hq2).trans (good_tail hz q hb hq2).symm
    · rintro ⟨rfl, rfl⟩; exact ⟨rfl, fun _ _ => rfl⟩
  have lM := gM.len; have lN := gN.len
  have cH1 := c_cidr_Has y (maskL y yl (M : Nat)) lM M y yl ly ley
  rw [e1] at cH1
  have cW := c_cidr_Within y (maskL y yl (M : Nat)) lM gM.bd M y (maskL y yl (N : Nat)) lN N
  rw [e2] at cW
  have cH2 := c_cidr_Has y yl ly (bitsA y : Nat) z zl lz lez
  have cF := c_cidr_First y yl ly ley (bitsA y) (by omega)
  have cL := c_cidr_Last y yl ly ley (bitsA y) (by omega)
  rw [fill_all _ _ _ _ (Nat.le_refl _)] at cF cL
  generalize maskL y yl (M : Nat) = kM at *
  generalize maskL y yl (N : Nat) = kN at *
  have cB := c_abatisref04_Bits y yl ly
  generalize bitsA y = B at *
  have hsum : ((B : Int) + 1) = ((B + 1 : Nat) : Int) := by omega
  by_cases hNM : N ≤ M
  · rw [decide_eq_true hNM] at cW
    refine scall_of (ord := fun _ => []) (rs := [8]) Tryd.func6 rfl (by kernel_rfl) (by kernel_rfl) (by kernel_rfl) Tryd.ntmps6 fun hb hargs => go 200 (fun _ => false) mixed ?_
    simp (disch := omega) only [↓reduceIte, go_sem, hm, hn, adrV, adrC] <;> repeat with_reducible refine And.intro (by first | omega | decide) ?_
    refine hye.on (go 200 (fun _ => false) mixed ?_)
    simp (disch := omega) only [↓reduceIte, go_sem, adrV, adrC, hm, hn, ly] <;> repeat with_reducible refine And.intro (by first | omega | decide) ?_
    refine hze.on (go 200 (fun _ => false) mixed ?_)
    simp (disch := omega) only [↓reduceIte, go_sem, adrV, adrC, hn, ly, lz] <;> repeat with_reducible refine And.intro (by first | omega | decide) ?_
    refine cB.on (go 200 (fun _ => false) mixed ?_)
    simp (disch := omega) only [↓reduceIte, go_sem, hsum] <;> repeat with_reducible refine And.intro (by first | omega | decide) ?_
    refine cu.on (go 200 (fun _ => false) mixed ?_)
    simp (disch := omega) only [↓reduceIte, go_sem, hsum] <;> repeat with_reducible refine And.intro (by first | omega | decide) ?_
    refine cv.on (go 200 (fun _ => false) mixed ?_)
    simp (disch := omega) only [↓reduceIte, go_sem, ly, lz] <;> repeat with_reducible refine And.intro (by first | omega | decide) ?_
    refine mM.on (go 200 (fun _ => false) mixed ?_)
    simp (disch := omega) only [↓reduceIte, go_sem, preV, preC, ly, lz, lM] <;> repeat with_reducible refine And.intro (by first | omega | decide) ?_
    refine mN.on (go 200 (fun _ => false) mixed ?_)
    simp (disch := omega) only [↓reduceIte, go_sem, preV, preC, ly, lz, lM, lN] <;> repeat with_reducible refine And.intro (by first | omega | decide) ?_
    refine mB.on (go 200 (fun _ => false) mixed ?_)
    simp (disch := omega) only [↓reduceIte, go_sem, preV, preC, ly, lz, lM, lN] <;> repeat with_reducible refine And.intro (by first | omega | decide) ?_
    refine cH1.onq (go 200 (fun _ => false) mixed ?_)
    simp (disch := omega) only [↓reduceIte, go_sem, ly, lz, lM, lN] <;> repeat with_reducible refine And.intro (by first | omega | decide) ?_
    refine cW.onq (go 200 (fun _ => false) mixed ?_)
    simp (disch := omega) only [↓reduceIte, go_sem, ly, lz, lM, lN, hNM] <;> repeat with_reducible refine And.intro (by first | omega | decide) ?_
    refine cH2.onq (go 200 (fun _ => false) mixed ?_)
    by_cases hyz : y = z ∧ yl = zl
    · have e4 := e3.mpr hyz
      obtain ⟨rfl, rfl⟩ := hyz
      rw [e4]
      simp (disch := omega) only [↓reduceIte, go_sem, ly, lz, lM, lN] <;> repeat with_reducible refine And.intro (by first | omega | decide) ?_
      refine cF.onq (go 200 (fun _ => false) mixed ?_)
      simp (disch := omega) only [↓reduceIte, go_sem, adrV, adrC, ly, lz, lM, lN] <;> repeat with_reducible refine And.intro (by first | omega | decide) ?_
      refine cL.onq (go 200 (fun _ => false) mixed ?_)
      simp (disch := omega) only [↓reduceIte, go_sem, adrV, adrC, ly, lz, lM, lN] <;> repeat with_reducible refine And.intro (by first | omega | decide) ?_
      refine ⟨_, c_abatislaw05_lives _ hG.app, go 200 (fun _ => false) mixed ?_⟩
      simp (disch := omega) only [↓reduceIte, go_sem] <;> repeat with_reducible refine And.intro (by first | omega | decide) ?_
      exact fin_drop (.inr rfl) hb rfl (by simp)
    · have e4 := false_of e3 hyz
      rw [e4]
      simp (disch := omega) only [↓reduceIte, go_sem, ly, lz, lM, lN, hyz] <;> repeat with_reducible refine And.intro (by first | omega | decide) ?_
      refine cF.onq (go 200 (fun _ => false) mixed ?_)
      simp (disch := omega) only [↓reduceIte, go_sem, adrV, adrC, ly, lz, lM, lN] <;> repeat with_reducible refine And.intro (by first | omega | decide) ?_
      refine cL.onq (go 200 (fun _ => false) mixed ?_)
      simp (disch := omega) only [↓reduceIte, go_sem, adrV, adrC, ly, lz, lM, lN] <;> repeat with_reducible refine And.intro (by first | omega | decide) ?_
      refine ⟨_, c_abatislaw05_lives _ hG.app, go 200 (fun _ => false) mixed ?_⟩
      simp (disch := omega) only [↓reduceIte, go_sem] <;> repeat with_reducible refine And.intro (by first | omega | decide) ?_
      exact fin_drop (.inr rfl) hb rfl (by simp)
  · rw [decide_eq_false hNM] at cW
    refine scall_of (ord := fun _ => []) (rs := [8]) Tryd.func6 rfl (by kernel_rfl) (by kernel_rfl) (by kernel_rfl) Tryd.ntmps6 fun hb hargs => go 200 (fun _ => false) mixed ?_
    simp (disch := omega) only [↓reduceIte, go_sem, hm, hn, adrV, adrC] <;> repeat with_reducible refine And.intro (by first | omega | decide) ?_
    refine hye.on (go 200 (fun _ => false) mixed ?_)
    simp (disch := omega) only [↓reduceIte, go_sem, adrV, adrC, hm, hn, ly] <;> repeat with_reducible refine And.intro (by first | omega | decide) ?_
    refine hze.on (go 200 (fun _ => false) mixed ?_)
    simp (disch := omega) only [↓reduceIte, go_sem, adrV, adrC, hn, ly, lz] <;> repeat with_reducible refine And.intro (by first | omega | decide) ?_
    refine cB.on (go 200 (fun _ => false) mixed ?_)
    simp (disch := omega) only [↓reduceIte, go_sem, hsum] <;> repeat with_reducible refine And.intro (by first | omega | decide) ?_
    refine cu.on (go 200 (fun _ => false) mixed ?_)
    simp (disch := omega) only [↓reduceIte, go_sem, hsum] <;> repeat with_reducible refine And.intro (by first | omega | decide) ?_
    refine cv.on (go 200 (fun _ => false) mixed ?_)
    simp (disch := omega) only [↓reduceIte, go_sem, ly, lz] <;> repeat with_reducible refine And.intro (by first | omega | decide) ?_
    refine mM.on (go 200 (fun _ => false) mixed ?_)
    simp (disch := omega) only [↓reduceIte, go_sem, preV, preC, ly, lz, lM] <;> repeat with_reducible refine And.intro (by first | omega | decide) ?_
    refine mN.on (go 200 (fun _ => false) mixed ?_)
    simp (disch := omega) only [↓reduceIte, go_sem, preV, preC, ly, lz, lM, lN] <;> repeat with_reducible refine And.intro (by first | omega | decide) ?_
    refine mB.on (go 200 (fun _ => false) mixed ?_)
    simp (disch := omega) only [↓reduceIte, go_sem, preV, preC, ly, lz, lM, lN] <;> repeat with_reducible refine And.intro (by first | omega | decide) ?_
    refine cH1.onq (go 200 (fun _ => false) mixed ?_)
    simp (disch := omega) only [↓reduceIte, go_sem, ly, lz, lM, lN] <;> repeat with_reducible refine And.intro (by first | omega | decide) ?_
    refine cW.onq (go 200 (fun _ => false) mixed ?_)
    simp (disch := omega) only [↓reduceIte, go_sem, ly, lz, lM, lN, hNM] <;> repeat with_reducible refine And.intro (by first | omega | decide) ?_
    refine cH2.onq (go 200 (fun _ => false) mixed ?_)
    by_cases hyz : y = z ∧ yl = zl
    · have e4 := e3.mpr hyz
      obtain ⟨rfl, rfl⟩ := hyz
      rw [e4]
      simp (disch := omega) only [↓reduceIte, go_sem, ly, lz, lM, lN] <;> repeat with_reducible refine And.intro (by first | omega | decide) ?_
      refine cF.onq (go 200 (fun _ => false) mixed ?_)
      simp (disch := omega) only [↓reduceIte, go_sem, adrV, adrC, ly, lz, lM, lN] <;> repeat with_reducible refine And.intro (by first | omega | decide) ?_
      refine cL.onq (go 200 (fun _ => false) mixed ?_)
      simp (disch := omega) only [↓reduceIte, go_sem, adrV, adrC, ly, lz, lM, lN] <;> repeat with_reducible refine And.intro (by first | omega | decide) ?_
      refine ⟨_, c_abatislaw05_lives _ hG.app, go 200 (fun _ => false) mixed ?_⟩
      simp (disch := omega) only [↓reduceIte, go_sem] <;> repeat with_reducible refine And.intro (by first | omega | decide) ?_
      exact fin_drop (.inr rfl) hb rfl (by simp)
    · have e4 := false_of e3 hyz
      rw [e4]
      simp (disch := omega) only [↓reduceIte, go_sem, ly, lz, lM, lN, hyz] <;> repeat with_reducible refine And.intro (by first | omega | decide) ?_
      refine cF.onq (go 200 (fun _ => false) mixed ?_)
      simp (disch := omega) only [↓reduceIte, go_sem, adrV, adrC, ly, lz, lM, lN] <;> repeat with_reducible refine And.intro (by first | omega | decide) ?_
      refine cL.onq (go 200 (fun _ => false) mixed ?_)
      simp (disch := omega) only [↓reduceIte, go_sem, adrV, adrC, ly, lz, lM, lN] <;> repeat with_reducible refine And.intro (by first | omega | decide) ?_
      refine ⟨_, c_abatislaw05_lives _ hG.app, go 200 (fun _ => false) mixed ?_⟩
      simp (disch := omega) only [↓reduceIte, go_sem] <;> repeat with_reducible refine And.intro (by first | omega | decide) ?_
      exact fin_drop (.inr rfl) hb rfl (by simp)

/-! The row of prefixes. -/
theorem cmpX_neg (f : Int) (l : List Nat) (b : Int) (g : Int) (m : List Nat) (c : Int) : cmpX g m c f l b = - cmpX f l b g m c := by
  unfold cmpX
  rw [cmpA_neg f l g m, cmpI_neg b c]
  split <;> split <;> omega
theorem cmpX_zero (f : Int) (l : List Nat) (b : Int) (g : Int) (m : List Nat) (c : Int) : cmpX f l b g m c = 0 ↔ f = g ∧ l = m ∧ b = c := by
  have h1 := cmpA_zero f l g m
  have h2 := cmpI_zero b c
  unfold cmpX
  split
  · rename_i h
    have h3 := h1.mp h
    rw [h2]
    exact ⟨fun h => ⟨h3.1, h3.2, h⟩, fun h => h.2.2⟩
  · rename_i h
    exact ⟨fun h' => absurd h' h, fun h' => absurd (h1.mpr ⟨h'.1, h'.2.1⟩) h⟩
theorem cmpX_in (f : Int) (l : List Nat) (b : Int) (g : Int) (m : List Nat) (c : Int) : cmpX f l b g m c = -1 ∨ cmpX f l b g m c = 0 ∨ cmpX f l b g m c = 1 := by
  have h1 := cmpA_in f l g m
  have h2 : cmpI b c = -1 ∨ cmpI b c = 0 ∨ cmpI b c = 1 := by unfold cmpI; split <;> (try split) <;> omega
  unfold cmpX
  split
  · exact h2
  · exact h1
theorem cmpX_trans (f : Int) (l : List Nat) (b : Int) (g : Int) (m : List Nat) (c : Int) (h : Int) (n : List Nat) (d : Int) (h1 : cmpX f l b g m c ≤ 0) (h2 : cmpX g m c h n d ≤ 0) : cmpX f l b h n d ≤ 0 := by
  by_cases c1 : cmpA f l g m = 0
  · obtain ⟨rfl, rfl⟩ := (cmpA_zero _ _ _ _).mp c1
    unfold cmpX at *
    rw [if_pos c1] at h1
    by_cases c2 : cmpA f l h n = 0
    · rw [if_pos c2] at h2 ⊢
      unfold cmpI at *
      split at h1 <;> split at h2 <;> (try split at h1) <;> (try split at h2) <;> split <;> (try split) <;> omega
    · rw [if_neg c2] at h2 ⊢; exact h2
  · by_cases c2 : cmpA g m h n = 0
    · obtain ⟨rfl, rfl⟩ := (cmpA_zero _ _ _ _).mp c2
      unfold cmpX at *
      rw [if_neg c1] at h1 ⊢
      exact h1
    · have ht := cmpA_trans f l g m h n (by unfold cmpX at h1; rw [if_neg c1] at h1; exact h1) (by unfold cmpX at h2; rw [if_neg c2] at h2; exact h2)
      by_cases c3 : cmpA f l h n = 0
      · obtain ⟨rfl, rfl⟩ := (cmpA_zero _ _ _ _).mp c3
        have hneg := cmpA_neg f l g m
        unfold cmpX at h1 h2
        rw [if_neg c1] at h1
        rw [if_neg c2] at h2
        omega
      · unfold cmpX; rw [if_neg c3]; exact ht
/-- A prefix that is within another one does not stand ahead of it. -/
theorem within_row {f : Int} {l : List Nat} {n : Nat} (h : GoodX f l n) {g : Int} {m : List Nat} {k : Nat} (h' : GoodX g m k) (hw : (decide (k ≤ n) && hasP g m k f l) = true) : 0 ≤ cmpX f l n g m k := by
  obtain ⟨hkn, rfl, hq⟩ := (within_bits h h').mp hw
  have ca : cmpA f l f m = cmpB l m := by simp [cmpA, cmpI]
  rcases bt_part h.len h'.len h.bd h'.bd with rfl | ⟨q, h1, h2, h3⟩
  · have : cmpA f l f l = 0 := by rw [ca, (cmpB_zero l l).mpr rfl]
    unfold cmpX
    rw [if_pos this]
    unfold cmpI; split <;> (try split) <;> omega
  · have hqk : ¬ q < k := fun hqk => h3 (hq q hqk)
    have z2 : bt m q = false := h'.zero q (by omega) h1
    have z1 : bt l q = true := by
      cases hx : bt l q with
      | true => rfl
      | false => exact absurd (hx.trans z2.symm) h3
    have hc := cmpB_bit h'.len h.len h'.bd h.bd h1 (fun i hi => (h2 i hi).symm) z2 z1
    have hneg := cmpB_neg m l
    have : cmpA f l f m ≠ 0 := by rw [ca]; omega
    unfold cmpX
    rw [if_neg this, ca]; omega

theorem c_abatislaw05_CidrRow (f : Int) (f1 : -9223372036854775808 ≤ f) (f2 : f ≤ 9223372036854775807) (l : List Nat) (hl : l.length = 16) (hle : ∀ b ∈ l, b ≤ 255) (b : Int) (b1 : -9223372036854775808 ≤ b) (b2 : b ≤ 9223372036854775807)
    (g : Int) (g1 : -9223372036854775808 ≤ g) (g2 : g ≤ 9223372036854775807) (m : List Nat) (hm : m.length = 16) (hme : ∀ b ∈ m, b ≤ 255) (c : Int) (c1 : -9223372036854775808 ≤ c) (c2 : c ≤ 9223372036854775807)
    (h : Int) (h1 : -9223372036854775808 ≤ h) (h2 : h ≤ 9223372036854775807) (n : List Nat) (hn : n.length = 16) (hne : ∀ b ∈ n, b ≤ 255) (d : Int) (d1 : -9223372036854775808 ≤ d) (d2 : d ≤ 9223372036854775807) :
    GCall 7 [preV f l b, preV g m c, preV h n d] (.bool true) := by
  intro H hG
  have hx := goodX_good (f := f) hl hle b
  have hy := goodX_good (f := g) hm hme c
  have hz := goodX_good (f := h) hn hne d
  have hxe := c_abatisref05_Good f f1 f2 l hl hle b b1 b2
  have hye := c_abatisref05_Good g g1 g2 m hm hme c c1 c2
  have hze := c_abatisref05_Good h h1 h2 n hn hne d d1 d2
  generalize (goodX f l b).1 = x at *
  generalize (goodX f l b).2.1 = xl at *
  generalize (goodX f l b).2.2 = xn at *
  generalize (goodX g m c).1 = y at *
  generalize (goodX g m c).2.1 = yl at *
  generalize (goodX g m c).2.2 = yn at *
  generalize (goodX h n d).1 = z at *
  generalize (goodX h n d).2.1 = zl at *
  generalize (goodX h n d).2.2 = zn at *
  have lx := hx.len; have ly := hy.len; have lz := hz.len
  have cxy := c_cidr_Compare x xl lx hx.bd xn y yl ly hy.bd yn
  have cyx := c_cidr_Compare y yl ly hy.bd yn x xl lx hx.bd xn
  have cyz := c_cidr_Compare y yl ly hy.bd yn z zl lz hz.bd zn
  have cxz := c_cidr_Compare x xl lx hx.bd xn z zl lz hz.bd zn
  have rxy := c_abatisref05_Compare x xl lx hx.bd xn y yl ly hy.bd yn
  have k1 := cmpX_neg x xl xn y yl yn
  have k2 := cmpX_zero x xl xn y yl yn
  have k3 := cmpX_trans x xl xn y yl yn z zl zn
  have k4 := cmpX_in x xl xn y yl yn
  have k5 := within_row hx hy
  have cw := c_cidr_Within x xl lx hx.bd xn y yl ly yn
  rw [k1] at cyx
  generalize cmpX x xl xn y yl yn = C at *
  generalize cmpX y yl yn z zl zn = D at *
  generalize cmpX x xl xn z zl zn = E at *
  generalize (decide (yn ≤ xn) && hasP y yl (yn : Int) x xl) = W at *
  have hneg : IntKind.i64.wrap (0 - C) = - C := by rw [w64 (by omega) (by omega)]; omega
  refine scall_of (ord := fun _ => []) (rs := [6]) Tryd.func7 rfl (by kernel_rfl) (by kernel_rfl) (by kernel_rfl) Tryd.ntmps7 fun hb hargs => go 200 (fun _ => false) mixed ?_
  simp (disch := omega) only [↓reduceIte, go_sem, hl, hm, hn, preV, preC] <;> repeat with_reducible refine And.intro (by first | omega | decide) ?_
  refine hxe.on (go 200 (fun _ => false) mixed ?_)
  simp (disch := omega) only [↓reduceIte, go_sem, preV, preC, lx, hl, hm, hn] <;> repeat with_reducible refine And.intro (by first | omega | decide) ?_
  refine hye.on (go 200 (fun _ => false) mixed ?_)
  simp (disch := omega) only [↓reduceIte, go_sem, preV, preC, lx, ly, hm, hn] <;> repeat with_reducible refine And.intro (by first | omega | decide) ?_
  refine hze.on (go 200 (fun _ => false) mixed ?_)
  simp (disch := omega) only [↓reduceIte, go_sem, preV, preC, lx, ly, lz, hn] <;> repeat with_reducible refine And.intro (by first | omega | decide) ?_
  refine cxy.on (go 200 (fun _ => false) mixed ?_)
  simp (disch := omega) only [↓reduceIte, go_sem, lx, ly, lz] <;> repeat with_reducible refine And.intro (by first | omega | decide) ?_
  refine rxy.on (go 200 (fun _ => false) mixed ?_)
  simp (disch := omega) only [↓reduceIte, go_sem, lx, ly, lz] <;> repeat with_reducible refine And.intro (by first | omega | decide) ?_
  refine cyx.on (go 200 (fun _ => false) mixed ?_)
  by_cases hc0 : C = 0
  · obtain ⟨e1, e2, e3⟩ := k2.mp hc0
    subst hc0
    have e3' : xn = yn := by omega
    subst e1 e2 e3'
    simp (disch := omega) only [↓reduceIte, go_sem, hneg, lx, ly, lz] <;> repeat with_reducible refine And.intro (by first | omega | decide) ?_
    refine cw.on (go 200 (fun _ => false) mixed ?_)
    cases W with
    | false =>
      simp (disch := omega) only [↓reduceIte, go_sem, lx, ly, lz] <;> repeat with_reducible refine And.intro (by first | omega | decide) ?_
      refine cyz.on (go 200 (fun _ => false) mixed ?_)
      by_cases hdp : 0 < D
      · simp (disch := omega) only [↓reduceIte, go_sem, hdp, lx, ly, lz] <;> repeat with_reducible refine And.intro (by first | omega | decide) ?_
        refine c_abatislaw05_lives.on hG.app (go 200 (fun _ => false) mixed ?_)
        simp (disch := omega) only [↓reduceIte, go_sem] <;> repeat with_reducible refine And.intro (by first | omega | decide) ?_
        exact fin_drop (.inr rfl) hb rfl (by simp)
      · have he := k3 (by omega) (by omega)
        simp (disch := omega) only [↓reduceIte, go_sem, hdp, lx, ly, lz] <;> repeat with_reducible refine And.intro (by first | omega | decide) ?_
        refine cxz.on (go 200 (fun _ => false) mixed ?_)
        simp (disch := omega) only [↓reduceIte, go_sem, he] <;> repeat with_reducible refine And.intro (by first | omega | decide) ?_
        refine c_abatislaw05_lives.on hG.app (go 200 (fun _ => false) mixed ?_)
        simp (disch := omega) only [↓reduceIte, go_sem] <;> repeat with_reducible refine And.intro (by first | omega | decide) ?_
        exact fin_drop (.inr rfl) hb rfl (by simp)
    | true =>
      simp (disch := omega) only [↓reduceIte, go_sem, lx, ly, lz] <;> repeat with_reducible refine And.intro (by first | omega | decide) ?_
      refine cyz.on (go 200 (fun _ => false) mixed ?_)
      by_cases hdp : 0 < D
      · simp (disch := omega) only [↓reduceIte, go_sem, hdp, lx, ly, lz] <;> repeat with_reducible refine And.intro (by first | omega | decide) ?_
        refine c_abatislaw05_lives.on hG.app (go 200 (fun _ => false) mixed ?_)
        simp (disch := omega) only [↓reduceIte, go_sem] <;> repeat with_reducible refine And.intro (by first | omega | decide) ?_
        exact fin_drop (.inr rfl) hb rfl (by simp)
      · have he := k3 (by omega) (by omega)
        simp (disch := omega) only [↓reduceIte, go_sem, hdp, lx, ly, lz] <;> repeat with_reducible refine And.intro (by first | omega | decide) ?_
        refine cxz.on (go 200 (fun _ => false) mixed ?_)
        simp (disch := omega) only [↓reduceIte, go_sem, he] <;> repeat with_reducible refine And.intro (by first | omega | decide) ?_
        refine c_abatislaw05_lives.on hG.app (go 200 (fun _ => false) mixed ?_)
        simp (disch := omega) only [↓reduceIte, go_sem] <;> repeat with_reducible refine And.intro (by first | omega | decide) ?_
        exact fin_drop (.inr rfl) hb rfl (by simp)
  · have hne' : ¬ (x = y ∧ xl = yl ∧ (xn : Int) = (yn : Int)) := fun h => hc0 (k2.mpr h)
    have hne2 : ¬ (x = y ∧ xl = yl ∧ xn = yn) := fun h => hne' ⟨h.1, h.2.1, by omega⟩
    simp (disch := omega) only [↓reduceIte, go_sem, hneg, hne', hne2, hc0, lx, ly, lz] <;> repeat with_reducible refine And.intro (by first | omega | decide) ?_
    refine cw.on (go 200 (fun _ => false) mixed ?_)
    cases W with
    | false =>
      simp (disch := omega) only [↓reduceIte, go_sem, lx, ly, lz] <;> repeat with_reducible refine And.intro (by first | omega | decide) ?_
      by_cases hcp : 0 < C
      · simp (disch := omega) only [↓reduceIte, go_sem, hcp, lx, ly, lz] <;> repeat with_reducible refine And.intro (by first | omega | decide) ?_
        refine c_abatislaw05_lives.on hG.app (go 200 (fun _ => false) mixed ?_)
        simp (disch := omega) only [↓reduceIte, go_sem] <;> repeat with_reducible refine And.intro (by first | omega | decide) ?_
        exact fin_drop (.inr rfl) hb rfl (by simp)
      · simp (disch := omega) only [↓reduceIte, go_sem, hcp, lx, ly, lz] <;> repeat with_reducible refine And.intro (by first | omega | decide) ?_
        refine cyz.on (go 200 (fun _ => false) mixed ?_)
        by_cases hdp : 0 < D
        · simp (disch := omega) only [↓reduceIte, go_sem, hdp, lx, ly, lz] <;> repeat with_reducible refine And.intro (by first | omega | decide) ?_
          refine c_abatislaw05_lives.on hG.app (go 200 (fun _ => false) mixed ?_)
          simp (disch := omega) only [↓reduceIte, go_sem] <;> repeat with_reducible refine And.intro (by first | omega | decide) ?_
          exact fin_drop (.inr rfl) hb rfl (by simp)
        · have he := k3 (by omega) (by omega)
          simp (disch := omega) only [↓reduceIte, go_sem, hdp, lx, ly, lz] <;> repeat with_reducible refine And.intro (by first | omega | decide) ?_
          refine cxz.on (go 200 (fun _ => false) mixed ?_)
          simp (disch := omega) only [↓reduceIte, go_sem, he] <;> repeat with_reducible refine And.intro (by first | omega | decide) ?_
          refine c_abatislaw05_lives.on hG.app (go 200 (fun _ => false) mixed ?_)
          simp (disch := omega) only [↓reduceIte, go_sem] <;> repeat with_reducible refine And.intro (by first | omega | decide) ?_
          exact fin_drop (.inr rfl) hb rfl (by simp)
    | true =>
      have hcn : ¬ C < 0 := by have := k5 rfl; omega
      simp (disch := omega) only [↓reduceIte, go_sem, hcn, lx, ly, lz] <;> repeat with_reducible refine And.intro (by first | omega | decide) ?_
      have hcp : 0 < C := by omega
      simp (disch := omega) only [↓reduceIte, go_sem, hcp, lx, ly, lz] <;> repeat with_reducible refine And.intro (by first | omega | decide) ?_
      refine c_abatislaw05_lives.on hG.app (go 200 (fun _ => false) mixed ?_)
      simp (disch := omega) only [↓reduceIte, go_sem] <;> repeat with_reducible refine And.intro (by first | omega | decide) ?_
      exact fin_drop (.inr rfl) hb rfl (by simp)
end Go.Proofs.GoC
