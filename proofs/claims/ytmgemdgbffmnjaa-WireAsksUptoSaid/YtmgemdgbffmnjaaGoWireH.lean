/-
  What the functions compute: records, and messages, that may be, made of any. No claim by itself.
-/
import Derived.Test.YtmgemdgbffmnjaaGoWireG
import Derived.Test.YtmgemdgbffmnjaaGoFlat
namespace Go.Proofs.GoC
open Go Go.Proofs.SL
set_option linter.unusedSimpArgs false
set_option linter.unusedVariables false
set_option maxRecDepth 10000
set_option maxHeartbeats 4000000

theorem and_mask {n : Int} {k : Nat} (hk : k ≤ 62) (h1 : -9223372036854775808 ≤ n) (h2 : n ≤ 9223372036854775807) : bitOp .and .i64 n ((2 ^ k - 1 : Nat) : Int) = n % ((2 ^ k : Nat) : Int) := by
  have hp : 2 ^ k ≤ 2 ^ 62 := Nat.pow_le_pow_right (by omega) hk
  have h0 : 0 < 2 ^ k := Nat.two_pow_pos k
  have hm : (18446744073709551616 : Nat) = 2 ^ k * 2 ^ (64 - k) := by rw [← Nat.pow_add, show k + (64 - k) = 64 by omega]
  have ha : (BitVec.ofInt 64 n).toNat % 2 ^ k = (n % ((2 ^ k : Nat) : Int)).toNat := by
    rw [BitVec.toNat_ofInt]
    have e1 : ((n % ((2 ^ 64 : Nat) : Int)).toNat : Int) = n % ((2 ^ 64 : Nat) : Int) := Int.toNat_of_nonneg (Int.emod_nonneg _ (by decide))
    apply Int.ofNat.inj
    show (((n % ((2 ^ 64 : Nat) : Int)).toNat % 2 ^ k : Nat) : Int) = ((n % ((2 ^ k : Nat) : Int)).toNat : Int)
    rw [Int.natCast_emod, e1, Int.toNat_of_nonneg (Int.emod_nonneg _ (by omega))]
    refine Int.emod_emod_of_dvd n ⟨((2 ^ (64 - k) : Nat) : Int), ?_⟩
    rw [← Int.natCast_mul]
    exact congrArg Nat.cast hm
  have hb : (BitVec.ofInt 64 ((2 ^ k - 1 : Nat) : Int)).toNat = 2 ^ k - 1 := by
    rw [BitVec.toNat_ofInt]
    have : ((2 ^ k - 1 : Nat) : Int) % ((2 ^ 64 : Nat) : Int) = ((2 ^ k - 1 : Nat) : Int) := Int.emod_eq_of_lt (by omega) (by
      have : (2 : Nat) ^ 62 < 2 ^ 64 := by decide
      omega)
    rw [this]; rfl
  show IntKind.i64.wrap ((BitVec.ofInt 64 n &&& BitVec.ofInt 64 ((2 ^ k - 1 : Nat) : Int)).toNat : Nat) = _
  rw [BitVec.toNat_and, hb, Nat.and_two_pow_sub_one_eq_mod, ha, Int.toNat_of_nonneg (Int.emod_nonneg _ (by omega))]
  have h3 := Int.emod_nonneg n (show ((2 ^ k : Nat) : Int) ≠ 0 by omega)
  have h4 := Int.emod_lt_of_pos n (show (0 : Int) < ((2 ^ k : Nat) : Int) by omega)
  have h5 : (2 : Nat) ^ 62 = 4611686018427387904 := by decide
  exact w64 (by omega) (by omega)
theorem and_word {n : Int} (h : I64 n) : bitOp .and .i64 n 65535 = n % 65536 := and_mask (k := 16) (by omega) h.1 h.2
theorem and_life {n : Int} (h : I64 n) : bitOp .and .i64 n 2147483647 = n % 2147483648 := and_mask (k := 31) (by omega) h.1 h.2
theorem and_three {n : Int} (h : I64 n) : bitOp .and .i64 n 3 = n % 4 := and_mask (k := 2) (by omega) h.1 h.2

/-- A record that may be, made of any. -/
def goodRc (r : Rc) : Rc :=
  if r.ty % 4 = 0 then ⟨goodN r.name, 1, r.cl % 65536, r.ttl % 2147483648, 4, r.ab.take 4 ++ z12, [], []⟩
  else if r.ty % 4 = 1 then ⟨goodN r.name, 28, r.cl % 65536, r.ttl % 2147483648, 6, if r.fam.tmod 2 = 0 then pre12 ++ r.ab.take 4 else r.ab, [], []⟩
  else if r.ty % 4 = 2 then ⟨goodN r.name, 5, r.cl % 65536, r.ttl % 2147483648, 0, z16, goodN r.tgt, []⟩
  else ⟨goodN r.name, 41, r.cl % 65536, r.ttl % 2147483648, 0, z16, [], r.dat.take 20⟩
def ord60 : Nat → List Nat
  | 1 => [2011]
  | _ => []
theorem ord60_1 : ord60 1 = [2011] := rfl
theorem rcC_adr {X : Rc} (hab : X.ab.length = 16) : ((rcC X).drop 4).take 17 = adrC X.fam X.ab := by
  show (.int .i64 X.fam :: (u8s X.ab ++ [PV.str (bs X.tgt), PV.str (bs X.dat)])).take 17 = _
  rw [List.take_succ_cons, List.take_append_of_le_length (by rw [u8s_len]; omega), List.take_of_length_le (by rw [u8s_len]; omega)]
  rfl
theorem rcC_setA {X : Rc} (hab : X.ab.length = 16) (f : Int) (l : List Nat) : (rcC X).take 4 ++ adrC f l ++ (rcC X).drop 21 = rcC { X with fam := f, ab := l } := by
  unfold rcC
  simp only [List.drop_succ_cons, List.take_succ_cons, List.take_zero]
  rw [List.drop_append_of_le_length (by rw [u8s_len, hab]; decide), List.drop_of_length_le (by rw [u8s_len, hab]; decide)]
  rfl

theorem adrC_17 {l : List Nat} {f : Int} (h : l.length = 16) : (adrC f l).length = 17 := by simp [adrC, u8s_len, h]
theorem rcz2 (nm : List UInt8) (c t : Int) : [PV.str (bs nm), .int .i64 0, .int .i64 c, .int .i64 t, .int .i64 0, .int .u8 0, .int .u8 0, .int .u8 0, .int .u8 0, .int .u8 0, .int .u8 0, .int .u8 0, .int .u8 0, .int .u8 0, .int .u8 0, .int .u8 0, .int .u8 0, .int .u8 0, .int .u8 0, .int .u8 0, .int .u8 0, .str (bs []), .str (bs [])] = rcC ⟨nm, 0, c, t, 0, z16, [], []⟩ := rfl
theorem c_abatisref09_GoodRecord (r : Rc) (hr : RcOk r) : PCall Try.prog 60 [rcV r] (rcV (goodRc r)) := by
  intro H
  obtain ⟨hty, hcl, httl, hfam, hab, hle, hname, htgt, hdat⟩ := hr
  have g1 := c_abatisref08_Good r.name hname
  have g2 := c_abatisref08_Good r.tgt htgt
  have g3 := c_abatisref04_Good r.fam hfam.1 hfam.2 r.ab hab hle
  have a1 := and_word hcl
  have a2 := and_life httl
  have a3 := and_three hty
  have hone : (rcC r).all PV.one = true := by simp [rcC, u8s_one, PV.one]
  have hlen := rcC_len hab
  have htk : List.take 23 (rcC r) = rcC r := List.take_of_length_le (by omega)
  have ha := rcC_adr hab
  have c0 : (rcC r).getD 0 .any = .str (bs r.name) := rfl
  have c1 : (rcC r).getD 1 .any = .int .i64 r.ty := rfl
  have c2 : (rcC r).getD 2 .any = .int .i64 r.cl := rfl
  have c3 : (rcC r).getD 3 .any = .int .i64 r.ttl := rfl
  have c21 : (rcC r).getD 21 .any = .str (bs r.tgt) := u8s_at (k := 0) hab
  have c22 : (rcC r).getD 22 .any = .str (bs r.dat) := u8s_at (k := 1) hab
  unfold goodRc
  refine scall_ofc (ord := ord60) (tdOf_ok _) (rs := [.cell 2 32]) Try.func60 rfl (by kernel_rfl) (by kernel_rfl) (by kernel_rfl) Try.ntmps60 fun hb hargs => go 6 (fun _ => false) mixed ?_
  simp (disch := omega) only [↓reduceIte, go_sem, rcV, hone, hlen, htk] <;> repeat with_reducible refine And.intro (by first | omega | decide) ?_
  rw [rcz]
  refine go 8 (fun _ => false) mixed ?_
  simp (disch := omega) only [↓reduceIte, go_sem, ord60_1, hlen, c0] <;> repeat with_reducible refine And.intro (by first | omega | decide) ?_
  refine go 1 (fun _ => false) mixed ?_
  simp (disch := omega) only [↓reduceIte, go_sem, ord60_1, hlen, c0] <;> repeat with_reducible refine And.intro (by first | omega | decide) ?_
  refine ⟨_, fun L => g1 _, go 8 (fun _ => false) mixed ?_⟩
  simp (disch := omega) only [↓reduceIte, go_sem, hlen, c2, a1] <;> repeat with_reducible refine And.intro (by first | omega | decide) ?_
  refine go 8 (fun _ => false) mixed ?_
  simp (disch := omega) only [↓reduceIte, go_sem, hlen, c3, a2] <;> repeat with_reducible refine And.intro (by first | omega | decide) ?_
  have e12 : H.length + 2 + 10 = H.length + 12 := rfl
  refine go 4 (fun _ => false) mixed ?_
  simp (disch := omega) only [↓reduceIte, go_sem, hlen, c3, a2, e12] <;> repeat with_reducible refine And.intro (by first | omega | decide) ?_
  rw [rcz2]
  refine Runs.ghost (by rfl) (Ghost.keep [false, true, true, true]) ?_
  have hl0 : (rcC ⟨goodN r.name, 0, r.cl % 65536, r.ttl % 2147483648, 0, z16, [], []⟩).length = 23 := rcC_len rfl
  refine go 200 (fun _ => false) mixed ?_
  simp (disch := omega) only [↓reduceIte, go_sem, hlen, ha, adrC_17 hab] <;> repeat with_reducible refine And.intro (by first | omega | decide) ?_
  obtain ⟨gf, gl, hgl, hgle, h4, hm, hg⟩ : ∃ (f : Int) (l : List Nat), l.length = 16 ∧ (∀ b ∈ l, b ≤ 255) ∧ of4L (fourL l) = r.ab.take 4 ++ z12 ∧ mapA f l = adrV 6 (if r.fam.tmod 2 = 0 then pre12 ++ r.ab.take 4 else r.ab) ∧
      PCall Try.prog 83 [adrV r.fam r.ab] (adrV f l) := by
    have ht : (r.ab.take 4 ++ z12).length = 16 := by rw [List.length_append, List.length_take]; simp only [z12, List.length_cons, List.length_nil]; omega
    have h44 : (r.ab.take 4 ++ z12).take 4 = r.ab.take 4 := by rw [List.take_append_of_le_length (by rw [List.length_take]; omega), List.take_take]; rfl
    by_cases hf : r.fam.tmod 2 = 0
    · rw [if_pos hf] at g3
      have hb4 : ∀ b ∈ r.ab.take 4 ++ z12, b ≤ 255 := fun b hb => by
        rcases List.mem_append.mp hb with h | h
        · exact hle b (List.mem_of_mem_take h)
        · simp only [z12, List.mem_cons, List.not_mem_nil, or_false] at h; omega
      exact ⟨4, r.ab.take 4 ++ z12, ht, hb4, by rw [of4_four ht hb4, h44], by unfold mapA; rw [if_pos rfl, h44, if_pos hf], g3⟩
    · rw [if_neg hf] at g3
      exact ⟨6, r.ab, hab, hle, of4_four hab hle, by unfold mapA; rw [if_neg (by decide), if_neg hf], g3⟩
  refine hg.on (go 6 (fun _ => false) mixed ?_)
  have hal := adrC_17 (f := gf) hgl
  have hao : (adrC gf gl).all PV.one = true := by simp [adrC, u8s_one, PV.one]
  have hatk : List.take 17 (adrC gf gl) = adrC gf gl := List.take_of_length_le (by omega)
  simp (disch := omega) only [↓reduceIte, go_sem, adrV, hal, hao] <;> repeat with_reducible refine And.intro (by first | omega | decide) ?_
  have gF := c_abatisref04_Four gf gl hgl hgle
  have gO := c_abatisref04_Of4 _ (fourL_le hgle)
  have gM := c_abatisref04_Map gf gl hgl hgle
  rw [h4] at gO
  rw [hm] at gM
  unfold adrV at gF gO gM
  refine go 10 (fun _ => false) mixed ?_
  simp (disch := omega) only [↓reduceIte, go_sem, hlen, c1, a3] <;> repeat with_reducible refine And.intro (by first | omega | decide) ?_
  have hl4 : (r.ab.take 4 ++ z12).length = 16 := by rw [List.length_append, List.length_take]; simp only [z12, List.length_cons, List.length_nil]; omega
  refine Runs.ghost (by rfl) (Ghost.keep [false, true, true, true, true, false, false, false, false, false, false, false, false, false, false, false, false, false, false, false, true]) ?_
  have hlX : ∀ a b c d e f g, (rcC ⟨a, b, c, d, e, z16, f, g⟩).length = 23 := fun _ _ _ _ _ _ _ => rcC_len rfl
  have htX : ∀ (X : Rc), X.ab.length = 16 → List.take 23 (rcC X) = rcC X := fun X h => List.take_of_length_le (by rw [rcC_len h]; omega)
  have hoX : ∀ (X : Rc), (rcC X).all PV.one = true := fun X => by simp [rcC, u8s_one, PV.one]
  have hdr : List.drop 23 (rcC ⟨[], 0, 0, 0, 0, z16, [], []⟩) = [] := rfl
  have hbd : ∀ X : Rc, Bdd H.length (rcV X) := fun X => by
    simp [rcV, rcC, u8s]
    rintro a (⟨n, _, rfl⟩ | rfl | rfl) <;> simp
  have hsA : ∀ (X : Rc), X.ab.length = 16 → ∀ f l, (rcC X).take 4 ++ adrC f l ++ (rcC X).drop 21 = rcC { X with fam := f, ab := l } := fun X h f l => rcC_setA h f l
  by_cases t0 : r.ty % 4 = 0
  · rw [if_pos t0]
    have hl1 : (rcC ⟨goodN r.name, 1, r.cl % 65536, r.ttl % 2147483648, 4, r.ab.take 4 ++ z12, [], []⟩).length = 23 := rcC_len hl4
    have ht1 := htX ⟨goodN r.name, 1, r.cl % 65536, r.ttl % 2147483648, 4, r.ab.take 4 ++ z12, [], []⟩ hl4
    have hA := hsA ⟨goodN r.name, 1, r.cl % 65536, r.ttl % 2147483648, 0, z16, [], []⟩ rfl 4 (r.ab.take 4 ++ z12)
    have hal2 := adrC_17 (f := 4) hl4
    have hao2 : (adrC 4 (r.ab.take 4 ++ z12)).all PV.one = true := by simp [adrC, u8s_one, PV.one]
    refine go 12 (fun _ => false) mixed ?_
    simp (disch := omega) only [↓reduceIte, go_sem, t0, hlX, rcC_set1] <;> repeat with_reducible refine And.intro (by first | omega | decide) ?_
    refine go 200 (fun _ => false) mixed ?_
    simp (disch := omega) only [↓reduceIte, go_sem, hatk, hal, hlX, rcC_set1] <;> repeat with_reducible refine And.intro (by first | omega | decide) ?_
    refine gF.on (go 200 (fun _ => false) mixed ?_)
    simp (disch := omega) only [↓reduceIte, go_sem] <;> repeat with_reducible refine And.intro (by first | omega | decide) ?_
    refine gO.on (go 200 (fun _ => false) mixed ?_)
    simp (disch := omega) only [↓reduceIte, go_sem, hlX, hal2, hao2, hA, hl1, ht1, hoX, hdr, List.append_nil] <;> repeat with_reducible refine And.intro (by first | omega | decide) ?_
    exact fin_c (.inr rfl) hb (by (simp (disch := omega) only [↓reduceIte, go_sem, hl1, ht1] <;> repeat with_reducible refine And.intro (by first | omega | decide) ?_) <;> rfl) (hbd _)
  rw [if_neg t0]
  by_cases t1 : r.ty % 4 = 1
  · rw [if_pos t1]
    have hl5 : (if r.fam.tmod 2 = 0 then pre12 ++ r.ab.take 4 else r.ab).length = 16 := by
      split
      · rw [List.length_append, List.length_take, hab]; rfl
      · exact hab
    generalize (if r.fam.tmod 2 = 0 then pre12 ++ r.ab.take 4 else r.ab) = ml at *
    have hl1 : (rcC ⟨goodN r.name, 28, r.cl % 65536, r.ttl % 2147483648, 6, ml, [], []⟩).length = 23 := rcC_len hl5
    have ht1 := htX ⟨goodN r.name, 28, r.cl % 65536, r.ttl % 2147483648, 6, ml, [], []⟩ hl5
    have hA := hsA ⟨goodN r.name, 28, r.cl % 65536, r.ttl % 2147483648, 0, z16, [], []⟩ rfl 6 ml
    have hal2 := adrC_17 (f := 6) hl5
    have hao2 : (adrC 6 ml).all PV.one = true := by simp [adrC, u8s_one, PV.one]
    refine go 16 (fun _ => false) mixed ?_
    simp (disch := omega) only [↓reduceIte, go_sem, t0, t1, hlX, rcC_set1] <;> repeat with_reducible refine And.intro (by first | omega | decide) ?_
    refine go 200 (fun _ => false) mixed ?_
    simp (disch := omega) only [↓reduceIte, go_sem, hatk, hal, hlX, rcC_set1] <;> repeat with_reducible refine And.intro (by first | omega | decide) ?_
    refine gM.on (go 200 (fun _ => false) mixed ?_)
    simp (disch := omega) only [↓reduceIte, go_sem, hlX, hal2, hao2, hA, hl1, ht1, hoX, hdr, List.append_nil] <;> repeat with_reducible refine And.intro (by first | omega | decide) ?_
    exact fin_c (.inr rfl) hb (by (simp (disch := omega) only [↓reduceIte, go_sem, hl1, ht1] <;> repeat with_reducible refine And.intro (by first | omega | decide) ?_) <;> rfl) (hbd _)
  rw [if_neg t1]
  by_cases t2 : r.ty % 4 = 2
  · rw [if_pos t2]
    have hs21 := rcC_set21 (X := ⟨goodN r.name, 5, r.cl % 65536, r.ttl % 2147483648, 0, z16, [], []⟩) rfl (goodN r.tgt)
    have ht1 := htX ⟨goodN r.name, 5, r.cl % 65536, r.ttl % 2147483648, 0, z16, goodN r.tgt, []⟩ rfl
    refine go 18 (fun _ => false) mixed ?_
    simp (disch := omega) only [↓reduceIte, go_sem, t0, t1, t2, hlX, rcC_set1] <;> repeat with_reducible refine And.intro (by first | omega | decide) ?_
    refine go 200 (fun _ => false) mixed ?_
    simp (disch := omega) only [↓reduceIte, go_sem, hlX, rcC_set1, hlen, c21] <;> repeat with_reducible refine And.intro (by first | omega | decide) ?_
    refine g2.on (go 200 (fun _ => false) mixed ?_)
    simp (disch := omega) only [↓reduceIte, go_sem, hlX, hs21, ht1, hoX, hdr, List.append_nil] <;> repeat with_reducible refine And.intro (by first | omega | decide) ?_
    exact fin_c (.inr rfl) hb (by (simp (disch := omega) only [↓reduceIte, go_sem, hlX, ht1] <;> repeat with_reducible refine And.intro (by first | omega | decide) ?_) <;> rfl) (hbd _)
  · rw [if_neg t2]
    have hs22 := fun X : Rc => fun h : X.ab.length = 16 => rcC_set22 (X := X) h
    have hs1 := hs22 ⟨goodN r.name, 41, r.cl % 65536, r.ttl % 2147483648, 0, z16, [], []⟩ rfl r.dat
    have hs2 := hs22 ⟨goodN r.name, 41, r.cl % 65536, r.ttl % 2147483648, 0, z16, [], r.dat⟩ rfl (r.dat.take 20)
    have hg22 : ∀ d, (rcC ⟨goodN r.name, 41, r.cl % 65536, r.ttl % 2147483648, 0, z16, [], d⟩).getD 22 .any = .str (bs d) := fun d => u8s_at (k := 1) rfl
    have ht1 := fun d => htX ⟨goodN r.name, 41, r.cl % 65536, r.ttl % 2147483648, 0, z16, [], d⟩ rfl
    refine go 18 (fun _ => false) mixed ?_
    simp (disch := omega) only [↓reduceIte, go_sem, t0, t1, t2, hlX, rcC_set1] <;> repeat with_reducible refine And.intro (by first | omega | decide) ?_
    by_cases h20 : 20 < r.dat.length
    · refine go 18 (fun _ => false) mixed ?_
      simp (disch := omega) only [↓reduceIte, go_sem, t0, t1, t2, hlX, rcC_set1, hlen, c22, hs1, hg22] <;> repeat with_reducible refine And.intro (by first | omega | decide) ?_
      refine go 200 (fun _ => false) mixed ?_
      simp (disch := omega) only [↓reduceIte, go_sem, h20, hlX, hlen, c22, hs1, hg22, hs2, ht1, hoX, hdr, List.append_nil] <;> repeat with_reducible refine And.intro (by first | omega | decide) ?_
      exact fin_c (.inr rfl) hb (by (simp (disch := omega) only [↓reduceIte, go_sem, hlX, ht1] <;> repeat with_reducible refine And.intro (by first | omega | decide) ?_) <;> rfl) (hbd _)
    · have e20 : r.dat.take 20 = r.dat := List.take_of_length_le (by omega)
      rw [e20]
      refine go 18 (fun _ => false) mixed ?_
      simp (disch := omega) only [↓reduceIte, go_sem, t0, t1, t2, hlX, rcC_set1, hlen, c22, hs1, hg22] <;> repeat with_reducible refine And.intro (by first | omega | decide) ?_
      refine go 200 (fun _ => false) mixed ?_
      simp (disch := omega) only [↓reduceIte, go_sem, h20, hlX, hlen, c22, hs1, hg22, hs2, ht1, hoX, hdr, List.append_nil] <;> repeat with_reducible refine And.intro (by first | omega | decide) ?_
      exact fin_c (.inr rfl) hb (by (simp (disch := omega) only [↓reduceIte, go_sem, hlX, ht1] <;> repeat with_reducible refine And.intro (by first | omega | decide) ?_) <;> rfl) (hbd _)
end Go.Proofs.GoC
