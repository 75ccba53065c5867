/-
  The law CidrTexts. No claim by itself.
-/
import Derived.Test.YtipbijklplfkhaaGreatDoorGoCidrF
namespace Go.Proofs.GoC
open Go Go.Proofs.SL
set_option linter.unusedSimpArgs false
set_option linter.unusedVariables false
set_option maxRecDepth 10000
set_option maxHeartbeats 8000000

theorem decF_digit (n : Nat) : ∀ c ∈ decF n, 48 ≤ c.toNat ∧ c.toNat ≤ 57 := by
  induction n using Nat.strongRecOn with
  | _ n ih =>
    have hx : ∀ c : UInt8, c = UInt8.ofNat (48 + n % 10) → 48 ≤ c.toNat ∧ c.toNat ≤ 57 := fun c hc => by
      rw [hc, show (UInt8.ofNat (48 + n % 10)).toNat = (48 + n % 10) % 256 from rfl]; omega
    rw [decF.eq_1]
    split
    · intro c hc
      exact hx c (by simpa using hc)
    · intro c hc
      rcases List.mem_append.mp hc with h | h
      · exact ih (n / 10) (by omega) c h
      · exact hx c (by simpa using h)
theorem parse_printX {f : Int} {l : List Nat} {n : Nat} (h : GoodX f l n) : parseX (printX f l n) = .ok (f, l, n) := by
  have hB := bitsA_le f
  have hn := h.le
  have h47 : (47 : UInt8) ∉ decF n := fun hm => by
    have := decF_digit n 47 hm
    revert this; decide
  have hI : lastI 47 (printX f l n) = ((printA f l).length : Nat) := isLast_unique (lastI_cases 47 (printX f l n)) (.inr ⟨_, _, rfl, h47, rfl⟩)
  unfold parseX
  rw [hI, if_neg (by omega)]
  have e1 : (printX f l n).take (((printA f l).length : Nat) : Int).toNat = printA f l := by simp [printX]
  have e2 : (printX f l n).drop ((((printA f l).length : Nat) : Int).toNat + 1) = decF n := by simp [printX]
  rw [e1, e2]
  unfold parseXd
  have hp : parseA (printA f l) = some (f, l) := parse_printA (a := (f, l)) h.good
  rw [hp, num_dec n (by omega)]
  simp only [Int.toNat_natCast]
  rw [if_pos ⟨decF_ne n, trivial⟩, if_pos (good_mayP h)]
theorem parseXd_len {a d : List UInt8} {p : Int × List Nat × Nat} (h : parseXd a d = .ok p) : p.2.1.length = 16 ∧ (∀ b ∈ p.2.1, b ≤ 255) := by
  unfold parseXd at h
  split at h
  · rename_i A n hA hN
    split at h
    · split at h
      · simp only [Except.ok.injEq] at h
        subst h
        exact ⟨(parseA_good hA).len, (parseA_good hA).le⟩
      · exact nomatch h
    · exact nomatch h
  · exact nomatch h
theorem parseXV_two (s : List UInt8) : ∃ (f : Int) (l : List Nat) (b e : Int), parseXV (parseX s) = .tup [preV f l b, .int .i64 e] ∧ l.length = 16 ∧ (∀ b ∈ l, b ≤ 255) := by
  cases h : parseX s with
  | error e => exact ⟨0, z16, 0, _, rfl, rfl, by decide⟩
  | ok p =>
    unfold parseX at h
    split at h
    · exact nomatch h
    · exact ⟨p.1, p.2.1, p.2.2, 0, rfl, parseXd_len h⟩

theorem c_abatislaw05_CidrTexts (s0 : List UInt8) (f : Int) (f1 : -9223372036854775808 ≤ f) (f2 : f ≤ 9223372036854775807) (l : List Nat) (hl : l.length = 16) (hle : ∀ b ∈ l, b ≤ 255) (b : Int) (b1 : -9223372036854775808 ≤ b) (b2 : b ≤ 9223372036854775807) :
    GCall 3 [.str (bs s0), preV f l b] (.bool true) := by
  intro H hG
  have hx := goodX_good (f := f) hl hle b
  have hxe := c_abatisref05_Good f f1 f2 l hl hle b b1 b2
  generalize (goodX f l b).1 = x at *
  generalize (goodX f l b).2.1 = xl at *
  generalize (goodX f l b).2.2 = xn at *
  have lx := hx.len; have lex := hx.bd
  have bx := bitsA_le x
  have nx := hx.le
  have hpp := parse_printX hx
  have hpl : (printX x xl xn).length < 900000 := by
    have h1 : (printA x xl).length ≤ 100 := printA_len (a := (x, xl)) hx.good
    have h2 := decF_len xn 17 (by omega)
    simp only [printX, List.length_append, List.length_cons]; omega
  refine scall_of (ord := fun _ => []) (rs := [4]) Tryz.func3 rfl (by kernel_rfl) (by kernel_rfl) (by kernel_rfl) Tryz.ntmps3 fun hb hargs => go 200 (fun _ => false) mixed ?_
  simp (disch := omega) only [↓reduceIte, go_sem, hl, preV, preC] <;> repeat with_reducible refine And.intro (by first | omega | decide) ?_
  refine (c_abatisref01_Few s0 60).on (go 200 (fun _ => false) mixed ?_)
  have hsl : (s0.take 60).length < 900000 := by rw [List.length_take]; omega
  generalize s0.take 60 = s at *
  simp (disch := omega) only [↓reduceIte, go_sem] <;> repeat with_reducible refine And.intro (by first | omega | decide) ?_
  refine (c_cidr_Parse s hsl).on hG.app (go 200 (fun _ => false) mixed ?_)
  obtain ⟨q, ql, qb, qe, hq, lq, leq⟩ := parseXV_two s
  rw [hq]
  have tq := u8s_tag16 lq
  have tx := u8s_tag16 lx
  simp (disch := omega) only [↓reduceIte, go_sem, preV, preC, lq] <;> repeat with_reducible refine And.intro (by first | omega | decide) ?_
  refine (c_abatisref05_Parse s hsl).on (go 200 (fun _ => false) mixed ?_)
  rw [hq]
  simp (disch := omega) only [↓reduceIte, go_sem, preV, preC, lq, hl] <;> repeat with_reducible refine And.intro (by first | omega | decide) ?_
  refine hxe.on (go 200 (fun _ => false) mixed ?_)
  simp (disch := omega) only [↓reduceIte, go_sem, preV, preC, lx, lq] <;> repeat with_reducible refine And.intro (by first | omega | decide) ?_
  refine (c_cidr_Print x xl hx.good xn (by omega)).on hG.app (go 200 (fun _ => false) mixed ?_)
  simp (disch := omega) only [↓reduceIte, go_sem] <;> repeat with_reducible refine And.intro (by first | omega | decide) ?_
  refine (c_cidr_Parse (printX x xl xn) hpl).on hG.app (go 200 (fun _ => false) mixed ?_)
  rw [hpp]
  simp only [parseXV]
  simp (disch := omega) only [↓reduceIte, go_sem, preV, preC, lx, lq, tq, tx] <;> repeat with_reducible refine And.intro (by first | omega | decide) ?_
  refine (c_abatisref05_Print x xl hx.good xn (by omega)).on (go 200 (fun _ => false) mixed ?_)
  simp (disch := omega) only [↓reduceIte, go_sem, lx, tx] <;> repeat with_reducible refine And.intro (by first | omega | decide) ?_
  refine c_abatislaw05_lives.on hG.app (go 200 (fun _ => false) mixed ?_)
  simp (disch := omega) only [↓reduceIte, go_sem] <;> repeat with_reducible refine And.intro (by first | omega | decide) ?_
  exact fin_drop (.inr rfl) hb rfl (by simp)
end Go.Proofs.GoC
