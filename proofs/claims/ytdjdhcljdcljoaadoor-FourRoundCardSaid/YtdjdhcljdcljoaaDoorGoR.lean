/-
  How an address's text is read; the laws FourStrict, FourRound, FourBytes. No claim by itself.
-/
import Derived.Test.YtdjdhcljdcljoaaDoorGoQ
import Derived.Test.YtdjdhcljdcljoaaDoorGoM
namespace Go.Proofs.GoC
open Go Go.Proofs.SL
set_option linter.unusedSimpArgs false
set_option linter.unusedVariables false
set_option maxRecDepth 10000
set_option maxHeartbeats 2000000

theorem split_dec4 (a b c d : Nat) : splitA 46 (dot4 a b c d) [] [] = [decF a, decF b, decF c, decF d] := by
  unfold dot4
  simp only [List.append_assoc, List.singleton_append, List.cons_append, List.nil_append]
  rw [split_3, split_run 46 _ _ _ _ (dec_no c)]
  simp only [splitA, if_true, List.nil_append]
  rw [split_end _ _ (dec_no d)]
  rfl

theorem num_one (base : Int) (b : UInt8) (n : Int) (v : Nat) (hv : digitV b.toNat = v) (h : (v : Int) < base) (hm : n * base + v ≤ 1099511627776) : numF base [b] n = some (n * base + v) := by
  simp only [numF, hv]
  rw [if_neg (by omega), if_neg (by omega)]

theorem num_dec (n : Nat) (h : n ≤ 1099511627776) : numF 10 (decF n) 0 = some (n : Int) := by
  induction n using Nat.strongRecOn with
  | _ n ih =>
    rw [decF.eq_1]
    split
    · rename_i h10
      rw [num_one 10 _ 0 (n % 10) (dig_val _ (by omega)) (by omega) (by omega)]
      congr 1; omega
    · rw [numF_app, ih (n / 10) (by omega) (by omega)]
      simp only
      rw [num_one 10 _ _ (n % 10) (dig_val _ (by omega)) (by omega) (by omega)]
      congr 1; omega

theorem oct_dec (a : Nat) (h : a ≤ 255) : octF (decF a) = some a := by
  unfold octF
  rw [num_dec a (by omega)]
  simp only
  rw [if_pos ⟨decF_ne a, by omega, by simp⟩]
  simp

theorem strict_dot (a b c d : Nat) (ha : a ≤ 255) (hb : b ≤ 255) (hc : c ≤ 255) (hd : d ≤ 255) : strictF (dot4 a b c d) = some (of4 a b c d) := by
  unfold strictF
  rw [split_dec4]
  have h4 : [decF a, decF b, decF c, decF d].length = 4 := rfl
  rw [if_pos h4]
  simp only [octs, oct_dec _ ha, oct_dec _ hb, oct_dec _ hc, oct_dec _ hd, Option.map_some]
  simp [fold4, of4]

theorem strict_print (n : Nat) (h : n ≤ 4294967295) : strictF (printF n) = some n := by
  obtain ⟨h3, h2, h1, h0⟩ := by_in n h
  rw [printF, strict_dot _ _ _ _ h3 h2 h1 h0, by_of n h]

theorem strictV_two (o : Option Nat) : ∃ (a : Nat) (b : Bool), strictV o = .tup [.int .u32 a, .bool b] := by
  cases o with
  | none => exact ⟨0, false, rfl⟩
  | some n => exact ⟨n, true, rfl⟩

theorem loose4 (a b c d : Nat) (ha : a ≤ 255) (hb : b ≤ 255) (hc : c ≤ 255) (hd : d ≤ 255) : looseV [decF a, decF b, decF c, decF d] = .tup [.int .u32 (of4 a b c d : Nat), .int .i64 2] := by
  unfold looseV
  rw [if_pos (ends_dec _ d rfl)]
  simp only [List.length_cons, List.length_nil, Nat.reduceAdd, Nat.lt_irrefl, if_false, looseGo, part_dec, sat_lt (show a ≤ 4294967296 by omega), sat_lt (show b ≤ 4294967296 by omega), sat_lt (show c ≤ 4294967296 by omega), sat_lt (show d ≤ 4294967296 by omega)]
  have r3 : room 3 = 256 := rfl
  rw [if_neg (by omega), if_neg (by omega), if_neg (by omega), if_neg (by show ¬ ((room 3 : Nat) : Int) ≤ _; rw [r3]; omega)]
  have e : (((0 * 256 + a) * 256 + b) * 256 + c) * room 3 + d = of4 a b c d := by rw [r3]; unfold of4; omega
  simp only [Int.toNat_natCast]
  show PV.tup [PV.int IntKind.u32 (IntKind.u32.wrap (((((0 * 256 + a) * 256 + b) * 256 + c) * room 3 + d : Nat) : Int)), PV.int IntKind.i64 2] = _
  rw [e, nw_u32 (by omega) (by unfold of4; omega)]

theorem pieces4 (a b c d : Nat) : piecesF (dot4 a b c d) = [decF a, decF b, decF c, decF d] := pieces_of _ _ (split_dec4 a b c d) (decF_ne d)

theorem splitA_app (sep : UInt8) : ∀ (l : List UInt8) (acc : List (List UInt8)) (cur : List UInt8), splitA sep (l ++ [sep]) acc cur = splitA sep l acc cur ++ [[]]
  | [], acc, cur => by simp [splitA]
  | b :: l, acc, cur => by
    simp only [List.cons_append, splitA]
    split <;> exact splitA_app sep l _ _

theorem pieces_dot (l : List UInt8) (ps : List (List UInt8)) (h : splitA 46 l [] [] = ps) : piecesF (l ++ [46]) = ps := by
  have hl := splitA_len 46 l [] []
  rw [h] at hl
  simp only [List.length_nil] at hl
  unfold piecesF
  rw [splitA_app, h, if_pos ⟨by simp; omega, by simp [lastF, List.getD_eq_getElem?_getD]⟩]
  simp

theorem c_abatislaw02_FourStrict (l : List UInt8) : GCall 3 [.str (bs l)] (.bool true) := by
  intro H hG
  refine scall_of (ord := fun _ => []) (rs := [2]) Tryd.func3 rfl (by kernel_rfl) (by kernel_rfl) (by kernel_rfl) Tryd.ntmps3 fun hb hargs => go 200 (fun _ => false) mixed ?_
  simp (disch := omega) only [↓reduceIte, go_sem] <;> repeat with_reducible refine And.intro (by first | omega | decide) ?_
  refine (c_abatisref01_Few l 40).on (go 200 (fun _ => false) mixed ?_)
  have hl : (l.take 40).length < 900000 := by rw [List.length_take]; omega
  generalize l.take 40 = s at *
  simp (disch := omega) only [↓reduceIte, go_sem] <;> repeat with_reducible refine And.intro (by first | omega | decide) ?_
  refine (c_four_Strict s (by omega)).on hG (go 200 (fun _ => false) mixed ?_)
  obtain ⟨a, b, hab⟩ := strictV_two (strictF s)
  rw [hab]
  simp (disch := omega) only [↓reduceIte, go_sem] <;> repeat with_reducible refine And.intro (by first | omega | decide) ?_
  refine (c_abatisref02_Strict s (by omega)).on (go 200 (fun _ => false) mixed ?_)
  rw [hab]
  simp (disch := omega) only [↓reduceIte, go_sem] <;> repeat with_reducible refine And.intro (by first | omega | decide) ?_
  refine c_abatislaw02_lives.on (go 200 (fun _ => false) mixed ?_)
  simp (disch := omega) only [↓reduceIte, go_sem] <;> repeat with_reducible refine And.intro (by first | omega | decide) ?_
  exact fin rfl rfl

theorem c_abatislaw02_FourRound (n : Nat) (h : n ≤ 4294967295) : GCall 4 [.int .u32 n] (.bool true) := by
  intro H hG
  have hlen := printF_len n h
  obtain ⟨h3, h2, h1, h0⟩ := by_in n h
  have hp : piecesF (printF n) = [decF (by3 n), decF (by2 n), decF (by1 n), decF (by0 n)] := pieces4 _ _ _ _
  have hpd : piecesF (printF n ++ [46]) = [decF (by3 n), decF (by2 n), decF (by1 n), decF (by0 n)] := pieces_dot _ _ (split_dec4 _ _ _ _)
  have hlo := loose4 _ _ _ _ h3 h2 h1 h0
  have hof := by_of n h
  rw [hof] at hlo
  have e3 : n / 16777216 = by3 n := rfl
  have e0 : n % 256 = by0 n := rfl
  refine scall_of (ord := fun _ => []) (rs := [2]) Tryd.func4 rfl (by kernel_rfl) (by kernel_rfl) (by kernel_rfl) Tryd.ntmps4 fun hb hargs => go 200 (fun _ => false) mixed ?_
  simp (disch := omega) only [↓reduceIte, go_sem] <;> repeat with_reducible refine And.intro (by first | omega | decide) ?_
  refine (c_four_Print n h).on hG (go 200 (fun _ => false) mixed ?_)
  simp (disch := omega) only [↓reduceIte, go_sem] <;> repeat with_reducible refine And.intro (by first | omega | decide) ?_
  refine (c_four_Strict (printF n) (by omega)).on hG (go 200 (fun _ => false) mixed ?_)
  rw [strict_print n h]
  unfold strictV
  simp (disch := omega) only [↓reduceIte, go_sem] <;> repeat with_reducible refine And.intro (by first | omega | decide) ?_
  refine (c_four_Loose (printF n) (by omega)).on (go 200 (fun _ => false) mixed ?_)
  rw [hp, hlo]
  simp (disch := omega) only [↓reduceIte, go_sem] <;> repeat with_reducible refine And.intro (by first | omega | decide) ?_
  refine (c_four_Loose (printF n ++ [46]) (by simp; omega)).on (go 200 (fun _ => false) mixed ?_)
  rw [hpd, hlo]
  simp (disch := omega) only [↓reduceIte, go_sem] <;> repeat with_reducible refine And.intro (by first | omega | decide) ?_
  refine (c_four_Bytes n h).on (go 200 (fun _ => false) mixed ?_)
  unfold bytesV
  simp (disch := omega) only [↓reduceIte, go_sem] <;> repeat with_reducible refine And.intro (by first | omega | decide) ?_
  refine (c_abatisref02_Print n h).on (go 200 (fun _ => false) mixed ?_)
  simp (disch := omega) only [↓reduceIte, go_sem] <;> repeat with_reducible refine And.intro (by first | omega | decide) ?_
  refine (c_four_Of _ _ _ _ h3 h2 h1 h0).on (go 200 (fun _ => false) mixed ?_)
  rw [hof]
  simp (disch := omega) only [↓reduceIte, go_sem, e3, e0] <;> repeat with_reducible refine And.intro (by first | omega | decide) ?_
  refine c_abatislaw02_lives.on (go 200 (fun _ => false) mixed ?_)
  simp (disch := omega) only [↓reduceIte, go_sem] <;> repeat with_reducible refine And.intro (by first | omega | decide) ?_
  exact fin_drop (.inr rfl) hb rfl (by simp)
theorem dec_beq {p q : Prop} {i : Decidable p} {j : Decidable q} (h : p ↔ q) : (decide p == decide q) = true := by
  rw [beq_iff_eq, decide_eq_decide]; exact h

theorem of4_inj {a b c d e f g h : Nat} (hb : b ≤ 255) (hc : c ≤ 255) (hd : d ≤ 255) (hf : f ≤ 255) (hg : g ≤ 255) (hh : h ≤ 255) : of4 a b c d = of4 e f g h ↔ (a = e ∧ b = f ∧ c = g ∧ d = h) := by
  unfold of4; omega

theorem c_abatislaw02_FourBytes (a : Nat) (ha : a ≤ 255) (b : Nat) (hb' : b ≤ 255) (c : Nat) (hc : c ≤ 255) (d : Nat) (hd : d ≤ 255) (e : Nat) (he : e ≤ 255) (f : Nat) (hf : f ≤ 255) (g : Nat) (hg : g ≤ 255) (h : Nat) (hh : h ≤ 255) :
    GCall 5 [.agg [.int .u8 a, .int .u8 b, .int .u8 c, .int .u8 d], .agg [.int .u8 e, .int .u8 f, .int .u8 g, .int .u8 h]] (.bool true) := by
  intro H hG
  have la := dec3 a ha
  have lb := dec3 b hb'
  have lc := dec3 c hc
  have ld := dec3 d hd
  refine scall_of (ord := fun _ => []) (rs := [4]) Tryd.func5 rfl (by kernel_rfl) (by kernel_rfl) (by kernel_rfl) Tryd.ntmps5 fun hb hargs => go 200 (fun _ => false) mixed ?_
  simp (disch := omega) only [↓reduceIte, go_sem] <;> repeat with_reducible refine And.intro (by first | omega | decide) ?_
  refine (c_abatisref01_Decimal a (by omega)).onq (go 200 (fun _ => false) mixed ?_)
  simp (disch := omega) only [↓reduceIte, go_sem, List.length_append] <;> repeat with_reducible refine And.intro (by first | omega | decide) ?_
  refine (c_abatisref01_Decimal b (by omega)).onq (go 200 (fun _ => false) mixed ?_)
  simp (disch := omega) only [↓reduceIte, go_sem, List.length_append] <;> repeat with_reducible refine And.intro (by first | omega | decide) ?_
  refine (c_abatisref01_Decimal c (by omega)).onq (go 200 (fun _ => false) mixed ?_)
  simp (disch := omega) only [↓reduceIte, go_sem, List.length_append] <;> repeat with_reducible refine And.intro (by first | omega | decide) ?_
  refine (c_abatisref01_Decimal d (by omega)).onq (go 200 (fun _ => false) mixed ?_)
  simp (disch := omega) only [↓reduceIte, go_sem, List.length_append] <;> repeat with_reducible refine And.intro (by first | omega | decide) ?_
  have hs : decF a ++ [46] ++ decF b ++ [46] ++ decF c ++ [46] ++ decF d = dot4 a b c d := rfl
  have hl := dot4_len a b c d ha hb' hc hd
  have hin : of4 a b c d ≤ 4294967295 := by unfold of4; omega
  obtain ⟨b3, b2, b1, b0⟩ := of_by a b c d ha hb' hc hd
  have hp : printF (of4 a b c d) = dot4 a b c d := by unfold printF; rw [b3, b2, b1, b0]
  have hbv : bytesV (of4 a b c d) = .agg [.int .u8 a, .int .u8 b, .int .u8 c, .int .u8 d] := by unfold bytesV; rw [b3, b2, b1, b0]
  have hinj := of4_inj (a := a) (e := e) hb' hc hd hf hg hh
  rw [hs]
  refine (c_four_Strict (dot4 a b c d) (by omega)).on hG.app (go 200 (fun _ => false) mixed ?_)
  rw [strict_dot a b c d ha hb' hc hd]
  unfold strictV
  simp (disch := omega) only [↓reduceIte, go_sem] <;> repeat with_reducible refine And.intro (by first | omega | decide) ?_
  refine (c_four_Of a b c d ha hb' hc hd).onq (go 200 (fun _ => false) mixed ?_)
  simp (disch := omega) only [↓reduceIte, go_sem] <;> repeat with_reducible refine And.intro (by first | omega | decide) ?_
  refine (c_four_Bytes _ hin).onq (go 200 (fun _ => false) mixed ?_)
  rw [hbv]
  simp (disch := omega) only [↓reduceIte, go_sem] <;> repeat with_reducible refine And.intro (by first | omega | decide) ?_
  refine (c_four_Print _ hin _ hG.app).onq (go 200 (fun _ => false) mixed ?_)
  rw [hp]
  simp (disch := omega) only [↓reduceIte, go_sem] <;> repeat with_reducible refine And.intro (by first | omega | decide) ?_
  refine (c_four_Of a b c d ha hb' hc hd).onq (go 200 (fun _ => false) mixed ?_)
  simp (disch := omega) only [↓reduceIte, go_sem] <;> repeat with_reducible refine And.intro (by first | omega | decide) ?_
  refine (c_four_Of e f g h he hf hg hh).onq (go 200 (fun _ => false) mixed ?_)
  simp (disch := omega) only [↓reduceIte, go_sem] <;> repeat with_reducible refine And.intro (by first | omega | decide) ?_
  refine ⟨fun hdec => ?_, fun hn => absurd (dec_beq (hinj.trans (by simp only [List.cons.injEq, PV.int.injEq, true_and, and_true, Int.ofNat_inj]))) hn⟩
  refine c_abatislaw02_lives.onq (go 200 (fun _ => false) mixed ?_)
  simp (disch := omega) only [↓reduceIte, go_sem, hdec] <;> repeat with_reducible refine And.intro (by first | omega | decide) ?_
  exact fin_drop (.inr rfl) hb rfl (by simp)
end Go.Proofs.GoC
