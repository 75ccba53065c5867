/-
  What the functions compute: prefixes that hold addresses, their row, their texts. No claim by itself.
-/
import Derived.Test.YtipbijklplfkhaaGreatDoorGoCidrB
import Derived.Lib.LastIndexByte
namespace Go.Proofs.GoC
open Go Go.Proofs.SL
set_option linter.unusedSimpArgs false
set_option linter.unusedVariables false
set_option maxRecDepth 10000
set_option maxHeartbeats 4000000

/-- Whether a prefix has an address, as the program tells it. -/
def hasP (f : Int) (l : List Nat) (b : Int) (g : Int) (m : List Nat) : Bool := decide (g = f) && decide (maskL g m b = l ∧ (maskN g b : Int) = b)

theorem c_cidr_Has (f : Int) (l : List Nat) (hl : l.length = 16) (b : Int) (g : Int) (m : List Nat) (hm : m.length = 16) (hme : ∀ b ∈ m, b ≤ 255) : PCall Tryz.prog 26 [preV f l b, adrV g m] (.bool (hasP f l b g m)) := by
  intro H
  have ml := maskL_len (f := g) (b := b) hm
  unfold hasP
  refine scall_of (ord := fun _ => []) (rs := [4]) Tryz.func26 rfl (by kernel_rfl) (by kernel_rfl) (by kernel_rfl) Tryz.ntmps26 fun hb hargs => go 200 (fun _ => false) mixed ?_
  by_cases hfg : g = f
  · subst hfg
    simp (disch := omega) only [↓reduceIte, go_sem, hl, hm, preV, preC, adrV, adrC] <;> repeat with_reducible refine And.intro (by first | omega | decide) ?_
    refine (c_cidr_Mask g m hm hme b).onq (go 200 (fun _ => false) mixed ?_)
    simp (disch := omega) only [↓reduceIte, go_sem, hl, hm, preV, preC, ml] <;> repeat with_reducible refine And.intro (by first | omega | decide) ?_
    exact fin_drop (.inr rfl) hb (congrArg PV.bool (by rw [Bool.eq_iff_iff] <;> simp)) (by simp)
  · simp (disch := omega) only [↓reduceIte, go_sem, hl, hm, preV, preC, adrV, adrC, hfg] <;> repeat with_reducible refine And.intro (by first | omega | decide) ?_
    exact fin_drop (.inr rfl) hb (by simp [retV, hfg]) (by simp)

/-- Of a prefix that may be: its bits are the address's. -/
theorem has_bits {f : Int} {l : List Nat} {n : Nat} (h : GoodX f l n) {g : Int} {m : List Nat} (hm : GoodA (g, m)) : hasP f l n g m = true ↔ (g = f ∧ ∀ q, q < n → bt m q = bt l q) := by
  have hB := bitsA_le f
  unfold hasP
  simp only [Bool.and_eq_true, decide_eq_true_eq]
  constructor
  · rintro ⟨rfl, e, _⟩
    refine ⟨rfl, fun q hq => ?_⟩
    have := h.le
    rw [← e, maskL_bt hm.len hm.le (by omega), maskN_nat h.le, if_neg (by omega)]
  · rintro ⟨rfl, hq⟩
    refine ⟨rfl, bt_ext (maskL_len hm.len) h.len (maskL_le hm.le) h.bd fun q hq2 => ?_, by rw [maskN_nat h.le]⟩
    rw [maskL_bt hm.len hm.le hq2, maskN_nat h.le]
    split
    · rename_i hc; exact (h.zero q hc.1 hq2).symm
    · rename_i hc
      by_cases hqn : q < n
      · exact hq q hqn
      · rw [h.zero q (by omega) hq2]
        exact good_tail hm q (by show bitsA g ≤ q; omega) hq2

/-- Which prefix comes first. -/
def cmpX (f : Int) (l : List Nat) (b : Int) (g : Int) (m : List Nat) (c : Int) : Int := if cmpA f l g m = 0 then cmpI b c else cmpA f l g m

/-! Texts. -/
def lastI (c : UInt8) (l : List UInt8) : Int := Lib.lastIndexByte (bs l) c.toNat

theorem c_strings_LastIndexByte (l : List UInt8) (c : UInt8) (hl : l.length < 1000000) : PCall Tryz.prog 11 [.str (bs l), .int .u8 (c.toNat : Nat)] (.int .i64 (lastI c l)) := by
  intro H
  refine scall_lift Tryz.func11 rfl (by kernel_rfl) fun β w vs hI hs hv => ?_
  obtain ⟨v, u, rfl, h1, h2⟩ := vals2 hs hv
  rw [h1.str_inv, h2.int_inv]
  exact (Tryz.strings_LastIndexByte (bs l) (c.toNat : Nat) (by rw [bs_size]; omega) w).mono fun e w' ⟨he, hw⟩ => ⟨_, he, hw ▸ Below.same, fun β' w2 => .int _ _⟩

theorem lastI_cases (c : UInt8) (l : List UInt8) : (c ∉ l ∧ lastI c l = -1) ∨ ∃ a d, l = a ++ c :: d ∧ c ∉ d ∧ lastI c l = (a.length : Nat) := by
  have hget : ∀ j, j < l.length → (((bs l).data[j]!).toNat : Int) = ((l.getD j 0).toNat : Int) := fun j hj => by
    simp [bs, hj, List.getD_eq_getElem?_getD]
  have hc : ∀ j, j < l.length → ((((bs l).data[j]!).toNat : Int) = (c.toNat : Int) ↔ l.getD j 0 = c) := fun j hj => by
    rw [hget j hj]
    constructor
    · intro h; exact UInt8.toNat_inj.mp (by omega)
    · intro h; rw [h]
  rcases Lib.lastIdx_spec (bs l) c.toNat l.length with ⟨e, hn⟩ | ⟨i, hi, e, hci, hn⟩
  · left
    refine ⟨fun hm => ?_, ?_⟩
    · obtain ⟨j, hj, rfl⟩ := List.getElem_of_mem hm
      exact hn j hj ((hc j hj).mpr (by simp [List.getD_eq_getElem?_getD, hj]))
    · unfold lastI Lib.lastIndexByte; rw [bs_size]; exact e
  · right
    have hci' := (hc i hi).mp hci
    refine ⟨l.take i, l.drop (i + 1), ?_, fun hm => ?_, ?_⟩
    · have : l[i] = c := by simpa [List.getD_eq_getElem?_getD, hi] using hci'
      rw [← this, ← List.drop_eq_getElem_cons hi, List.take_append_drop]
    · obtain ⟨j, hj, hjc⟩ := List.getElem_of_mem hm
      rw [List.length_drop] at hj
      rw [List.getElem_drop] at hjc
      exact hn (i + 1 + j) (by omega) (by omega) ((hc _ (by omega)).mpr (by simp [List.getD_eq_getElem?_getD, show i + 1 + j < l.length by omega, hjc]))
    · unfold lastI Lib.lastIndexByte; rw [bs_size, e, List.length_take]; congr 1; omega

@[go_sem] theorem len_z16 : z16.length = 16 := rfl

/-- The prefix of a text, or the error. -/
def parseXd (a d : List UInt8) : Except Nat (Int × List Nat × Nat) :=
  match parseA a, numF 10 d 0 with
  | some A, some n => if d ≠ [] ∧ decF n.toNat = d then (if mayP A.1 A.2 n then .ok (A.1, A.2, n.toNat) else .error 1) else .error 2
  | _, _ => .error 2
def parseX (s : List UInt8) : Except Nat (Int × List Nat × Nat) :=
  if lastI 47 s < 0 then .error 2 else parseXd (s.take (lastI 47 s).toNat) (s.drop ((lastI 47 s).toNat + 1))
def parseXV : Except Nat (Int × List Nat × Nat) → PV
  | .ok p => .tup [preV p.1 p.2.1 p.2.2, .int .i64 0]
  | .error e => .tup [preV 0 z16 0, .int .i64 (e : Nat)]
theorem parseXV_bdd {n : Nat} (x : Except Nat (Int × List Nat × Nat)) : Bdd n (parseXV x) := by
  have key : ∀ (f : Int) (l : List Nat) (b c : Int), Bdd n (.tup [preV f l b, .int .i64 c]) := fun f l b c => .tup _ fun p hp => by
    simp only [List.mem_cons, List.not_mem_nil, or_false] at hp
    rcases hp with rfl | rfl
    · exact bdd_pre
    · exact .int _ _
  cases x
  · exact key _ _ _ _
  · exact key _ _ _ _

theorem c_cidr_Parse (s : List UInt8) (hl : s.length < 900000) : GCall 5 [.str (bs s)] (parseXV (parseX s)) := by
  intro H hG
  have lz : z16.length = 16 := rfl
  unfold parseX
  refine scall_ofc (ord := fun _ => []) (tdOf_ok _) (rs := [.cell 2 26, .tmp 3]) Tryz.func5 rfl (by kernel_rfl) (by kernel_rfl) (by kernel_rfl) Tryz.ntmps5 fun hb hargs => go 200 (fun _ => false) mixed ?_
  simp (disch := omega) only [↓reduceIte, go_sem] <;> repeat with_reducible refine And.intro (by first | omega | decide) ?_
  refine (c_strings_LastIndexByte s 47 (by omega)).on (go 200 (fun _ => false) mixed ?_)
  rcases lastI_cases 47 s with ⟨_, e⟩ | ⟨a, d, rfl, hd, e⟩
  · rw [e, if_pos (by decide)]
    simp (disch := omega) only [↓reduceIte, go_sem] <;> repeat with_reducible refine And.intro (by first | omega | decide) ?_
    refine fin_c (.inr rfl) hb ?_ (parseXV_bdd (.error 2))
    simp (disch := omega) only [↓reduceIte, go_sem] <;> repeat with_reducible refine And.intro (by first | omega | decide) ?_
    rfl
  · rw [e, if_neg (by omega)]
    have ta : List.take ((a.length : Nat) : Int).toNat (a ++ 47 :: d) = a := by simp
    have td : List.drop (((a.length : Nat) : Int).toNat + 1) (a ++ 47 :: d) = d := by simp
    have ta' : List.take a.length (a ++ 47 :: d) = a := by simp
    have td' : List.drop (a.length + 1) (a ++ 47 :: d) = d := by simp
    have td2 : List.drop (a.length + 1) (List.take (a.length + (d.length + 1)) (a ++ 47 :: d)) = d := by rw [List.take_of_length_le (by simp), td']
    rw [ta, td]
    rw [List.length_append, List.length_cons] at hl
    simp (disch := omega) only [↓reduceIte, go_sem, List.length_append, List.length_cons, ta'] <;> repeat with_reducible refine And.intro (by first | omega | decide) ?_
    refine (c_addr_Parse a (by omega)).on hG.app (go 200 (fun _ => false) mixed ?_)
    unfold parseXd
    cases hA : parseA a with
    | none =>
      simp only [parseAV]
      simp (disch := omega) only [↓reduceIte, go_sem, adrV, adrC, len_z16, List.length_append, List.length_cons, td2] <;> repeat with_reducible refine And.intro (by first | omega | decide) ?_
      refine (c_text_Number d 10 (by omega) (by omega) (by omega)).on (go 200 (fun _ => false) mixed ?_)
      unfold numV
      cases hN : numF 10 d 0 with
      | none =>
        simp (disch := omega) only [↓reduceIte, go_sem, len_z16] <;> repeat with_reducible refine And.intro (by first | omega | decide) ?_
        refine fin_c (.inr rfl) hb ?_ (parseXV_bdd (.error 2))
        simp (disch := omega) only [↓reduceIte, go_sem] <;> repeat with_reducible refine And.intro (by first | omega | decide) ?_
        rfl
      | some n =>
        simp (disch := omega) only [↓reduceIte, go_sem, len_z16] <;> repeat with_reducible refine And.intro (by first | omega | decide) ?_
        refine fin_c (.inr rfl) hb ?_ (parseXV_bdd (.error 2))
        simp (disch := omega) only [↓reduceIte, go_sem] <;> repeat with_reducible refine And.intro (by first | omega | decide) ?_
        rfl
    | some A =>
      have hg := parseA_good hA
      have gl := hg.len
      have gle := hg.le
      simp only [parseAV]
      simp (disch := omega) only [↓reduceIte, go_sem, adrV, adrC, gl, List.length_append, List.length_cons, td2] <;> repeat with_reducible refine And.intro (by first | omega | decide) ?_
      refine (c_text_Number d 10 (by omega) (by omega) (by omega)).on (go 200 (fun _ => false) mixed ?_)
      unfold numV
      cases hN : numF 10 d 0 with
      | none =>
        simp (disch := omega) only [↓reduceIte, go_sem, gl] <;> repeat with_reducible refine And.intro (by first | omega | decide) ?_
        refine fin_c (.inr rfl) hb ?_ (parseXV_bdd (.error 2))
        simp (disch := omega) only [↓reduceIte, go_sem] <;> repeat with_reducible refine And.intro (by first | omega | decide) ?_
        rfl
      | some n =>
        obtain ⟨n0, n1⟩ := numF_in 10 (by omega) d 0 n (by omega) hN (by omega)
        obtain ⟨m, rfl⟩ : ∃ m : Nat, n = m := ⟨n.toNat, by omega⟩
        simp only [Int.toNat_natCast]
        by_cases hd0 : d = []
        · subst hd0
          rw [if_neg (fun h => h.1 rfl)]
          simp (disch := omega) only [↓reduceIte, go_sem, gl, List.length_nil] <;> repeat with_reducible refine And.intro (by first | omega | decide) ?_
          refine fin_c (.inr rfl) hb ?_ (parseXV_bdd (.error 2))
          simp (disch := omega) only [↓reduceIte, go_sem] <;> repeat with_reducible refine And.intro (by first | omega | decide) ?_
          rfl
        · have hdl : 0 < d.length := List.length_pos_iff.mpr hd0
          simp (disch := omega) only [↓reduceIte, go_sem, gl, hdl] <;> repeat with_reducible refine And.intro (by first | omega | decide) ?_
          refine ⟨_, c_text_Decimal m (by omega) _ hG.app, go 200 (fun _ => false) mixed ?_⟩
          by_cases hdec : decF m = d
          · rw [if_pos ⟨hd0, hdec⟩]
            simp (disch := omega) only [↓reduceIte, go_sem, gl, hdec, List.length_append, List.length_cons, td2, preC, preV] <;> repeat with_reducible refine And.intro (by first | omega | decide) ?_
            refine (c_cidr_May A.1 A.2 gl gle m).on (go 200 (fun _ => false) mixed ?_)
            cases hm : mayP A.1 A.2 m with
            | true =>
              simp (disch := omega) only [↓reduceIte, go_sem, gl] <;> repeat with_reducible refine And.intro (by first | omega | decide) ?_
              refine fin_c (.inr rfl) hb ?_ (parseXV_bdd (.ok (A.1, A.2, m)))
              simp (disch := omega) only [↓reduceIte, go_sem, gl] <;> repeat with_reducible refine And.intro (by first | omega | decide) ?_
              rfl
            | false =>
              simp (disch := omega) only [↓reduceIte, go_sem, gl] <;> repeat with_reducible refine And.intro (by first | omega | decide) ?_
              refine fin_c (.inr rfl) hb ?_ (parseXV_bdd (.error 1))
              simp (disch := omega) only [↓reduceIte, go_sem] <;> repeat with_reducible refine And.intro (by first | omega | decide) ?_
              rfl
          · rw [if_neg (fun h => hdec h.2)]
            simp (disch := omega) only [↓reduceIte, go_sem, gl, hdec, List.length_append, List.length_cons, td2] <;> repeat with_reducible refine And.intro (by first | omega | decide) ?_
            refine fin_c (.inr rfl) hb ?_ (parseXV_bdd (.error 2))
            simp (disch := omega) only [↓reduceIte, go_sem] <;> repeat with_reducible refine And.intro (by first | omega | decide) ?_
            rfl

theorem lives_X : parseX [49, 55, 50, 46, 49, 54, 46, 48, 46, 48, 47, 49, 50] = .ok (4, [172, 16, 0, 0, 0, 0, 0, 0, 0, 0, 0, 0, 0, 0, 0, 0], 12) := by kernel_rfl
theorem lives_H : hasP 4 [172, 16, 0, 0, 0, 0, 0, 0, 0, 0, 0, 0, 0, 0, 0, 0] 12 4 (of4L 2887778303) = true := by decide +kernel

theorem c_abatislaw05_lives : GCall 10 [] (.bool true) := by
  intro H hG
  refine scall_of (ord := fun _ => []) (rs := [0]) Tryz.func10 rfl (by kernel_rfl) (by kernel_rfl) (by kernel_rfl) Tryz.ntmps10 fun hb hargs => go 200 (fun _ => false) mixed ?_
  simp (disch := omega) only [↓reduceIte, go_sem] <;> repeat with_reducible refine And.intro (by first | omega | decide) ?_
  refine (c_cidr_Parse [49, 55, 50, 46, 49, 54, 46, 48, 46, 48, 47, 49, 50] (by decide)).on hG (go 200 (fun _ => false) mixed ?_)
  rw [lives_X]
  simp only [parseXV]
  have l16 : [172, 16, 0, 0, 0, 0, 0, 0, 0, 0, 0, 0, 0, 0, 0, 0].length = 16 := rfl
  simp (disch := omega) only [↓reduceIte, go_sem, preV, preC, l16] <;> repeat with_reducible refine And.intro (by first | omega | decide) ?_
  refine (c_abatisref04_Of4 2887778303 (by omega)).onq (go 200 (fun _ => false) mixed ?_)
  simp (disch := omega) only [↓reduceIte, go_sem] <;> repeat with_reducible refine And.intro (by first | omega | decide) ?_
  refine (c_cidr_Has 4 [172, 16, 0, 0, 0, 0, 0, 0, 0, 0, 0, 0, 0, 0, 0, 0] rfl 12 4 (of4L 2887778303) rfl (of4L_le _ (by omega))).onq (go 200 (fun _ => false) mixed ?_)
  rw [lives_H]
  simp (disch := omega) only [↓reduceIte, go_sem] <;> repeat with_reducible refine And.intro (by first | omega | decide) ?_
  exact fin_drop (.inr rfl) hb rfl (by simp)
end Go.Proofs.GoC
