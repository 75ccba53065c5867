/-
  WRITTEN for this repo's claims. CIDR 3: PREFIXES AS TEXTS.
-/
import Derived.Test.YtipbijklplfkhaaGreatDoorGoCidrC

namespace Go.Proofs.GoC
open Go Go.Proofs.SL
set_option linter.unusedSimpArgs false
set_option linter.unusedVariables false
set_option maxRecDepth 10000
set_option maxHeartbeats 4000000

def IsLast (c : UInt8) (l : List UInt8) (at' : Int) : Prop := (c ∉ l ∧ at' = -1) ∨ ∃ a d, l = a ++ c :: d ∧ c ∉ d ∧ at' = (a.length : Nat)
theorem split_last {c : UInt8} {a d a' d' : List UInt8} (hd : c ∉ d) (hd' : c ∉ d') (h : a ++ c :: d = a' ++ c :: d') : a = a' ∧ d = d' := by
  rcases List.append_eq_append_iff.mp h with ⟨m, e1, e2⟩ | ⟨m, e1, e2⟩
  · cases m with
    | nil => simp at e1 e2; exact ⟨e1.symm, e2⟩
    | cons x m => simp at e2; exact absurd (by rw [e2.2]; simp) hd
  · cases m with
    | nil => simp at e1 e2; exact ⟨e1, e2.symm⟩
    | cons x m => simp at e2; exact absurd (by rw [e2.2]; simp) hd'
theorem isLast_unique {c : UInt8} {l : List UInt8} {i j : Int} (h : IsLast c l i) (h' : IsLast c l j) : i = j := by
  rcases h with ⟨h1, rfl⟩ | ⟨a, d, rfl, h2, rfl⟩ <;> rcases h' with ⟨h1', rfl⟩ | ⟨a', d', e, h2', rfl⟩
  · rfl
  · exact absurd (by rw [e]; simp) h1
  · exact absurd (by simp) h1'
  · rw [(split_last h2 h2' e).1]
theorem isLast_step {c : UInt8} {l : List UInt8} {k : Nat} (hk : k < l.length) {i : Int} (h : IsLast c (l.take k) i) : IsLast c (l.take (k + 1)) (if l.getD k 0 = c then (k : Int) else i) := by
  have hg : l[k] = l.getD k 0 := by simp [List.getD_eq_getElem?_getD, hk]
  have hgk := List.take_succ_eq_append_getElem hk
  rw [hgk, hg]
  generalize l.getD k 0 = x
  by_cases hc : x = c
  · rw [if_pos hc, hc]
    exact .inr ⟨l.take k, [], rfl, by simp, by rw [List.length_take]; omega⟩
  · rw [if_neg hc]
    rcases h with ⟨h1, rfl⟩ | ⟨a, d, e, h2, rfl⟩
    · exact .inl ⟨by simp only [List.mem_append, List.mem_singleton, not_or]; exact ⟨h1, Ne.symm hc⟩, rfl⟩
    · exact .inr ⟨a, d ++ [x], by rw [e]; simp, by simp only [List.mem_append, List.mem_singleton, not_or]; exact ⟨h2, Ne.symm hc⟩, rfl⟩

theorem c_abatisref05_Parse (s : List UInt8) (hl : s.length < 900000) : PCall Tryz.prog 6 [.str (bs s)] (parseXV (parseX s)) := by
  intro H
  have lz : z16.length = 16 := rfl
  have hend := fun i (h : IsLast 47 s i) => isLast_unique h (lastI_cases 47 s)
  unfold parseX
  refine scall_ofc (ord := fun _ => []) (tdOf_ok _) (rs := [.cell 2 26, .tmp 3]) Tryz.func6 rfl (by kernel_rfl) (by kernel_rfl) (by kernel_rfl) Tryz.ntmps6 fun hb hargs => go 200 (fun _ => false) mixed ?_
  simp (disch := omega) only [↓reduceIte, go_sem] <;> repeat with_reducible refine And.intro (by first | omega | decide) ?_
  refine runs_loopA (fun x : Nat × Int => x.1 ≤ s.length ∧ -1 ≤ x.2 ∧ x.2 ≤ 900000 ∧ IsLast 47 (s.take x.1) x.2) (fun x => s.length - x.1) [true, false, true, true, true, true]
    (fun x => slots 69 [.str (bs s), .any, .ptr H.length 0 0, .int .i64 0, .int .i64 x.2, .int .i64 x.1]) (fun _ => H ++ [some (.cells 0 (.int .i64 0 :: (u8s z16 ++ [.int .i64 0])))]) (by rfl) (0, -1) ⟨Nat.zero_le _, by omega, by omega, .inl ⟨by simp, rfl⟩⟩ rfl rfl ?_
  rintro ⟨k, i⟩ ⟨hk, hn0, hn1, hnum⟩
  have hk : k ≤ s.length := hk
  have hn0 : -1 ≤ i := hn0
  have hn1 : i ≤ 900000 := hn1
  have hnum : IsLast 47 (s.take k) i := hnum
  refine go 200 (fun _ => false) mixed ?_
  simp (disch := omega) only [↓reduceIte, go_sem] <;> repeat with_reducible refine And.intro (by first | omega | decide) ?_
  by_cases hlt : k < s.length
  · have hst := isLast_step hlt hnum
    generalize hb' : s.getD k 0 = b at *
    by_cases h47 : b = 47
    · subst h47
      rw [if_pos rfl] at hst
      simp (disch := omega) only [↓reduceIte, go_sem, hlt, hb', show UInt8.toNat 47 = 47 from rfl] <;> repeat with_reducible refine And.intro (by first | omega | decide) ?_
      exact rnd_next (k + 1, (k : Int)) ⟨by omega, by omega, by omega, hst⟩ (by simp only; omega) rfl rfl
    · rw [if_neg h47] at hst
      have h47' : ¬ b.toNat = 47 := fun h => h47 (UInt8.toNat_inj.mp (by simpa using h))
      simp (disch := omega) only [↓reduceIte, go_sem, hlt, hb', h47', h47] <;> repeat with_reducible refine And.intro (by first | omega | decide) ?_
      exact rnd_next (k + 1, i) ⟨by omega, by omega, by omega, hst⟩ (by simp only; omega) rfl rfl
  · rw [List.take_of_length_le (by omega)] at hnum
    have hi := hend _ hnum
    have hcs := lastI_cases 47 s
    rw [← hi] at hcs ⊢
    clear hend
    simp (disch := omega) only [↓reduceIte, go_sem, hlt] <;> repeat with_reducible refine And.intro (by first | omega | decide) ?_
    refine go 200 (fun _ => false) mixed ?_
    rcases hcs with ⟨_, e⟩ | ⟨a, d, rfl, hd, e⟩
    · subst e
      rw [if_pos (by decide)]
      simp (disch := omega) only [↓reduceIte, go_sem] <;> repeat with_reducible refine And.intro (by first | omega | decide) ?_
      refine fin_c (.inr rfl) hb ?_ (parseXV_bdd (.error 2))
      simp (disch := omega) only [↓reduceIte, go_sem] <;> repeat with_reducible refine And.intro (by first | omega | decide) ?_
      rfl
    · subst e
      rw [if_neg (by omega)]
      have ta : List.take ((a.length : Nat) : Int).toNat (a ++ 47 :: d) = a := by simp
      have td : List.drop (((a.length : Nat) : Int).toNat + 1) (a ++ 47 :: d) = d := by simp
      have ta' : List.take a.length (a ++ 47 :: d) = a := by simp
      have td' : List.drop (a.length + 1) (a ++ 47 :: d) = d := by simp
      have td2 : List.drop (a.length + 1) (List.take (a.length + (d.length + 1)) (a ++ 47 :: d)) = d := by rw [List.take_of_length_le (by simp), td']
      rw [ta, td]
      rw [List.length_append, List.length_cons] at hl
      simp (disch := omega) only [↓reduceIte, go_sem, List.length_append, List.length_cons, ta'] <;> repeat with_reducible refine And.intro (by first | omega | decide) ?_
      refine (c_abatisref04_Parse a (by omega)).on (go 200 (fun _ => false) mixed ?_)
      unfold parseXd
      cases hA : parseA a with
      | none =>
        simp only [parseAV]
        simp (disch := omega) only [↓reduceIte, go_sem, adrV, adrC, len_z16, List.length_append, List.length_cons, td2] <;> repeat with_reducible refine And.intro (by first | omega | decide) ?_
        refine (c_abatisref01_Number d 10 (by omega) (by omega) (by omega)).on (go 200 (fun _ => false) mixed ?_)
        unfold numV
        cases hN : numF 10 d 0 with
        | none =>
          simp (disch := omega) only [↓reduceIte, go_sem, len_z16] <;> repeat with_reducible refine And.intro (by first | omega | decide) ?_
          refine fin_c (.inr rfl) hb ?_ (parseXV_bdd (.error 2))
          simp (disch := omega) only [↓reduceIte, go_sem] <;> repeat with_reducible refine And.intro (by first | omega | decide) ?_
          rfl
        | some n =>
          simp (disch := omega) only [↓reduceIte, go_sem, len_z16] <;> repeat with_reducible refine And.intro (by first | omega | decide) ?_
          refine fin_c (.inr rfl) hb ?_ (parseXV_bdd (.error 2))
          simp (disch := omega) only [↓reduceIte, go_sem] <;> repeat with_reducible refine And.intro (by first | omega | decide) ?_
          rfl
      | some A =>
        have hg := parseA_good hA
        have gl := hg.len
        have gle := hg.le
        simp only [parseAV]
        simp (disch := omega) only [↓reduceIte, go_sem, adrV, adrC, gl, List.length_append, List.length_cons, td2] <;> repeat with_reducible refine And.intro (by first | omega | decide) ?_
        refine (c_abatisref01_Number d 10 (by omega) (by omega) (by omega)).on (go 200 (fun _ => false) mixed ?_)
        unfold numV
        cases hN : numF 10 d 0 with
        | none =>
          simp (disch := omega) only [↓reduceIte, go_sem, gl] <;> repeat with_reducible refine And.intro (by first | omega | decide) ?_
          refine fin_c (.inr rfl) hb ?_ (parseXV_bdd (.error 2))
          simp (disch := omega) only [↓reduceIte, go_sem] <;> repeat with_reducible refine And.intro (by first | omega | decide) ?_
          rfl
        | some n =>
          obtain ⟨n0, n1⟩ := numF_in 10 (by omega) d 0 n (by omega) hN (by omega)
          obtain ⟨m, rfl⟩ : ∃ m : Nat, n = m := ⟨n.toNat, by omega⟩
          simp only [Int.toNat_natCast]
          by_cases hd0 : d = []
          · subst hd0
            rw [if_neg (fun h => h.1 rfl)]
            simp (disch := omega) only [↓reduceIte, go_sem, gl, List.length_nil] <;> repeat with_reducible refine And.intro (by first | omega | decide) ?_
            refine fin_c (.inr rfl) hb ?_ (parseXV_bdd (.error 2))
            simp (disch := omega) only [↓reduceIte, go_sem] <;> repeat with_reducible refine And.intro (by first | omega | decide) ?_
            rfl
          · have hdl : 0 < d.length := List.length_pos_iff.mpr hd0
            have hdi := dec_iff d m hd0 hN
            rw [Int.toNat_natCast] at hdi
            by_cases hd1 : 1 < d.length
            · by_cases h48 : d.getD 0 0 = 48
              · rw [if_neg (fun h => (hdi.mp h.2) ⟨hd1, h48⟩)]
                simp (disch := omega) only [↓reduceIte, go_sem, gl, hdl, hd1, h48, show UInt8.toNat 48 = 48 from rfl] <;> repeat with_reducible refine And.intro (by first | omega | decide) ?_
                refine fin_c (.inr rfl) hb ?_ (parseXV_bdd (.error 2))
                simp (disch := omega) only [↓reduceIte, go_sem] <;> repeat with_reducible refine And.intro (by first | omega | decide) ?_
                rfl
              · have hdec := hdi.mpr fun h => h48 h.2
                have h48' : ¬ (d.getD 0 0).toNat = 48 := fun h => h48 (UInt8.toNat_inj.mp (by simpa using h))
                rw [if_pos ⟨hd0, hdec⟩]
                simp (disch := omega) only [↓reduceIte, go_sem, gl, hdl, hd1, h48, h48', preC, preV] <;> repeat with_reducible refine And.intro (by first | omega | decide) ?_
                refine (c_abatisref05_May A.1 A.2 gl gle m).on (go 200 (fun _ => false) mixed ?_)
                cases hm : mayP A.1 A.2 m with
                | true =>
                  simp (disch := omega) only [↓reduceIte, go_sem, gl] <;> repeat with_reducible refine And.intro (by first | omega | decide) ?_
                  refine fin_c (.inr rfl) hb ?_ (parseXV_bdd (.ok (A.1, A.2, m)))
                  simp (disch := omega) only [↓reduceIte, go_sem, gl] <;> repeat with_reducible refine And.intro (by first | omega | decide) ?_
                  rfl
                | false =>
                  simp (disch := omega) only [↓reduceIte, go_sem, gl] <;> repeat with_reducible refine And.intro (by first | omega | decide) ?_
                  refine fin_c (.inr rfl) hb ?_ (parseXV_bdd (.error 1))
                  simp (disch := omega) only [↓reduceIte, go_sem] <;> repeat with_reducible refine And.intro (by first | omega | decide) ?_
                  rfl
            · have hdec := hdi.mpr fun h => hd1 h.1
              rw [if_pos ⟨hd0, hdec⟩]
              simp (disch := omega) only [↓reduceIte, go_sem, gl, hdl, hd1, preC, preV] <;> repeat with_reducible refine And.intro (by first | omega | decide) ?_
              refine (c_abatisref05_May A.1 A.2 gl gle m).on (go 200 (fun _ => false) mixed ?_)
              cases hm : mayP A.1 A.2 m with
              | true =>
                simp (disch := omega) only [↓reduceIte, go_sem, gl] <;> repeat with_reducible refine And.intro (by first | omega | decide) ?_
                refine fin_c (.inr rfl) hb ?_ (parseXV_bdd (.ok (A.1, A.2, m)))
                simp (disch := omega) only [↓reduceIte, go_sem, gl] <;> repeat with_reducible refine And.intro (by first | omega | decide) ?_
                rfl
              | false =>
                simp (disch := omega) only [↓reduceIte, go_sem, gl] <;> repeat with_reducible refine And.intro (by first | omega | decide) ?_
                refine fin_c (.inr rfl) hb ?_ (parseXV_bdd (.error 1))
                simp (disch := omega) only [↓reduceIte, go_sem] <;> repeat with_reducible refine And.intro (by first | omega | decide) ?_
                rfl

def printX (f : Int) (l : List Nat) (n : Nat) : List UInt8 := printA f l ++ 47 :: decF n

theorem c_cidr_Print (f : Int) (l : List Nat) (hx : GoodA (f, l)) (n : Nat) (hn : n ≤ 1000) : GCall 8 [preV f l n] (.str (bs (printX f l n))) := by
  intro H hG
  have hl : l.length = 16 := hx.len
  have hle : ∀ b ∈ l, b ≤ 255 := hx.le
  have hpl : (printA f l).length ≤ 100 := printA_len hx
  have hdl := decF_len n 17 (by omega)
  refine scall_of (ord := fun _ => []) (rs := [2]) Tryz.func8 rfl (by kernel_rfl) (by kernel_rfl) (by kernel_rfl) Tryz.ntmps8 fun hb hargs => go 200 (fun _ => false) mixed ?_
  simp (disch := omega) only [↓reduceIte, go_sem, preV, preC, hl] <;> repeat with_reducible refine And.intro (by first | omega | decide) ?_
  refine ⟨_, c_addr_Print f l hl hle _ hG.app, go 200 (fun _ => false) mixed ?_⟩
  simp (disch := omega) only [↓reduceIte, go_sem, preV, preC, hl] <;> repeat with_reducible refine And.intro (by first | omega | decide) ?_
  refine ⟨_, c_text_Decimal n (by omega) _ hG.app, go 200 (fun _ => false) mixed ?_⟩
  simp (disch := omega) only [↓reduceIte, go_sem, List.length_append, List.length_cons, List.length_nil] <;> repeat with_reducible refine And.intro (by first | omega | decide) ?_
  exact fin_drop (.inr rfl) hb (by simp [printX]; rfl) (by simp)

theorem c_abatisref05_Print (f : Int) (l : List Nat) (hx : GoodA (f, l)) (n : Nat) (hn : n ≤ 1000) : PCall Tryz.prog 9 [preV f l n] (.str (bs (printX f l n))) := by
  intro H
  have hl : l.length = 16 := hx.len
  have hle : ∀ b ∈ l, b ≤ 255 := hx.le
  have hpl : (printA f l).length ≤ 100 := printA_len hx
  have hdl := decF_len n 17 (by omega)
  refine scall_of (ord := fun _ => []) (rs := [2]) Tryz.func9 rfl (by kernel_rfl) (by kernel_rfl) (by kernel_rfl) Tryz.ntmps9 fun hb hargs => go 200 (fun _ => false) mixed ?_
  simp (disch := omega) only [↓reduceIte, go_sem, preV, preC, hl] <;> repeat with_reducible refine And.intro (by first | omega | decide) ?_
  refine (c_abatisref04_Print f l hl hle).onq (go 200 (fun _ => false) mixed ?_)
  simp (disch := omega) only [↓reduceIte, go_sem, preV, preC, hl] <;> repeat with_reducible refine And.intro (by first | omega | decide) ?_
  refine (c_abatisref01_Decimal n (by omega)).onq (go 200 (fun _ => false) mixed ?_)
  simp (disch := omega) only [↓reduceIte, go_sem, List.length_append, List.length_cons, List.length_nil] <;> repeat with_reducible refine And.intro (by first | omega | decide) ?_
  exact fin_drop (.inr rfl) hb (by simp [printX]; rfl) (by simp)
end Go.Proofs.GoC
