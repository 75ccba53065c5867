/-
  The law of names written once: any name, up to 10 records. No claim by itself.
-/
import Derived.Test.YtmgemdgbffmnjaaGoWireL
namespace Go.Proofs.GoC
open Go Go.Proofs.SL
set_option linter.unusedSimpArgs false
set_option linter.unusedVariables false
set_option maxRecDepth 10000
set_option maxHeartbeats 4000000

/-- A name that is not known is written label by label, and known from there. -/
theorem wr_fresh : ∀ (n : Nat) (s B : List UInt8) (es : Names), s.length = n → mayN s = true → (∀ e ∈ es, s.length < e.1.length) →
    (wrN s B es).1.length = B.length + sumL (labF s) + 1 ∧ ∃ l, (wrN s B es).2 = es ++ l ∧ (s ≠ [] → B.length < 16384 → ∃ l', l = (s, B.length) :: l') := by
  intro n
  induction n using Nat.strongRecOn with
  | _ n ih =>
    intro s B es hn hmay hes
    by_cases hs : s = []
    · subst hs
      rw [wrN_nil]
      refine ⟨?_, [], by simp, fun h => absurd rfl h⟩
      rw [List.length_append, show labF [] = [] from rfl]
      rfl
    · cases hf : findN s es with
      | some p => exact absurd (hes _ (findN_mem hf)) (Nat.lt_irrefl _)
      | none =>
        rw [wrN_none hs hf]
        have hdr := dotR_lt hs
        have hls := lab_step hmay hs
        have hmr := may_dotN hmay 1
        rw [show dotN 1 s = dotR s from rfl] at hmr
        have hl1 : (B ++ lab1 (dotL s)).length = B.length + 1 + (dotL s).length := by simp [lab1]; omega
        obtain ⟨h1, l, h2, _⟩ := ih _ (by omega) (dotR s) (B ++ lab1 (dotL s)) (if B.length < 16384 then es ++ [(s, B.length)] else es) rfl hmr (fun e he => by
          have : e ∈ es ∨ e = (s, B.length) := by
            split at he
            · rcases List.mem_append.mp he with h | h
              · exact .inl h
              · exact .inr (List.mem_singleton.mp h)
            · exact .inl he
          rcases this with h | h
          · have := hes e h; omega
          · rw [h]; exact hdr)
        refine ⟨by rw [h1, hl1, hls, sumL_cons]; omega, ?_⟩
        rw [h2]
        by_cases hB : B.length < 16384
        · rw [if_pos hB]
          exact ⟨(s, B.length) :: l, by simp, fun _ _ => ⟨l, rfl⟩⟩
        · rw [if_neg hB]
          exact ⟨l, rfl, fun _ h => absurd h hB⟩

theorem i64_1 : I64 1 := ⟨by decide, by decide⟩
theorem i64_0 : I64 0 := ⟨by decide, by decide⟩
def smallR (s : List UInt8) : Rc := ⟨s, 1, 1, 0, 4, z16, [], []⟩
def oneN (s : List UInt8) : Nat := if s = [] then 1 else 2
theorem small_rec {s : List UInt8} {es : Names} (h : s ≠ [] → ∃ p, findN s es = some p) (S : WSt) (hS : S.2.1 = es) :
    (recP (smallR s) S).1.length = S.1.length + (oneN s + 14) ∧ (recP (smallR s) S).2.1 = es := by
  have hw : (wrN s S.1 es).1.length = S.1.length + oneN s ∧ (wrN s S.1 es).2 = es := by
    unfold oneN
    by_cases hs : s = []
    · rw [if_pos hs, hs, wrN_nil]; exact ⟨by simp, rfl⟩
    · obtain ⟨p, hp⟩ := h hs
      rw [if_neg hs, wrN_some hs hp]; exact ⟨by simp, rfl⟩
  unfold recP
  rw [if_neg (show ¬ (smallR s).ty = 5 by show ¬ (1 : Int) = 5; decide)]
  subst hS
  refine ⟨?_, hw.2⟩
  show ((hdR (smallR s) S.1 S.2.1).1 ++ datR (smallR s)).length = _
  have h1 : (datR (smallR s)).length = 6 := rfl
  rw [List.length_append, h1]
  show ((wrN s S.1 S.2.1).1 ++ twos [(1 : Int).toNat, (1 : Int).toNat, (0 : Int).toNat / 65536, (0 : Int).toNat]).length + 6 = _
  rw [List.length_append, twos_len, hw.1]
  simp only [List.length_cons, List.length_nil]
  omega
theorem small_recs {s : List UInt8} {es : Names} (h : s ≠ [] → ∃ p, findN s es = some p) : ∀ (k : Nat) (S : WSt), S.2.1 = es → S.1.length + k * 16 ≤ 1232 →
    ∃ S', recsP (List.replicate k (smallR s)) S = some S' ∧ S'.1.length = S.1.length + k * (oneN s + 14)
  | 0, S, _, _ => ⟨S, rfl, by omega⟩
  | k + 1, S, hS, hl => by
    obtain ⟨h1, h2⟩ := small_rec h S hS
    have ho : oneN s ≤ 2 := by unfold oneN; split <;> omega
    obtain ⟨S', h3, h4⟩ := small_recs h k (recP (smallR s) S) h2 (by rw [h1]; omega)
    refine ⟨S', ?_, ?_⟩
    · rw [List.replicate_succ, recsP, if_neg (by omega), h3]
    · rw [h4, h1, Nat.add_mul]; omega
def smallM (s : List UInt8) (k : Nat) : Ms := ⟨1, 33152, [⟨s, 1, 1⟩], List.replicate k (smallR s), [], []⟩
theorem small_len {s : List UInt8} (hmay : mayN s = true) (hs : sumL (labF s) ≤ 78) {k : Nat} (hk : k < 11) :
    ∃ b, bytesM (smallM s k) = some b ∧ b.length = 12 + (bytesN (labF s)).length + 4 + k * (oneN s + 14) := by
  have hh : (headM (smallM s k)).length = 12 := twos_len _
  obtain ⟨h1, l, h2, h3⟩ := wr_fresh _ s (headM (smallM s k)) [] rfl hmay (by simp)
  rw [hh] at h1 h3
  have hst : (startM (smallM s k)).1.length = 12 + sumL (labF s) + 1 + 4 := by
    show ((wrN s (headM (smallM s k)) []).1 ++ twos [(1 : Int).toNat, (1 : Int).toNat]).length = _
    rw [List.length_append, twos_len, h1]; rfl
  have hse : (startM (smallM s k)).2.1 = l := by
    show (wrN s (headM (smallM s k)) []).2 = l
    rw [h2]; rfl
  have hfind : s ≠ [] → ∃ p, findN s l = some p := fun h => by
    obtain ⟨l', e⟩ := h3 h (by omega)
    exact ⟨12, by rw [e]; show (if s = s then some 12 else _) = _; rw [if_pos rfl]⟩
  obtain ⟨S', h4, h5⟩ := small_recs hfind k (startM (smallM s k)) hse (by rw [hst]; omega)
  have ho : k * (oneN s + 14) ≤ 10 * 16 := Nat.mul_le_mul (by omega) (by unfold oneN; split <;> omega)
  refine ⟨fillP S'.2.2 S'.1, ?_, ?_⟩
  · unfold bytesM writeM
    have e : (smallM s k).an ++ ((smallM s k).au ++ (smallM s k).mo) = List.replicate k (smallR s) := by show List.replicate k (smallR s) ++ ([] ++ []) = _; simp
    rw [e, h4]
    show (if 1232 < S'.1.length then none else _) = _
    rw [if_neg (by omega)]
  · rw [fillP_len, h5, hst, bytesN_len]; omega
theorem small_ok {s : List UInt8} (hmay : mayN s = true) {k : Nat} (hk : k < 11) : MsOk (smallM s k) ∧ mayM (smallM s k) = true := by
  have hl := may_len hmay
  have hR : RcOk (smallR s) ∧ mayR (smallR s) = true := by
    refine ⟨⟨i64_1, i64_1, i64_0, show I64 4 from ⟨by decide, by decide⟩, rfl, show ∀ b ∈ z16, b ≤ 255 by decide, by show s.length < 1100000; omega, show 0 < 1100000 by decide, show 0 < 1100000 by decide⟩, ?_⟩
    unfold mayR
    have h1 : mayN (smallR s).name = true := hmay
    rw [h1]
    rfl
  have hrep : ∀ r ∈ (smallM s k).an, r = smallR s := fun r h => List.eq_of_mem_replicate h
  refine ⟨⟨i64_1, show I64 33152 from ⟨by decide, by decide⟩, fun q h => ?_, fun r h => hrep r h ▸ hR.1, by simp [smallM], by simp [smallM], show 1 < 1100000 by decide, by show (List.replicate k (smallR s)).length < 1100000; rw [List.length_replicate]; omega, show 0 < 1100000 by decide, show 0 < 1100000 by decide⟩, ?_⟩
  · simp only [smallM, List.mem_singleton] at h
    subst h; exact ⟨i64_1, i64_1, by show s.length < 1100000; omega⟩
  · unfold mayM
    have h1 : (smallM s k).an.all mayR = true := by rw [List.all_eq_true]; exact fun r h => hrep r h ▸ hR.2
    have h2 : (smallM s k).qs.all mayQ = true := by
      show (mayQ ⟨s, 1, 1⟩ && true) = true
      unfold mayQ; rw [hmay]; rfl
    rw [h1, h2]; rfl

theorem c_abatislaw09_WireSmall (name : List UInt8) (hn : name.length < 1100000) (n : Int) (hi : I64 n) : GCall 5 [.str (bs name), .int .i64 n] (.bool true) := by
  intro H hG
  have hGood := c_abatisref08_Good name hn
  have hmay := good_may name
  have hsum : sumL (labF (goodN name)) ≤ 78 := by rw [good_lab]; exact good_sum name
  generalize goodN name = s at *
  have hAr := c_abatisref01_Around n hi.1 hi.2 11 (by decide)
  have hk := aroundF_lt n (m := 11) (by decide)
  generalize aroundF n 11 = c at *
  have hsl := may_len hmay
  have hG2 : ∀ L, GTab (H ++ L) := fun L => hG.keep (F := []) Keeps.app (by simp)
  have hL := fun L => c_abatislaw09_lives (H ++ L) (hG2 L)
  have hA := c_wire_Ask 1 s 1
  have hB := c_abatisref08_Bytes s (by omega)
  obtain ⟨wok, wmay⟩ := small_ok hmay hk
  have hW := fun L => c_wire_Write (smallM s c) wok (show 1 < 1000 by decide) (by show (List.replicate c (smallR s)).length < 1000000; rw [List.length_replicate]; omega) (show 0 < 1000000 by decide) (show 0 < 1000000 by decide) wmay (hG2 L)
  obtain ⟨b, hbm, hbl⟩ := small_len hmay hsum hk
  rw [hbm] at hW
  have hAn := c_wire_Answer (askM 1 s 1) (List.replicate c (smallR s)) (show 1 < 1100000 by decide) (by rw [List.length_replicate]; omega) (fun r h => by rw [List.eq_of_mem_replicate h]; rfl)
  have hma : msV ⟨(askM 1 s 1).id, 33152, (askM 1 s 1).qs, List.replicate c (smallR s), [], []⟩ = msV (smallM s c) := rfl
  rw [hma] at hAn
  have hrc : [PV.str (bs s), .int .i64 1, .int .i64 1, .int .i64 0, .int .i64 4, .int .u8 0, .int .u8 0, .int .u8 0, .int .u8 0, .int .u8 0, .int .u8 0, .int .u8 0, .int .u8 0, .int .u8 0, .int .u8 0, .int .u8 0, .int .u8 0, .int .u8 0, .int .u8 0, .int .u8 0, .int .u8 0, .str (bs []), .str (bs [])] = rcC (smallR s) := rfl
  have hlr : (rcC (smallR s)).length = 23 := rfl
  have hor : (rcC (smallR s)).all PV.one = true := rfl
  have hmq : msV (askM 1 s 1) = .agg [.int .i64 1, .int .i64 256, .sl 3 [quV ⟨s, 1, 1⟩], .sl 23 [], .sl 23 [], .sl 23 []] := rfl
  rw [hmq] at hA hAn
  refine scall_of (ord := fun _ => []) (rs := [4]) Try.func5 rfl (by kernel_rfl) (by kernel_rfl) (by kernel_rfl) Try.ntmps5 fun hb hargs => go 200 (fun _ => false) mixed ?_
  simp (disch := omega) only [↓reduceIte, go_sem] <;> repeat with_reducible refine And.intro (by first | omega | decide) ?_
  refine hGood.on (go 200 (fun _ => false) mixed ?_)
  simp (disch := omega) only [↓reduceIte, go_sem] <;> repeat with_reducible refine And.intro (by first | omega | decide) ?_
  refine hAr.on (go 200 (fun _ => false) mixed ?_)
  simp (disch := omega) only [↓reduceIte, go_sem] <;> repeat with_reducible refine And.intro (by first | omega | decide) ?_
  refine hA.on (go 200 (fun _ => false) mixed ?_)
  simp (disch := omega) only [↓reduceIte, go_sem] <;> repeat with_reducible refine And.intro (by first | omega | decide) ?_
  refine Runs.ghost (by rfl) (Ghost.grow (t := 6) (m := 23) rfl) ?_
  refine go 200 (fun _ => false) mixed ?_
  simp (disch := omega) only [↓reduceIte, go_sem] <;> repeat with_reducible refine And.intro (by first | omega | decide) ?_
  refine runs_loopA (fun k : Nat => k ≤ c) (fun k => c - k) [true, true, false, false, false, true, true, true]
    (fun k => slots 58 [.str (bs s), .int .i64 (c : Nat), .any, .any, .any, .ptr H.length 0 0, .buf (H.length + 1) k 0 (List.replicate k (smallR s)).length 23 true, .int .i64 (k : Nat)]) (fun k => H ++ [some (.cells 0 [.int .i64 1, .int .i64 256, .sl 3 [quV ⟨s, 1, 1⟩], .sl 23 [], .sl 23 [], .sl 23 []]), some (.cells k (flat (rcsV (List.replicate k (smallR s)))))]) (by rfl) 0 (Nat.zero_le _) rfl rfl ?_
  intro k hk
  change k ≤ c at hk
  have hab : ∀ r ∈ List.replicate k (smallR s), r.ab.length = 16 := fun r h => by rw [List.eq_of_mem_replicate h]; rfl
  have hfl := flat_rcs _ hab
  have hml : (List.replicate k (smallR s)).length = k := List.length_replicate
  refine go 200 (fun _ => false) mixed ?_
  by_cases hlt : k < c
  · have hs : List.replicate (k + 1) (smallR s) = List.replicate k (smallR s) ++ [smallR s] := List.replicate_succ'
    have htg : List.take 23 (rcC (smallR s)) = rcC (smallR s) := rfl
    generalize smallR s = r at *
    simp (disch := omega) only [↓reduceIte, go_sem, hlt, hml, hfl, hrc, hlr, htg, most] <;> repeat with_reducible refine And.intro (by first | omega | decide) ?_
    refine rnd_next (k + 1) (by show k + 1 ≤ c; omega) (by show c - (k + 1) < c - k; omega) ?_ ?_
    · rw [List.length_replicate]; rfl
    · rw [hs, flat_snocR]
  · obtain rfl : k = c := by omega
    simp (disch := omega) only [↓reduceIte, go_sem, hlt] <;> repeat with_reducible refine And.intro (by first | omega | decide) ?_
    refine Runs.ghost (by rfl) (Ghost.freeze (t := 6) (xs := rcsV (List.replicate k (smallR s))) rfl (by rw [get_tail]; rfl) (sub_all _ _ hfl) rcsV_len (fun x hx => by obtain ⟨r, hr, rfl⟩ := List.mem_map.mp hx; exact rcC_len (hab r hr))) ?_
    refine go 200 (fun _ => false) mixed ?_
    simp (disch := omega) only [↓reduceIte, go_sem] <;> repeat with_reducible refine And.intro (by first | omega | decide) ?_
    refine hAn.on (go 200 (fun _ => false) mixed ?_)
    simp (disch := omega) only [↓reduceIte, go_sem] <;> repeat with_reducible refine And.intro (by first | omega | decide) ?_
    refine (hW _).mono fun r H' ⟨e1, e2⟩ => ?_
    rw [e1, e2]
    have hbl2 : (b.length : Int) = 12 + ((bytesN (labF s)).length : Nat) + 4 + (k : Nat) * ((oneN s : Nat) + 10 + 4) := by rw [hbl]; push_cast; rw [Int.add_assoc ((oneN s : Nat) : Int) 10 4]; rfl
    have hk10 : k * (oneN s + 14) ≤ 10 * 16 := Nat.mul_le_mul (by omega) (by unfold oneN; split <;> omega)
    have hbn : (bytesN (labF s)).length ≤ 79 := by rw [bytesN_len]; omega
    have hk2 : k ≤ 10 := by omega
    refine go 200 (fun _ => false) mixed ?_
    by_cases hs0 : s = []
    · have ho : oneN s = 1 := if_pos hs0
      simp (disch := omega) only [↓reduceIte, go_sem, eq_true hs0] <;> repeat with_reducible refine And.intro (by first | omega | decide) ?_
      rw [ho] at hbl2 hbl
      refine hB.on (go 200 (fun _ => false) mixed ?_)
      simp (disch := omega) only [↓reduceIte, go_sem] <;> repeat with_reducible refine And.intro (by first | omega | decide) ?_
      refine ⟨fun _ => ?_, fun h => absurd (by omega) h⟩
      refine (hL _).mono fun r H' ⟨e1, e2⟩ => ?_
      rw [e1, e2]
      refine go 200 (fun _ => false) mixed ?_
      simp (disch := omega) only [↓reduceIte, go_sem] <;> repeat with_reducible refine And.intro (by first | omega | decide) ?_
      exact fin_drop (.inr rfl) hb rfl (by simp)
    · have ho : oneN s = 2 := if_neg hs0
      simp (disch := omega) only [↓reduceIte, go_sem, hs0] <;> repeat with_reducible refine And.intro (by first | omega | decide) ?_
      rw [ho] at hbl2 hbl
      refine hB.on (go 200 (fun _ => false) mixed ?_)
      simp (disch := omega) only [↓reduceIte, go_sem] <;> repeat with_reducible refine And.intro (by first | omega | decide) ?_
      refine ⟨fun _ => ?_, fun h => absurd (by omega) h⟩
      refine (hL _).mono fun r H' ⟨e1, e2⟩ => ?_
      rw [e1, e2]
      refine go 200 (fun _ => false) mixed ?_
      simp (disch := omega) only [↓reduceIte, go_sem] <;> repeat with_reducible refine And.intro (by first | omega | decide) ?_
      exact fin_drop (.inr rfl) hb rfl (by simp)
end Go.Proofs.GoC
