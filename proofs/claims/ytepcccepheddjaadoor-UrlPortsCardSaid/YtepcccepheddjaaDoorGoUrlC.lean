/-
  The law UrlPorts. No claim by itself.
-/
import Derived.Test.YtepcccepheddjaaDoorGoUrl9
namespace Go.Proofs.GoC
open Go Go.Proofs.SL
set_option linter.unusedSimpArgs false
set_option linter.unusedVariables false
set_option maxRecDepth 10000
set_option maxHeartbeats 8000000

def aroundF (n : Int) (m : Nat) : Nat := (if n < 0 then (-(n + 1)).toNat else n.toNat) % m
theorem aroundF_lt (n : Int) {m : Nat} (h : 0 < m) : aroundF n m < m := Nat.mod_lt _ h
theorem c_abatisref01_Around (n : Int) (h1 : -9223372036854775808 ≤ n) (h2 : n ≤ 9223372036854775807) (m : Nat) (hm : 0 < m) : PCall Tryd.prog 4 [.int .i64 n, .int .i64 m] (.int .i64 (aroundF n m : Nat)) := by
  intro H
  refine scall_of (ord := fun _ => []) (rs := [4]) Tryd.func4 rfl (by kernel_rfl) (by kernel_rfl) (by kernel_rfl) Tryd.ntmps4 fun hb hargs => go 200 (fun _ => false) mixed ?_
  have hm0 : ¬ (m : Int) = 0 := by omega
  by_cases h0 : n < 0
  · obtain ⟨k, hk⟩ : ∃ k : Nat, -(n + 1) = k := ⟨(-(n + 1)).toNat, by omega⟩
    have e0 : (0 : Int) - (n + 1) = k := by omega
    have e1 : aroundF n m = k % m := by unfold aroundF; rw [if_pos h0, hk]; rfl
    rw [e1]
    simp (disch := omega) only [↓reduceIte, go_sem, h0, e0, hm0] <;> repeat with_reducible refine And.intro (by first | omega | decide) ?_
    exact fin rfl rfl
  · obtain ⟨k, rfl⟩ : ∃ k : Nat, n = k := ⟨n.toNat, by omega⟩
    have e1 : aroundF k m = k % m := by unfold aroundF; rw [if_neg (by omega)]; rfl
    rw [e1]
    simp (disch := omega) only [↓reduceIte, go_sem, hm0] <;> repeat with_reducible refine And.intro (by first | omega | decide) ?_
    exact fin rfl rfl

theorem parse_pp {sch host own h pp t : List UInt8} {port : Nat} {ok : Bool} (hown : lowF sch = own) (ho : own = httpT ∨ own = httpsT) (hh : hostF host = some h)
    (hA : ∀ b ∈ host ++ pp, plB b) (hpf : portF (host ++ pp) (portI own) = (host, (port : Int), ok)) (ht : t = [] ∨ ∃ x r, t = x :: r ∧ ([47, 63] : List UInt8).contains x = true)
    (htp : ∀ b ∈ t, plainI b.toNat = true) (ht35 : (35 : UInt8) ∉ t) (hl : host.length + pp.length + t.length ≤ 1900) :
    parseU (sch ++ (sep3 ++ (host ++ (pp ++ t)))) = if ok = true then .ok ⟨own, h, port, if tw [63] t = [] then [47] else tw [63] t, dw [63] t⟩ else .error 2 := by
  have hpos : 0 < portI (lowF sch) := by rw [hown]; exact portI_pos.mpr ho
  obtain ⟨hsl, h58⟩ := port_len hpos
  have hlen : (sch ++ (sep3 ++ (host ++ (pp ++ t)))).length ≤ 2000 := by
    simp only [List.length_append, sep3, List.length_cons, List.length_nil]; omega
  have hplain : plainF (sch ++ (sep3 ++ (host ++ (pp ++ t)))) = true := by
    refine List.all_eq_true.mpr fun b hb => ?_
    rw [← List.append_assoc host] at hb
    rcases List.mem_append.mp hb with hb | hb
    · refine low_plain ?_
      have hm : lowB b ∈ own := by rw [← hown]; exact List.mem_map.mpr ⟨b, hb, rfl⟩
      rcases ho with rfl | rfl
      · revert hm; generalize lowB b = c; intro hm
        simp only [httpT, List.mem_cons, List.not_mem_nil, or_false] at hm
        rcases hm with rfl | rfl | rfl | rfl <;> decide
      · revert hm; generalize lowB b = c; intro hm
        simp only [httpsT, List.mem_cons, List.not_mem_nil, or_false] at hm
        rcases hm with rfl | rfl | rfl | rfl | rfl <;> decide
    · rcases List.mem_append.mp hb with hb | hb
      · simp only [sep3, List.mem_cons, List.not_mem_nil, or_false] at hb
        rcases hb with rfl | rfl | rfl <;> decide
      · rcases List.mem_append.mp hb with hb | hb
        · exact pl_plain (hA b hb)
        · exact htp b hb
  unfold parseU
  rw [if_neg (by omega), cut_at h58, if_neg (by rintro (h | h | h); exact nomatch h; simp only at h; omega; rw [hplain] at h; exact nomatch h)]
  simp only
  rw [hown]
  unfold parseR
  have e35 : tw [35] (host ++ (pp ++ t)) = host ++ (pp ++ t) := by
    have h1 := tw_stop (c := [35]) (a := host ++ (pp ++ t)) (t := []) (fun b hb => by
      rw [← List.append_assoc] at hb
      rcases List.mem_append.mp hb with hb | hb
      · exact (pl_no (hA b hb)).1
      · rw [← Bool.not_eq_true, List.contains_iff_mem]
        intro hm
        have : b = 35 := by simpa using hm
        exact ht35 (this ▸ hb)) (.inl rfl)
    rw [List.append_nil] at h1
    exact h1.1
  obtain ⟨e1, e2⟩ := tw_stop (c := [47, 63]) (a := host ++ pp) (t := t) (fun b hb => (pl_no (hA b hb)).2) ht
  rw [List.append_assoc] at e1 e2
  rw [e35, e1, e2, hpf]
  simp only [hh]
  cases ok <;> rfl

theorem hostF_a : hostF [97] = some [97] := by kernel_rfl
theorem parse_ports {own : List UInt8} (ho : own = httpT ∨ own = httpsT) (n : Nat) (hn : n < 100000) :
    parseU (own ++ (sep3 ++ ([97] ++ ((58 :: decF n) ++ [])))) = if n ≤ 65535 then .ok ⟨own, [97], n, [47], []⟩ else .error 2 := by
  have hdl := decF_len n 4 (by omega)
  have hI : lastI 58 ([97] ++ 58 :: decF n) = (1 : Nat) := isLast_unique (lastI_cases 58 _) (.inr ⟨[97], decF n, rfl, dec_no58 n, rfl⟩)
  have hs : Lib.hasSuffix ([97] ++ 58 :: decF n) [93] = false := by
    have : ([97] ++ 58 :: decF n : List UInt8) = [97, 58] ++ decF n := rfl
    rw [this, suffix_app (decF_ne n)]
    exact suffix_no fun hm => by have := dec_dig n 93 hm; revert this; decide
  have hpf : portF ([97] ++ 58 :: decF n) (portI own) = ([97], (n : Int), decide (n ≤ 65535)) := by
    unfold portF
    rw [hI, hs, if_neg (by rintro (h | h); omega; exact nomatch h)]
    have td : List.drop (((1 : Nat) : Int).toNat + 1) ([97] ++ 58 :: decF n) = decF n := rfl
    have ta : List.take ((1 : Nat) : Int).toNat ([97] ++ 58 :: decF n) = [97] := rfl
    rw [td, ta, if_neg (decF_ne n), num_dec n (by omega)]
    simp only
    rw [decide_eq_true (show (decF n).length ≤ 5 by omega), Bool.true_and]
    have : decide ((n : Int) ≤ 65535) = decide (n ≤ 65535) := by rw [decide_eq_decide]; omega
    rw [this]
  have h := parse_pp (sch := own) (host := [97]) (h := [97]) (pp := 58 :: decF n) (t := []) (low_sch ho) ho hostF_a (fun b hb => by
    simp only [List.mem_append, List.mem_cons, List.not_mem_nil, or_false] at hb
    rcases hb with rfl | rfl | hb
    · unfold plB; decide
    · unfold plB; decide
    · have := dec_dig n b hb
      unfold plB; omega) hpf (.inl rfl) (by simp) (by simp) (by simp only [List.length_cons, List.length_nil]; omega)
  rw [h]
  simp only [decide_eq_true_eq]
  rfl

theorem c_abatislaw13_UrlPorts (n0 : Int) (n1 : -9223372036854775808 ≤ n0) (n2 : n0 ≤ 9223372036854775807) (sec : Bool) : GCall 3 [.int .i64 n0, .bool sec] (.bool true) := by
  intro H hG
  refine scall_of (ord := fun _ => []) (rs := [4]) Tryd.func3 rfl (by kernel_rfl) (by kernel_rfl) (by kernel_rfl) Tryd.ntmps3 fun hb hargs => go 200 (fun _ => false) mixed ?_
  simp (disch := omega) only [↓reduceIte, go_sem] <;> repeat with_reducible refine And.intro (by first | omega | decide) ?_
  refine (c_abatisref01_Around n0 n1 n2 100000 (by decide)).on (go 200 (fun _ => false) mixed ?_)
  have hn := aroundF_lt n0 (m := 100000) (by decide)
  generalize aroundF n0 100000 = n at *
  have hdl := decF_len n 4 (by omega)
  cases sec with
  | false =>
    simp (disch := omega) only [↓reduceIte, go_sem] <;> repeat with_reducible refine And.intro (by first | omega | decide) ?_
    refine (c_abatisref01_Decimal n (by omega)).on (go 200 (fun _ => false) mixed ?_)
    have hX : (104 :: 116 :: 116 :: 112 :: 58 :: 47 :: 47 :: 97 :: 58 :: decF n : List UInt8) = httpT ++ (sep3 ++ ([97] ++ ((58 :: decF n) ++ []))) := by simp [httpT, sep3]
    have hpa := c_url_Parse (104 :: 116 :: 116 :: 112 :: 58 :: 47 :: 47 :: 97 :: 58 :: decF n) (by simp only [List.length_cons]; omega)
    have hpu := (congrArg parseU hX).trans (parse_ports (own := httpT) (.inl rfl) n hn)
    rw [hpu] at hpa
    by_cases h6 : n ≤ 65535
    · rw [if_pos h6] at hpa
      have hp1 := c_url_Print ⟨httpT, [97], n, [47], []⟩ (by simp [httpT]) (by show n ≤ 1099511627776; omega)
      simp only [parseUV, urV, urC, httpT, httpsT] at hpa hp1
      have h6' : ¬ 65535 < n := by omega
      simp (disch := omega) only [↓reduceIte, go_sem, List.length_cons, List.length_append] <;> repeat with_reducible refine And.intro (by first | omega | decide) ?_
      refine hpa.on hG (go 200 (fun _ => false) mixed ?_)
      by_cases hO : n = 80
      · have hpr : printU ⟨httpT, [97], n, [47], []⟩ = [104, 116, 116, 112, 58, 47, 47, 97, 47] := by subst hO; kernel_rfl
        simp only [httpT, httpsT] at hpr
        rw [hpr] at hp1
        subst hO
        simp (disch := omega) only [↓reduceIte, go_sem, h6'] <;> repeat with_reducible refine And.intro (by first | omega | decide) ?_
        refine hp1.on hG.app (go 200 (fun _ => false) mixed ?_)
        simp (disch := omega) only [↓reduceIte, go_sem] <;> repeat with_reducible refine And.intro (by first | omega | decide) ?_
        refine c_abatislaw13_lives.on hG.app (go 200 (fun _ => false) mixed ?_)
        simp (disch := omega) only [↓reduceIte, go_sem] <;> repeat with_reducible refine And.intro (by first | omega | decide) ?_
        exact fin_drop (.inr rfl) hb rfl (by simp)
      · have hpr : printU ⟨httpT, [97], n, [47], []⟩ = 104 :: 116 :: 116 :: 112 :: 58 :: 47 :: 47 :: 97 :: 58 :: (decF n ++ [47]) := by
          have hI : portI httpT = 80 := by kernel_rfl
          unfold printU textU
          simp only
          rw [hI, if_neg (by omega)]
          simp [httpT, sep3]
        simp only [httpT, httpsT] at hpr
        rw [hpr] at hp1
        simp (disch := omega) only [↓reduceIte, go_sem, h6', hO, List.length_cons, List.length_append] <;> repeat with_reducible refine And.intro (by first | omega | decide) ?_
        refine (c_abatisref01_Decimal n (by omega)).on (go 200 (fun _ => false) mixed ?_)
        simp (disch := omega) only [↓reduceIte, go_sem, List.length_cons, List.length_append] <;> repeat with_reducible refine And.intro (by first | omega | decide) ?_
        refine hp1.on hG.app (go 200 (fun _ => false) mixed ?_)
        simp (disch := omega) only [↓reduceIte, go_sem, List.length_cons, List.length_append, List.append_assoc] <;> repeat with_reducible refine And.intro (by first | omega | decide) ?_
        refine c_abatislaw13_lives.on hG.app (go 200 (fun _ => false) mixed ?_)
        simp (disch := omega) only [↓reduceIte, go_sem] <;> repeat with_reducible refine And.intro (by first | omega | decide) ?_
        exact fin_drop (.inr rfl) hb rfl (by simp)
    · rw [if_neg h6] at hpa
      simp only [parseUV, urV, urC, urZ] at hpa
      have h6' : 65535 < n := by omega
      simp (disch := omega) only [↓reduceIte, go_sem, List.length_cons, List.length_append] <;> repeat with_reducible refine And.intro (by first | omega | decide) ?_
      refine hpa.on hG (go 200 (fun _ => false) mixed ?_)
      simp (disch := omega) only [↓reduceIte, go_sem, h6'] <;> repeat with_reducible refine And.intro (by first | omega | decide) ?_
      refine c_abatislaw13_lives.on hG.app (go 200 (fun _ => false) mixed ?_)
      simp (disch := omega) only [↓reduceIte, go_sem] <;> repeat with_reducible refine And.intro (by first | omega | decide) ?_
      exact fin_drop (.inr rfl) hb rfl (by simp)
  | true =>
    simp (disch := omega) only [↓reduceIte, go_sem] <;> repeat with_reducible refine And.intro (by first | omega | decide) ?_
    refine (c_abatisref01_Decimal n (by omega)).on (go 200 (fun _ => false) mixed ?_)
    have hX : (104 :: 116 :: 116 :: 112 :: 115 :: 58 :: 47 :: 47 :: 97 :: 58 :: decF n : List UInt8) = httpsT ++ (sep3 ++ ([97] ++ ((58 :: decF n) ++ []))) := by simp [httpsT, sep3]
    have hpa := c_url_Parse (104 :: 116 :: 116 :: 112 :: 115 :: 58 :: 47 :: 47 :: 97 :: 58 :: decF n) (by simp only [List.length_cons]; omega)
    have hpu := (congrArg parseU hX).trans (parse_ports (own := httpsT) (.inr rfl) n hn)
    rw [hpu] at hpa
    by_cases h6 : n ≤ 65535
    · rw [if_pos h6] at hpa
      have hp1 := c_url_Print ⟨httpsT, [97], n, [47], []⟩ (by simp [httpsT]) (by show n ≤ 1099511627776; omega)
      simp only [parseUV, urV, urC, httpT, httpsT] at hpa hp1
      have h6' : ¬ 65535 < n := by omega
      simp (disch := omega) only [↓reduceIte, go_sem, List.length_cons, List.length_append] <;> repeat with_reducible refine And.intro (by first | omega | decide) ?_
      refine hpa.on hG (go 200 (fun _ => false) mixed ?_)
      by_cases hO : n = 443
      · have hpr : printU ⟨httpsT, [97], n, [47], []⟩ = [104, 116, 116, 112, 115, 58, 47, 47, 97, 47] := by subst hO; kernel_rfl
        simp only [httpT, httpsT] at hpr
        rw [hpr] at hp1
        subst hO
        simp (disch := omega) only [↓reduceIte, go_sem, h6'] <;> repeat with_reducible refine And.intro (by first | omega | decide) ?_
        refine hp1.on hG.app (go 200 (fun _ => false) mixed ?_)
        simp (disch := omega) only [↓reduceIte, go_sem] <;> repeat with_reducible refine And.intro (by first | omega | decide) ?_
        refine c_abatislaw13_lives.on hG.app (go 200 (fun _ => false) mixed ?_)
        simp (disch := omega) only [↓reduceIte, go_sem] <;> repeat with_reducible refine And.intro (by first | omega | decide) ?_
        exact fin_drop (.inr rfl) hb rfl (by simp)
      · have hpr : printU ⟨httpsT, [97], n, [47], []⟩ = 104 :: 116 :: 116 :: 112 :: 115 :: 58 :: 47 :: 47 :: 97 :: 58 :: (decF n ++ [47]) := by
          have hI : portI httpsT = 443 := by kernel_rfl
          unfold printU textU
          simp only
          rw [hI, if_neg (by omega)]
          simp [httpsT, sep3]
        simp only [httpT, httpsT] at hpr
        rw [hpr] at hp1
        simp (disch := omega) only [↓reduceIte, go_sem, h6', hO, List.length_cons, List.length_append] <;> repeat with_reducible refine And.intro (by first | omega | decide) ?_
        refine (c_abatisref01_Decimal n (by omega)).on (go 200 (fun _ => false) mixed ?_)
        simp (disch := omega) only [↓reduceIte, go_sem, List.length_cons, List.length_append] <;> repeat with_reducible refine And.intro (by first | omega | decide) ?_
        refine hp1.on hG.app (go 200 (fun _ => false) mixed ?_)
        simp (disch := omega) only [↓reduceIte, go_sem, List.length_cons, List.length_append, List.append_assoc] <;> repeat with_reducible refine And.intro (by first | omega | decide) ?_
        refine c_abatislaw13_lives.on hG.app (go 200 (fun _ => false) mixed ?_)
        simp (disch := omega) only [↓reduceIte, go_sem] <;> repeat with_reducible refine And.intro (by first | omega | decide) ?_
        exact fin_drop (.inr rfl) hb rfl (by simp)
    · rw [if_neg h6] at hpa
      simp only [parseUV, urV, urC, urZ] at hpa
      have h6' : 65535 < n := by omega
      simp (disch := omega) only [↓reduceIte, go_sem, List.length_cons, List.length_append] <;> repeat with_reducible refine And.intro (by first | omega | decide) ?_
      refine hpa.on hG (go 200 (fun _ => false) mixed ?_)
      simp (disch := omega) only [↓reduceIte, go_sem, h6'] <;> repeat with_reducible refine And.intro (by first | omega | decide) ?_
      refine c_abatislaw13_lives.on hG.app (go 200 (fun _ => false) mixed ?_)
      simp (disch := omega) only [↓reduceIte, go_sem] <;> repeat with_reducible refine And.intro (by first | omega | decide) ?_
      exact fin_drop (.inr rfl) hb rfl (by simp)
end Go.Proofs.GoC
