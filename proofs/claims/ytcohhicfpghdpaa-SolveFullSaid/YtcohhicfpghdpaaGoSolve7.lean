/-
  The law SolveFull. No claim by itself.
-/
import Derived.Test.YtcohhicfpghdpaaGoSolve6
namespace Go.Proofs.GoC
open Go Go.Proofs.SL
set_option linter.unusedSimpArgs false
set_option linter.unusedVariables false
set_option maxRecDepth 10000
set_option maxHeartbeats 4000000

structure FA where
  K : Heap
  s : PV
  L : List Nat
  k : Nat
def c15 : SCfg := ⟨1, 1, 5, 4⟩
structure FAI (H : Heap) (i ic im N : Nat) (a : FA) : Prop where
  sv : SvAt a.K i ic im a.s c15 a.k a.L
  len : a.L.length = min a.k 16
  lks : ∀ p ∈ a.L, ∃ x : Lk, a.K[p]? = some (some (.cells 0 (lkC x))) ∧ x.til ≤ 5 ∧ 0 ≤ x.sent ∧ x.sent ≤ 1000 ∧ c15.tr ≤ x.sent + 1
  keep : Keeps [] H a.K
  bs : ∀ j ∈ bufN a.s, H.length ≤ j
  bL : ∀ p ∈ a.L, H.length ≤ p
  le : a.k ≤ N

theorem c_abatislaw12_SolveFull (n0 d : Int) (a1 : -9223372036854775808 ≤ n0) (a2 : n0 ≤ 9223372036854775807) (d1 : -9223372036854775808 ≤ d) (d2 : d ≤ 9223372036854775807) :
    GCall 3 [.int .i64 n0, .int .i64 d] (.bool true) := by
  intro H hG
  refine scall_of (ord := fun _ => []) (rs := [4]) Try.func3 rfl (by kernel_rfl) (by kernel_rfl) (by kernel_rfl) Try.ntmps3 fun hb hargs => go 200 (fun _ => false) mixed ?_
  simp (disch := omega) only [↓reduceIte, go_sem] <;> repeat with_reducible refine And.intro (by first | omega | decide) ?_
  refine (c_abatisref01_Around n0 a1 a2 31 (by decide)).on (go 200 (fun _ => false) mixed ?_)
  have hN := aroundF_lt n0 (m := 31) (by decide)
  generalize aroundF n0 31 = N at *
  simp (disch := omega) only [↓reduceIte, go_sem] <;> repeat with_reducible refine And.intro (by first | omega | decide) ?_
  refine (c_solve_New 1 1 5 4).mono fun r H1 ⟨i, ic, im, e1, hs1, k1, hle⟩ => ?_
  rw [e1]
  have hc : (⟨cutS 1 4, cutS 1 5, cutS 5 1000, cutS 4 64⟩ : SCfg) = c15 := by simp [cutS, c15]
  rw [hc] at hs1
  refine go 200 (fun _ => false) mixed ?_
  simp (disch := omega) only [↓reduceIte, go_sem] <;> repeat with_reducible refine And.intro (by first | omega | decide) ?_
  refine runs_loopA (FAI H i ic im N) (fun a => N - a.k) [true, true, false, false, false, true, true]
    (fun a => slots 91 [.int .i64 N, .int .i64 d, .any, .any, .any, .ptr i 0 0, .int .i64 a.k]) (fun a => a.K) (by rfl)
    ⟨H1, .nils, [], 0⟩ ⟨hs1, rfl, (by intro p hp; cases hp), k1, (by intro j hj; cases hj), (by intro j hj; cases hj), Nat.zero_le _⟩ rfl rfl ?_
  rintro ⟨K, s, L, k⟩ ⟨hsv, hlen, hlks, hkeep, hbs, hbL, hle2⟩
  dsimp only at hsv hlen hlks hkeep hbs hbL hle2 ⊢
  refine go 200 (fun _ => false) mixed ?_
  by_cases hlt : k < N
  · have hi1 : IntKind.i64.wrap ((k : Int) + 1) = (k : Int) + 1 := w64 (by omega) (by omega)
    have ek : (k : Int) + 1 = ((k + 1 : Nat) : Int) := by omega
    by_cases h16 : k < 16
    · have hL16 : L.length < 16 := by omega
      have hst := start_ok hsv hL16 (by decide) (by decide) (by omega) (by omega) [97] (by decide) (by simp) may_a 1 (.inl rfl) d 0 d1 d2 (by decide) (by decide)
      simp (disch := omega) only [↓reduceIte, go_sem, hlt] <;> repeat with_reducible refine And.intro (by first | omega | decide) ?_
      refine hst.mono fun r K1 ⟨e2, p, s2, hs2, hp2, lp2, k2, hb2⟩ => ?_
      rw [e2]
      refine go 200 (fun _ => false) mixed ?_
      have h16' : ¬ 16 ≤ k := by omega
      simp (disch := omega) only [↓reduceIte, go_sem, evC, h16, h16'] <;> repeat with_reducible refine And.intro (by first | omega | decide) ?_
      have hs2 := hs2.app (K := [some (.cells 0 (evC 0 k (aroundF d 65536 : Nat) [97] 1 0 0))])
      rw [ek] at hs2
      have hbb : ∀ j ∈ bufN s2, H.length ≤ j := fun j hj => by
        rcases hb2 j hj with h | h
        · exact hbs j h
        · have := hkeep.1; omega
      have hpH : H.length ≤ p := by have := hkeep.1; omega
      refine rnd_next ⟨K1 ++ [some (.cells 0 (evC 0 k (aroundF d 65536 : Nat) [97] 1 0 0))], s2, L ++ [p], k + 1⟩ ⟨hs2, ?_, fun q hq => ?_, ?_, hbb, fun q hq => ?_, hlt⟩ (by show N - (k + 1) < N - k; omega) rfl rfl
      · show (L ++ [p]).length = min (k + 1) 16
        rw [List.length_append]; simp only [List.length_singleton]; omega
      · rcases List.mem_append.mp hq with hq | hq
        · obtain ⟨x, hx, hr⟩ := hlks q hq
          exact ⟨x, get_app (k2.get hx (by simp only [List.mem_cons, not_or]; exact ⟨hsv.lk_i hx, fun hm => hsv.lk_b hx q hm rfl⟩)), hr⟩
        · simp only [List.mem_singleton] at hq
          subst hq
          exact ⟨_, get_app hp2, by show (0 : Int) + 5 ≤ 5; decide, by show (0 : Int) ≤ 0; decide, by show (0 : Int) ≤ 1000; decide, by show (1 : Int) ≤ 0 + 1; decide⟩
      · exact ((hkeep.mono (G := i :: bufN s) (by simp)).trans (k2.trans Keeps.app)).mono fun j hj => by
          rcases List.mem_cons.mp hj with rfl | hj
          · exact .inr hle
          · exact .inr (hbs j hj)
      · rcases List.mem_append.mp hq with hq | hq
        · exact hbL q hq
        · simp only [List.mem_singleton] at hq; subst hq; exact hpH
    · have hL16 : 16 ≤ L.length := by omega
      have hst := start_full hsv hL16 (by omega) (by omega) (by omega) [97] (by decide) (by simp) may_a d 0
      simp (disch := omega) only [↓reduceIte, go_sem, hlt] <;> repeat with_reducible refine And.intro (by first | omega | decide) ?_
      refine hst.mono fun r K1 ⟨e2, s2, hs2, hb2, k2⟩ => ?_
      rw [e2]
      refine go 200 (fun _ => false) mixed ?_
      have h16' : 16 ≤ k := by omega
      simp (disch := omega) only [↓reduceIte, go_sem, evC, h16, h16'] <;> repeat with_reducible refine And.intro (by first | omega | decide) ?_
      have hs2 := hs2.app (K := [some (.cells 0 (evC 2 k 0 [] 0 0 6))])
      rw [ek] at hs2
      refine rnd_next ⟨K1 ++ [some (.cells 0 (evC 2 k 0 [] 0 0 6))], s2, L, k + 1⟩ ⟨hs2, ?_, fun q hq => ?_, ?_, fun j hj => ?_, hbL, hlt⟩ (by show N - (k + 1) < N - k; omega) rfl rfl
      · show L.length = min (k + 1) 16; omega
      · obtain ⟨x, hx, hr⟩ := hlks q hq
        exact ⟨x, get_app (k2.get hx (by simp only [List.mem_cons, not_or]; exact ⟨hsv.lk_i hx, fun hm => hsv.lk_b hx q hm rfl⟩)), hr⟩
      · exact ((hkeep.mono (G := i :: bufN s) (by simp)).trans (k2.trans Keeps.app)).mono fun j hj => by
          rcases List.mem_cons.mp hj with rfl | hj
          · exact .inr hle
          · exact .inr (hbs j hj)
      · rcases hb2 with rfl | h
        · cases hj
        · exact hbs j (h ▸ hj)
  · have hkN : k = N := by omega
    subst hkN
    simp (disch := omega) only [↓reduceIte, go_sem, hlt] <;> repeat with_reducible refine And.intro (by first | omega | decide) ?_
    have hL20 : L.length ≤ 16 := by omega
    have hbd := hsv.bnd
    have hop := c_solve_Solver_Open hsv (by omega)
    have htk := tick_all hsv (by omega) 5 0 hlks
    refine go 200 (fun _ => false) mixed ?_
    simp (disch := omega) only [↓reduceIte, go_sem] <;> repeat with_reducible refine And.intro (by first | omega | decide) ?_
    refine hop.mono fun r H2 ⟨hr, e2⟩ => ?_
    rw [e2]
    have hmin : ((L.length : Int) = if 16 < k then (16 : Int) else (k : Int)) = True := eq_true (by split <;> omega)
    have hmin0 : L = [] → ((0 : Int) = if 16 < k then (16 : Int) else (k : Int)) = True := fun h => eq_true (by rw [h] at hlen; simp only [List.length_nil] at hlen; split <;> omega)
    refine go 200 (fun _ => false) mixed ?_
    have hfin : ∀ (H3 H5 : Heap) (s4 : PV) (X : Heap), (s4 = .nils ∨ bufN s4 = bufN s) → Keeps (i :: (bufN s ++ L)) K H3 → Keeps (i :: bufN s4) H3 H5 → ∃ L', H5 ++ X = H ++ L' := fun H3 H5 s4 X h4 k4 k5 => by
      refine ((hkeep.mono (G := i :: (bufN s ++ L)) (by simp)).trans (k4.trans ((k5.mono fun j hj => .inl ?_).trans Keeps.app))).split fun j hj => ?_
      · rcases List.mem_cons.mp hj with rfl | hj
        · exact List.mem_cons_self ..
        · rcases h4 with rfl | h4
          · cases hj
          · exact List.mem_cons_of_mem _ (List.mem_append_left _ (h4 ▸ hj))
      · rcases List.mem_cons.mp hj with rfl | hj
        · exact hle
        · rcases List.mem_append.mp hj with hj | hj
          · exact hbs j hj
          · exact hbL j hj
    have hmin0' := hmin0
    rcases hr with ⟨rfl, hL0⟩ | ⟨ys, rfl, hy⟩
    · have hmin0 := hmin0 hL0
      simp (disch := omega) only [↓reduceIte, go_sem, hmin0] <;> repeat with_reducible refine And.intro (by first | omega | decide) ?_
      refine htk.mono fun r H3 ⟨hr, s4, hs4, hb4, k4⟩ => ?_
      have hst := start_ok hs4 (by simp) (by decide) (by decide) (by omega) (by omega) [97] (by decide) (by simp) may_a 1 (.inl rfl) d 5 d1 d2 (by decide) (by decide)
      refine go 200 (fun _ => false) mixed ?_
      rcases hr with ⟨rfl, hL0⟩ | ⟨es, rfl, hel, _⟩
      · have hmin0 := hmin0' hL0
        simp (disch := omega) only [↓reduceIte, go_sem, hmin0] <;> repeat with_reducible refine And.intro (by first | omega | decide) ?_
        refine hst.mono fun r H5 ⟨e5, p, s5, hs5, hp5, lp5, k5, hb5⟩ => ?_
        rw [e5]
        have hop2 := c_solve_Solver_Open (hs5.app (K := [some (.cells 0 (evC 0 k (aroundF d 65536 : Nat) [97] 1 0 0))])) (by simp)
        refine go 200 (fun _ => false) mixed ?_
        simp (disch := omega) only [↓reduceIte, go_sem, evC] <;> repeat with_reducible refine And.intro (by first | omega | decide) ?_
        refine hop2.mono fun r H6 ⟨hr6, e6⟩ => ?_
        rw [e6]
        obtain ⟨zs, rfl, hz⟩ : ∃ zs : List Int, r = .sl 1 (i64sV zs) ∧ zs.length = 1 := by
          rcases hr6 with ⟨_, h⟩ | ⟨zs, h, hz⟩
          · simp at h
          · exact ⟨zs, h, by simpa using hz⟩
        refine go 200 (fun _ => false) mixed ?_
        simp (disch := omega) only [↓reduceIte, go_sem, i64sV_len, hz] <;> repeat with_reducible refine And.intro (by first | omega | decide) ?_
        refine c_abatislaw12_lives.on (go 200 (fun _ => false) mixed ?_)
        simp (disch := omega) only [↓reduceIte, go_sem] <;> repeat with_reducible refine And.intro (by first | omega | decide) ?_
        obtain ⟨L', hL'⟩ := hfin H3 H5 s4 [some (.cells 0 (evC 0 k (aroundF d 65536 : Nat) [97] 1 0 0))] hb4 k4 k5
        rw [hL']
        exact fin_drop (.inr rfl) hb rfl (by simp)
      · simp (disch := omega) only [↓reduceIte, go_sem, evsV_len, hel, hmin] <;> repeat with_reducible refine And.intro (by first | omega | decide) ?_
        refine hst.mono fun r H5 ⟨e5, p, s5, hs5, hp5, lp5, k5, hb5⟩ => ?_
        rw [e5]
        have hop2 := c_solve_Solver_Open (hs5.app (K := [some (.cells 0 (evC 0 k (aroundF d 65536 : Nat) [97] 1 0 0))])) (by simp)
        refine go 200 (fun _ => false) mixed ?_
        simp (disch := omega) only [↓reduceIte, go_sem, evC] <;> repeat with_reducible refine And.intro (by first | omega | decide) ?_
        refine hop2.mono fun r H6 ⟨hr6, e6⟩ => ?_
        rw [e6]
        obtain ⟨zs, rfl, hz⟩ : ∃ zs : List Int, r = .sl 1 (i64sV zs) ∧ zs.length = 1 := by
          rcases hr6 with ⟨_, h⟩ | ⟨zs, h, hz⟩
          · simp at h
          · exact ⟨zs, h, by simpa using hz⟩
        refine go 200 (fun _ => false) mixed ?_
        simp (disch := omega) only [↓reduceIte, go_sem, i64sV_len, hz] <;> repeat with_reducible refine And.intro (by first | omega | decide) ?_
        refine c_abatislaw12_lives.on (go 200 (fun _ => false) mixed ?_)
        simp (disch := omega) only [↓reduceIte, go_sem] <;> repeat with_reducible refine And.intro (by first | omega | decide) ?_
        obtain ⟨L', hL'⟩ := hfin H3 H5 s4 [some (.cells 0 (evC 0 k (aroundF d 65536 : Nat) [97] 1 0 0))] hb4 k4 k5
        rw [hL']
        exact fin_drop (.inr rfl) hb rfl (by simp)
    · simp (disch := omega) only [↓reduceIte, go_sem, i64sV_len, hy, hmin] <;> repeat with_reducible refine And.intro (by first | omega | decide) ?_
      refine htk.mono fun r H3 ⟨hr, s4, hs4, hb4, k4⟩ => ?_
      have hst := start_ok hs4 (by simp) (by decide) (by decide) (by omega) (by omega) [97] (by decide) (by simp) may_a 1 (.inl rfl) d 5 d1 d2 (by decide) (by decide)
      refine go 200 (fun _ => false) mixed ?_
      rcases hr with ⟨rfl, hL0⟩ | ⟨es, rfl, hel, _⟩
      · have hmin0 := hmin0' hL0
        simp (disch := omega) only [↓reduceIte, go_sem, hmin0] <;> repeat with_reducible refine And.intro (by first | omega | decide) ?_
        refine hst.mono fun r H5 ⟨e5, p, s5, hs5, hp5, lp5, k5, hb5⟩ => ?_
        rw [e5]
        have hop2 := c_solve_Solver_Open (hs5.app (K := [some (.cells 0 (evC 0 k (aroundF d 65536 : Nat) [97] 1 0 0))])) (by simp)
        refine go 200 (fun _ => false) mixed ?_
        simp (disch := omega) only [↓reduceIte, go_sem, evC] <;> repeat with_reducible refine And.intro (by first | omega | decide) ?_
        refine hop2.mono fun r H6 ⟨hr6, e6⟩ => ?_
        rw [e6]
        obtain ⟨zs, rfl, hz⟩ : ∃ zs : List Int, r = .sl 1 (i64sV zs) ∧ zs.length = 1 := by
          rcases hr6 with ⟨_, h⟩ | ⟨zs, h, hz⟩
          · simp at h
          · exact ⟨zs, h, by simpa using hz⟩
        refine go 200 (fun _ => false) mixed ?_
        simp (disch := omega) only [↓reduceIte, go_sem, i64sV_len, hz] <;> repeat with_reducible refine And.intro (by first | omega | decide) ?_
        refine c_abatislaw12_lives.on (go 200 (fun _ => false) mixed ?_)
        simp (disch := omega) only [↓reduceIte, go_sem] <;> repeat with_reducible refine And.intro (by first | omega | decide) ?_
        obtain ⟨L', hL'⟩ := hfin H3 H5 s4 [some (.cells 0 (evC 0 k (aroundF d 65536 : Nat) [97] 1 0 0))] hb4 k4 k5
        rw [hL']
        exact fin_drop (.inr rfl) hb rfl (by simp)
      · simp (disch := omega) only [↓reduceIte, go_sem, evsV_len, hel, hmin] <;> repeat with_reducible refine And.intro (by first | omega | decide) ?_
        refine hst.mono fun r H5 ⟨e5, p, s5, hs5, hp5, lp5, k5, hb5⟩ => ?_
        rw [e5]
        have hop2 := c_solve_Solver_Open (hs5.app (K := [some (.cells 0 (evC 0 k (aroundF d 65536 : Nat) [97] 1 0 0))])) (by simp)
        refine go 200 (fun _ => false) mixed ?_
        simp (disch := omega) only [↓reduceIte, go_sem, evC] <;> repeat with_reducible refine And.intro (by first | omega | decide) ?_
        refine hop2.mono fun r H6 ⟨hr6, e6⟩ => ?_
        rw [e6]
        obtain ⟨zs, rfl, hz⟩ : ∃ zs : List Int, r = .sl 1 (i64sV zs) ∧ zs.length = 1 := by
          rcases hr6 with ⟨_, h⟩ | ⟨zs, h, hz⟩
          · simp at h
          · exact ⟨zs, h, by simpa using hz⟩
        refine go 200 (fun _ => false) mixed ?_
        simp (disch := omega) only [↓reduceIte, go_sem, i64sV_len, hz] <;> repeat with_reducible refine And.intro (by first | omega | decide) ?_
        refine c_abatislaw12_lives.on (go 200 (fun _ => false) mixed ?_)
        simp (disch := omega) only [↓reduceIte, go_sem] <;> repeat with_reducible refine And.intro (by first | omega | decide) ?_
        obtain ⟨L', hL'⟩ := hfin H3 H5 s4 [some (.cells 0 (evC 0 k (aroundF d 65536 : Nat) [97] 1 0 0))] hb4 k4 k5
        rw [hL']
        exact fin_drop (.inr rfl) hb rfl (by simp)
end Go.Proofs.GoC
