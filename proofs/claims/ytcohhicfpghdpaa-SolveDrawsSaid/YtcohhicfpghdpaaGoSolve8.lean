/-
  The law SolveDraws. No claim by itself.
-/
import Derived.Test.YtcohhicfpghdpaaGoSolve6
namespace Go.Proofs.GoC
open Go Go.Proofs.SL
set_option linter.unusedSimpArgs false
set_option linter.unusedVariables false
set_option maxRecDepth 10000
set_option maxHeartbeats 4000000

def intsV (l : List Int) : List PV := l.map fun n => .int .i64 n
@[go_sem] theorem intsV_len {l : List Int} : (intsV l).length = l.length := List.length_map ..
theorem intsV_get {l : List Int} {n : Nat} (h : n < l.length) : (intsV l).getD n .any = .int .i64 (l.getD n 0) := by
  simp [intsV, List.getD_eq_getElem?_getD, h]

def lkD (k : Nat) (v : Nat) (qi : Int) : Lk := ⟨0, k, (k : Int) + 1, 0, 604800, [97], qi, [97], 28, (k % v : Nat)⟩
def ordSV : Nat → List Nat
  | _ => []
structure DA where
  K : Heap
  s : PV
  L : List Nat
  k : Nat
structure DAI (H : Heap) (i ic im b v : Nat) (c : SCfg) (n : Nat) (a : DA) : Prop where
  sv : SvAt a.K i ic im a.s c 1 a.L
  st : (((a.k : Int) < c.tr ∧ ∃ p qi, a.L = [p] ∧ a.K[p]? = some (some (.cells 0 (lkC (lkD a.k v qi))))) ∨ (c.tr ≤ (a.k : Int) ∧ a.L = []))
  cf : a.K[b]? = some (some (.cells 0 (cfgC c)))
  keep : Keeps [] H a.K
  bs : ∀ j ∈ bufN a.s, b < j
  bL : ∀ p ∈ a.L, b < p
  le : a.k ≤ n
  l5 : a.k ≤ 5

theorem c_abatislaw12_SolveDraws (l : List Int) (hll : l.length ≤ 9223372036854775807) (hl : ∀ n ∈ l, -9223372036854775808 ≤ n ∧ n ≤ 9223372036854775807) (sv tr : Int) :
    GCall 4 [.sl 1 (intsV l), .int .i64 sv, .int .i64 tr] (.bool true) := by
  intro H hG
  refine scall_of (ord := fun _ => []) (rs := [6]) Try.func4 rfl (by kernel_rfl) (by kernel_rfl) (by kernel_rfl) Try.ntmps4 fun hb hargs => go 200 (fun _ => false) mixed ?_
  simp (disch := omega) only [↓reduceIte, go_sem] <;> repeat with_reducible refine And.intro (by first | omega | decide) ?_
  refine (c_solve_New sv tr 1 1).mono fun r H1 ⟨i, ic, im, e1, hs1, k1, hle⟩ => ?_
  rw [e1]
  have hsv := cutS_le (n := sv) (most := 4) (by decide)
  have htr := cutS_le (n := tr) (most := 5) (by decide)
  have hc1 : cutS 1 1000 = 1 := by decide
  have hc2 : cutS 1 64 = 1 := by decide
  rw [hc1, hc2] at hs1
  generalize cutS sv 4 = sv1 at *
  generalize cutS tr 5 = tr1 at *
  obtain ⟨v, rfl⟩ : ∃ v : Nat, sv1 = v := ⟨sv1.toNat, by omega⟩
  have hbd1 := hs1.bnd
  have hcf := c_solve_Solver_Config hs1
  refine go 200 (fun _ => false) mixed ?_
  simp (disch := omega) only [↓reduceIte, go_sem] <;> repeat with_reducible refine And.intro (by first | omega | decide) ?_
  refine hcf.mono fun r H2 ⟨e2, e3⟩ => ?_
  rw [e2, e3]
  refine go 200 (fun _ => false) mixed ?_
  simp (disch := omega) only [↓reduceIte, go_sem, cfgC] <;> repeat with_reducible refine And.intro (by first | omega | decide) ?_
  have hst := start_ok (hs1.app (K := [some (.cells 0 (cfgC ⟨v, tr1, 1, 1⟩))])) (by simp) (by show (1 : Int) ≤ 1; decide) (by show (1 : Int) ≤ 1000; decide) (by decide) (by decide) [97] (by decide) (by simp) may_a 28 (.inr rfl) 0 0 (by decide) (by decide) (by decide) (by decide)
  refine hst.mono fun r H3 ⟨e4, p, s3, hs3, hp3, lp3, k3, hb3⟩ => ?_
  rw [e4]
  have a0 : aroundF 0 65536 = 0 := by decide
  rw [a0] at hp3
  have hl3 : (H1 ++ [some (OB.cells 0 (cfgC ⟨v, tr1, 1, 1⟩))]).length = H1.length + 1 := by simp
  rw [hl3] at lp3
  have hcf3 : H3[H1.length]? = some (some (.cells 0 (cfgC ⟨v, tr1, 1, 1⟩))) := k3.get (by rw [get_tail0]; rfl) (by have := hbd1.i; simp [bufN]; omega)
  have hK3 : Keeps [] H H3 := ((k1.mono (G := [i]) (by simp)).trans (Keeps.app.trans (k3.mono (by simp [bufN])))).mono (by simp; omega)
  refine go 200 (fun _ => false) mixed ?_
  simp (disch := omega) only [↓reduceIte, go_sem, evC, a0] <;> repeat with_reducible refine And.intro (by first | omega | decide) ?_
  have hs3' := hs3.app (K := [some (.cells 0 (evC 0 0 0 [97] 28 0 0))])
  refine runs_loopA (DAI H i ic im H1.length v ⟨v, tr1, 1, 1⟩ l.length) (fun a => 5 - a.k) [true, false, false, false, false, false, false, true, true, false, false, true]
    (fun a => slots 130 [.sl 1 (intsV l), .any, .any, .any, .any, .any, .any, .ptr i 0 0, .ptr H1.length 0 0, .any, .any, .int .i64 a.k]) (fun a => a.K) (by rfl)
    ⟨H3 ++ [some (.cells 0 (evC 0 0 0 [97] 28 0 0))], s3, [p], 0⟩ ⟨hs3', .inl ⟨by show (0 : Int) < tr1; omega, p, 0, rfl, by
      have := get_app (S := [some (OB.cells 0 (evC 0 0 0 [97] 28 0 0))]) hp3
      simpa [lkD] using this⟩, get_app hcf3, hK3.trans Keeps.app, fun j hj => by
      rcases hb3 j hj with h | h
      · cases h
      · rw [hl3] at h; omega, fun q hq => by simp only [List.mem_singleton] at hq; subst hq; omega, Nat.zero_le _, Nat.zero_le _⟩ rfl rfl ?_
  rintro ⟨K, s, L, k⟩ ⟨hsvK, hst, hcfK, hkeep, hbs, hbL, hle2, hle5⟩
  dsimp only at hsvK hst hcfK hkeep hbs hbL hle2 hle5 ⊢
  have ocf := obj_of hcfK
  refine go 200 (fun _ => false) mixed ?_
  by_cases hlt : k < l.length
  · by_cases h5 : k < 5
    · have hget := intsV_get hlt
      have hm : l.getD k 0 ∈ l := by rw [List.getD_eq_getElem?_getD, List.getElem?_eq_getElem hlt]; exact List.getElem_mem hlt
      obtain ⟨dl, dh⟩ := hl _ hm
      generalize l.getD k 0 = d at *
      have hbi : i ≠ H1.length := by have := hbd1.i; omega
      have e1 : ((k : Int) + 1) = ((k + 1 : Nat) : Int) := by omega
      have hbd := hsvK.bnd
      have hl1 := k1.1
      have hkf : ∀ K1 : Heap, Keeps (i :: (bufN s ++ L)) K K1 → Keeps [] H K1 := fun K1 k => ((hkeep.mono (G := i :: (bufN s ++ L)) (by simp)).trans k).mono fun j hj => by
        rcases List.mem_cons.mp hj with rfl | hj
        · exact .inr hle
        · rcases List.mem_append.mp hj with hj | hj
          · have := hbs j hj; exact .inr (by omega)
          · have := hbL j hj; exact .inr (by omega)
      have hbf : ∀ s4 : PV, (s4 = .nils ∨ bufN s4 = bufN s) → ∀ j ∈ bufN s4, H1.length < j := fun s4 h j hj => by
        rcases h with rfl | h
        · cases hj
        · exact hbs j (h ▸ hj)
      rcases hst with ⟨hkt, p, qi, rfl, hp⟩ | ⟨hkt, rfl⟩
      · have hpb : p ≠ H1.length := by have := hbL p (by simp); omega
        by_cases hlast : tr1 ≤ (k : Int) + 1
        · have htk := tick_all hsvK (by simp) ((k + 1 : Nat) : Int) d (fun q hq => by
            simp only [List.mem_singleton] at hq
            subst hq
            exact ⟨_, hp, by show (k : Int) + 1 ≤ _; omega, by show (0 : Int) ≤ k; omega, by show (k : Int) ≤ 1000; omega, by show tr1 ≤ (k : Int) + 1; exact hlast⟩)
          have h1 : ¬ tr1 < ((k + 1 : Nat) : Int) := by omega
          have h2 : (((k + 1 : Nat) : Int) = tr1) = True := eq_true (by omega)
          simp (disch := omega) only [↓reduceIte, go_sem, hlt, h5, hget] <;> repeat with_reducible refine And.intro (by first | omega | decide) ?_
          refine htk.mono fun r K1 ⟨hr, s4, hs4, hb4, k4⟩ => ?_
          obtain ⟨n, rfl⟩ : ∃ n, r = .sl 8 [.agg (lastE n)] := by
            rcases hr with ⟨_, h⟩ | ⟨es, rfl, hl, hes⟩
            · cases h
            · cases es with
              | nil => cases hl
              | cons e es =>
                cases es with
                | nil => obtain ⟨n, rfl⟩ := hes e (by simp); exact ⟨n, rfl⟩
                | cons e' es => simp at hl
          have hcf1 := k4.get hcfK (by
            simp only [List.mem_cons, List.mem_append, List.not_mem_nil, or_false, not_or]
            exact ⟨fun h => hbi h.symm, fun hm => by have := hbs _ hm; omega, fun h => hpb h.symm⟩)
          have oc1 := obj_of hcf1
          have hop := c_solve_Solver_Open hs4 (by simp)
          refine go 200 (fun _ => false) mixed ?_
          simp (disch := omega) only [↓reduceIte, go_sem, oc1, cfgC, lastE, evC, h1, h2] <;> repeat with_reducible refine And.intro (by first | omega | decide) ?_
          refine hop.mono fun r H5 ⟨hr5, e5⟩ => ?_
          rw [e5]
          have hI : DAI H i ic im H1.length v ⟨v, tr1, 1, 1⟩ l.length ⟨K1, s4, [], k + 1⟩ := ⟨hs4, .inr ⟨by show tr1 ≤ ((k + 1 : Nat) : Int); omega, rfl⟩, hcf1, hkf K1 k4, hbf s4 hb4, (by intro q hq; cases hq), hlt, (by show k + 1 ≤ 5; omega)⟩
          rcases hr5 with ⟨rfl, _⟩ | ⟨ys, rfl, hy⟩
          · refine go 200 (fun _ => false) mixed ?_
            simp (disch := omega) only [↓reduceIte, go_sem] <;> repeat with_reducible refine And.intro (by first | omega | decide) ?_
            exact rnd_next ⟨K1, s4, [], k + 1⟩ hI (by show 5 - (k + 1) < 5 - k; omega) rfl rfl
          · refine go 200 (fun _ => false) mixed ?_
            simp (disch := omega) only [↓reduceIte, go_sem, i64sV_len, hy, List.length_nil] <;> repeat with_reducible refine And.intro (by first | omega | decide) ?_
            exact rnd_next ⟨K1, s4, [], k + 1⟩ hI (by show 5 - (k + 1) < 5 - k; omega) rfl rfl
        · have e : ((lkD k v qi).qs + 1).tmod (⟨v, tr1, 1, 1⟩ : SCfg).sv = (((k + 1) % v : Nat) : Int) := by
            show (((k % v : Nat) : Int) + 1).tmod (v : Int) = _
            exact congrArg (fun x : Nat => (x : Int)) (Nat.mod_add_mod k v 1)
          have htk := tick_more hsvK (by show (1 : Int) ≤ 1; decide) (by show (1 : Int) ≤ 1000; decide) hsv.1 (by show (v : Int) ≤ 1000; omega) hp ((k + 1 : Nat) : Int) d (by show (k : Int) + 1 ≤ _; omega) (by show (0 : Int) ≤ k; omega) (by show (k : Int) ≤ 1000; omega) (by show (0 : Int) ≤ (k % v : Nat); omega)
            (by show ((k % v : Nat) : Int) ≤ 1000; have := Nat.mod_lt k (y := v) (by omega); omega) (by show ¬ tr1 ≤ (k : Int) + 1; exact hlast) dl dh (by omega) (by omega)
          rw [e] at htk
          have h1 : ¬ tr1 < ((k + 1 : Nat) : Int) := by omega
          have h2 : (((k + 1 : Nat) : Int) = tr1) = False := eq_false (by omega)
          simp (disch := omega) only [↓reduceIte, go_sem, hlt, h5, hget] <;> repeat with_reducible refine And.intro (by first | omega | decide) ?_
          refine htk.mono fun r K1 ⟨e5, hp5, k5, hs5⟩ => ?_
          rw [e5]
          have hcf1 := k5.get hcfK (by simp only [List.mem_singleton]; exact fun h => hpb h.symm)
          have oc1 := obj_of hcf1
          refine go 200 (fun _ => false) mixed ?_
          have hv0 : ¬ (v : Int) = 0 := by omega
          simp (disch := omega) only [↓reduceIte, go_sem, oc1, cfgC, evC, h1, h2, lkD, hget, hv0] <;> repeat with_reducible refine And.intro (by first | omega | decide) ?_
          refine (c_abatisref01_Around d dl dh 65536 (by decide)).onq (go 200 (fun _ => false) mixed ?_)
          simp (disch := omega) only [↓reduceIte, go_sem, oc1, cfgC, evC, h1, h2, lkD, hget, hv0] <;> repeat with_reducible refine And.intro (by first | omega | decide) ?_
          refine rnd_next ⟨K1, s, [p], k + 1⟩ ⟨hs5, .inl ⟨by show ((k + 1 : Nat) : Int) < tr1; omega, p, (aroundF d 65536 : Nat), rfl, ?_⟩, hcf1, ?_, hbs, hbL, hlt, (by show k + 1 ≤ 5; omega)⟩ (by show 5 - (k + 1) < 5 - k; omega) rfl rfl
          · exact hp5
          · exact hkf K1 (k5.mono (by simp))
      · have htk := tick_all hsvK (by simp) ((k + 1 : Nat) : Int) d (fun q hq => by cases hq)
        have h1 : tr1 < ((k + 1 : Nat) : Int) := by omega
        simp (disch := omega) only [↓reduceIte, go_sem, hlt, h5, hget] <;> repeat with_reducible refine And.intro (by first | omega | decide) ?_
        refine htk.mono fun r K1 ⟨hr, s4, hs4, hb4, k4⟩ => ?_
        have hcf1 := k4.get hcfK (by
            simp only [List.mem_cons, List.mem_append, List.not_mem_nil, or_false, not_or]
            exact ⟨fun h => hbi h.symm, fun hm => by have := hbs _ hm; omega⟩)
        have oc1 := obj_of hcf1
        refine go 200 (fun _ => false) mixed ?_
        rcases hr with ⟨rfl, _⟩ | ⟨es, rfl, hel, _⟩
        · simp (disch := omega) only [↓reduceIte, go_sem, oc1, cfgC, h1] <;> repeat with_reducible refine And.intro (by first | omega | decide) ?_
          refine c_abatislaw12_lives.on (go 200 (fun _ => false) mixed ?_)
          simp (disch := omega) only [↓reduceIte, go_sem] <;> repeat with_reducible refine And.intro (by first | omega | decide) ?_
          obtain ⟨L', rfl⟩ := (hkf K1 k4).nil_split
          exact fin_drop (.inr rfl) hb rfl (by simp)
        · obtain rfl : es = [] := by simpa using hel
          simp (disch := omega) only [↓reduceIte, go_sem, oc1, cfgC, h1, evsV_len] <;> repeat with_reducible refine And.intro (by first | omega | decide) ?_
          refine c_abatislaw12_lives.on (go 200 (fun _ => false) mixed ?_)
          simp (disch := omega) only [↓reduceIte, go_sem] <;> repeat with_reducible refine And.intro (by first | omega | decide) ?_
          obtain ⟨L', rfl⟩ := (hkf K1 k4).nil_split
          exact fin_drop (.inr rfl) hb rfl (by simp)
    · simp (disch := omega) only [↓reduceIte, go_sem, hlt, h5] <;> repeat with_reducible refine And.intro (by first | omega | decide) ?_
      refine go 200 (fun _ => false) mixed ?_
      simp (disch := omega) only [↓reduceIte, go_sem] <;> repeat with_reducible refine And.intro (by first | omega | decide) ?_
      refine c_abatislaw12_lives.on (go 200 (fun _ => false) mixed ?_)
      simp (disch := omega) only [↓reduceIte, go_sem] <;> repeat with_reducible refine And.intro (by first | omega | decide) ?_
      obtain ⟨L', rfl⟩ := hkeep.nil_split
      exact fin_drop (.inr rfl) hb rfl (by simp)
  · simp (disch := omega) only [↓reduceIte, go_sem, hlt] <;> repeat with_reducible refine And.intro (by first | omega | decide) ?_
    refine go 200 (fun _ => false) mixed ?_
    simp (disch := omega) only [↓reduceIte, go_sem] <;> repeat with_reducible refine And.intro (by first | omega | decide) ?_
    refine c_abatislaw12_lives.on (go 200 (fun _ => false) mixed ?_)
    simp (disch := omega) only [↓reduceIte, go_sem] <;> repeat with_reducible refine And.intro (by first | omega | decide) ?_
    obtain ⟨L', rfl⟩ := hkeep.nil_split
    exact fin_drop (.inr rfl) hb rfl (by simp)
end Go.Proofs.GoC
