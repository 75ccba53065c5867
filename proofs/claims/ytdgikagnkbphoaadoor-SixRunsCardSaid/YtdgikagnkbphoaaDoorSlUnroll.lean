/-
  SL: loops round by round. No claim by itself.
-/
import Derived.Test.YtdgikagnkbphoaaDoorSlLift
import Derived.LoopN
namespace Go.Proofs.SL
open Go
set_option linter.unusedSimpArgs false
set_option linter.unusedVariables false

/-- What is to show where so many rounds are left. -/
def RU (P : Program) (T : Nat → Option TD) (ord : Nat → List Nat) (H0 : Heap) (Φ : AEx → Env → Heap → Prop) (c : Code) (its : List It) : Nat → AEx → Env → Heap → Prop
  | 0, .normal, _, _ => False
  | n + 1, .normal, σ, H => ∃ σ' H', Ghost H0 σ H σ' H' ∧ Runs P T ord H0 [.code c] σ' H' (RU P T ord H0 Φ c its n)
  | _, .exit id, σ, H => match toBlk id its with
    | some k => Runs P T ord H0 k σ H Φ
    | none => Φ (.exit id) σ H
  | _, .ret, σ, H => Φ .ret σ H

section
variable {P : Program} {T : Nat → Option TD} {ord : Nat → List Nat} {H0 : Heap} {Φ : AEx → Env → Heap → Prop} {c : Code} {its : List It}

@[go_sem] theorem ru_exit {n id : Nat} {σ : Env} {H : Heap} : RU P T ord H0 Φ c its n (.exit id) σ H ↔ match toBlk id its with
    | some k => Runs P T ord H0 k σ H Φ
    | none => Φ (.exit id) σ H := by cases n <;> exact Iff.rfl
@[go_sem] theorem ru_ret {n : Nat} {σ : Env} {H : Heap} : RU P T ord H0 Φ c its n .ret σ H ↔ Φ .ret σ H := by cases n <;> exact Iff.rfl

theorem runs_rounds (n : Nat) (hc : its.all calmB = true) {σ : Env} {H : Heap} (h : RU P T ord H0 Φ c its n .normal σ H) : Runs P T ord H0 (.loop c :: its) σ H Φ := by
  have hcalm := calm_of hc
  intro hok
  have hcc : codeOk T ord c = true := hok.1 (.loop c) (by simp)
  intro β0 w0 β w a hI hE hF
  show (Code.loop c).wp P (kontL P (Fin Φ β0 H0 w0) its) a w
  refine wp_loop_rounds n ?_
  induction n generalizing σ H β w a with
  | zero => exact h.elim
  | succ n ih =>
    obtain ⟨σ1, H1, g, hr⟩ := h
    obtain ⟨β1, g1, g2, g3⟩ := g β0 w0 β w a hI hE hF
    have hr' : Run P H0 [.code c] σ1 H1 (RU P T ord H0 Φ c its n) := hr ⟨fun it hit => (by simp only [List.mem_singleton] at hit; subst hit; exact hcc), by simp⟩
    have h1 : c.wp P (Fin (RU P T ord H0 Φ c its n) β0 H0 w0) a w := hr' β0 w0 β1 w a g1 g2 g3
    show c.wp P _ a w
    refine wp_mono h1 fun e a' w' he => ?_
    obtain ⟨x, σ2, H2, β2, hx, k1, k2, k3, k4⟩ := he
    cases e <;> cases x <;> simp only [exOk] at hx
    · exact ih k4 β2 w' a' k1 k2 k3
    · subst hx
      rename_i id
      rw [ru_exit] at k4
      refine (kont_exit id its a' w').mpr ?_
      split at k4
      · rename_i k hk
        simp only [hk]
        have hs := toBlk_sub its k hk
        exact runs_calm (fun x hx => hcalm x (hs x hx)) ⟨fun x hx => hok.1 x (List.mem_cons_of_mem _ (hs x hx)), fun x hx => hcalm x (hs x (List.mem_of_mem_tail hx))⟩ k4 β0 w0 β2 w' a' k1 k2 k3
      · rename_i hk
        simp only [hk]
        exact ⟨.exit id, σ2, H2, β2, rfl, k1, k2, k3, k4⟩
    · rw [ru_ret] at k4
      exact kont_ret its a' w' ⟨.ret, σ2, H2, β2, trivial, k1, k2, k3, k4⟩

/-- One round more: with the slots that the mask keeps. -/
theorem ru_go (mask : List Bool) {n : Nat} {σ : Env} {H : Heap} (h : Runs P T ord H0 [.code c] (keepB mask σ) H (RU P T ord H0 Φ c its n)) : RU P T ord H0 Φ c its (n + 1) .normal σ H :=
  ⟨keepB mask σ, H, Ghost.keep mask, h⟩
@[go_sem] theorem resAll_1 {σ : Env} {H : Heap} {r : ResultVar} : resAll T σ H [r] = resOne T σ H r := rfl
@[go_sem] theorem resAll_2 {σ : Env} {H : Heap} {r r' : ResultVar} : resAll T σ H [r, r'] = ((resOne T σ H r).1 && ((resOne T σ H r').1 && true), .tup [(resOne T σ H r).2, (resOne T σ H r').2]) := rfl
@[go_sem] theorem resOne_t {σ : Env} {H : Heap} {t : Nat} : resOne T σ H (.tmp t) = (true, σ.getD t .any) := rfl
@[go_sem] theorem resOne_c {σ : Env} {H : Heap} {t ty : Nat} : resOne T σ H (.cell t ty) = match T ty with
    | some d => loadV d H (σ.getD t .any)
    | none => no := rfl
attribute [go_sem] Prod.mk.injEq
end

end Go.Proofs.SL
