/-
  SL: the table of types, out of the program. No claim by itself.
-/
import Derived.Test.YtdgikagnkbphoaaDoorSlGhost
namespace Go.Proofs.SL
open Go
set_option linter.unusedSimpArgs false
set_option linter.unusedVariables false

def tkOf : TypeDesc → TK
  | .int k => .int k
  | .bool => .bool
  | .string => .str
  | .pointer e => .ptr e
  | .slice e => .slice e
  | .array n e => .arr n e
  | .struct fs => .struct (fs.toList.map fun f => (f.offset, f.type))
  | .map a b => .map a b
  | .interface _ => .iface
  | .func _ _ _ => .func
  | _ => .other

theorem tkOf_ok (u : TypeDesc) : kOk u (tkOf u) ∧ (tkOf u = .other → ifaceOf u = false) := by
  cases u <;> simp [tkOf, kOk, ifaceOf]

def tdOf (P : Program) (t : Nat) : Option TD :=
  match P.underlying t, P.info? t with
  | some u, some i => match i.zero with
    | some z => if z.cells.size = i.size then some ⟨tkOf u, i.size, aggOf u, i.bytes, ofValue z, if P.eqGuardType P.depth t = false then tagsOf P 12 t else none⟩ else none
    | none => none
  | _, _ => none

theorem tdOf_ok (P : Program) : TOk P (tdOf P) := by
  intro t d h
  unfold tdOf at h
  split at h
  · rename_i u i hu hi
    split at h
    · rename_i z hz
      split at h
      · rename_i hs
        cases h
        exact ⟨⟨u, hu, (tkOf_ok u).1, rfl, (tkOf_ok u).2⟩, ⟨i, z, hi, rfl, rfl, hz, rfl, hs⟩, fun l hl => by
        simp only at hl
        split at hl
        · rename_i hg; exact ⟨hg, hl⟩
        · cases hl⟩
      · cases h
    · cases h
  · cases h

/-- A function that gives this value, and leaves the heap. -/
def PCall (P : Program) (f : FuncId) (args : List PV) (r : PV) : Prop := ∀ H, SCall P f args H fun r' H' => r' = r ∧ H' = H

theorem PCall.go {P : Program} {T : Nat → Option TD} {ord : Nat → List Nat} {H0 : Heap} {Φ : AEx → Env → Heap → Prop} {f : FuncId} {args : List PV} {r : PV} (h : PCall P f args r) {its : List It} {dst : Option Nat} {σ : Env} {H : Heap}
    (k : Runs P T ord H0 its (upd σ dst r) H Φ) : SCall P f args H fun r' H' => Runs P T ord H0 its (upd σ dst r') H' Φ :=
  (h H).mono fun r' H' ⟨h1, h2⟩ => by subst h1; subst h2; exact k

section
variable {P : Program} {T : Nat → Option TD} {ord : Nat → List Nat} {H0 : Heap} {Φ : AEx → Env → Heap → Prop}

/-- The end of a function that has left the heap as it was. -/
theorem Ends.same {rs : List Nat} {Q : PV → Heap → Prop} {σ : Env} {H : Heap} {x : AEx} (hx : x = .normal ∨ x = .ret) (h : Q (retV σ rs) H) : Ends H0 rs Q x σ H :=
  ⟨by rcases hx with rfl | rfl <;> trivial, σ, H, Ghost.refl, h⟩

/-- The end of a function that has made objects that nothing knows of any more. -/
theorem Ends.drop {rs : List Nat} {Q : PV → Heap → Prop} {σ : Env} {L : Heap} {x : AEx} (hx : x = .normal ∨ x = .ret) (hb : HB H0.length H0) (hr : ∀ t ∈ rs, Bdd H0.length (σ.getD t .any))
    (h : Q (retV σ rs) H0) : Ends H0 rs Q x σ (H0 ++ L) := by
  refine ⟨by rcases hx with rfl | rfl <;> trivial, σ.mapIdx fun i p => if i ∈ rs then p else .any, H0, Ghost.trim hb (Nat.le_refl _) (by simp) fun i p hp => ?_, ?_⟩
  · simp only [List.getElem?_mapIdx] at hp
    cases hi : σ[i]? with
    | none => rw [hi] at hp; cases hp
    | some q =>
      rw [hi] at hp
      simp only [Option.map_some, Option.some.injEq] at hp
      by_cases hm : i ∈ rs
      · rw [if_pos hm] at hp
        subst hp
        refine .inr ⟨rfl, ?_⟩
        have := hr i hm
        simpa [List.getD_eq_getElem?_getD, hi] using this
      · rw [if_neg hm] at hp; exact .inl hp.symm
  · have e : ∀ t, t ∈ rs → (σ.mapIdx fun i p => if i ∈ rs then p else PV.any).getD t .any = σ.getD t .any := fun t ht => by
      simp only [List.getD_eq_getElem?_getD, List.getElem?_mapIdx]
      cases hi : σ[t]? with
      | none => rfl
      | some q => simp [ht]
    have : retV (σ.mapIdx fun i p => if i ∈ rs then p else PV.any) rs = retV σ rs := by
      unfold retV
      split
      · exact e _ (by simp)
      · exact congrArg PV.tup (List.map_congr_left fun t ht => e t ht)
    rw [this]
    exact h

/-- Slots kept, and forgotten; all behind the mask are forgotten. -/
def keepB : List Bool → Env → Env
  | true :: m, p :: σ => p :: keepB m σ
  | false :: m, _ :: σ => .any :: keepB m σ
  | [], _ :: σ => .any :: keepB [] σ
  | _, [] => []

theorem keepB_len : ∀ (m : List Bool) (σ : Env), (keepB m σ).length = σ.length
  | [], [] => rfl
  | _ :: _, [] => by simp [keepB]
  | [], p :: σ => by simp [keepB, keepB_len [] σ]
  | true :: m, p :: σ => by simp [keepB, keepB_len m σ]
  | false :: m, p :: σ => by simp [keepB, keepB_len m σ]

theorem keepB_get : ∀ (m : List Bool) (σ : Env) (i : Nat) (p : PV), (keepB m σ)[i]? = some p → p = .any ∨ σ[i]? = some p
  | [], [], i, p, h => .inr h
  | _ :: _, [], i, p, h => by simp [keepB] at h
  | [], q :: σ, 0, p, h => .inl (by simpa [keepB] using h.symm)
  | [], q :: σ, i + 1, p, h => keepB_get [] σ i p (by simpa [keepB] using h)
  | true :: m, q :: σ, 0, p, h => .inr h
  | false :: m, q :: σ, 0, p, h => .inl (by simpa [keepB] using h.symm)
  | true :: m, q :: σ, i + 1, p, h => keepB_get m σ i p (by simpa [keepB] using h)
  | false :: m, q :: σ, i + 1, p, h => keepB_get m σ i p (by simpa [keepB] using h)

theorem keepB_keepB : ∀ (m : List Bool) (σ : Env), keepB m (keepB m σ) = keepB m σ
  | [], [] => rfl
  | _ :: _, [] => by simp [keepB]
  | [], p :: σ => by simp [keepB, keepB_keepB [] σ]
  | true :: m, p :: σ => by simp [keepB, keepB_keepB m σ]
  | false :: m, p :: σ => by simp [keepB, keepB_keepB m σ]

theorem Ghost.keep (m : List Bool) {σ : Env} {H : Heap} : Ghost H0 σ H (keepB m σ) H := Ghost.weak (keepB_len m σ) (keepB_get m σ)

/-- Some slots are kept; the last objects are dropped. -/
theorem Ghost.cut (m : List Bool) {σ : Env} {K L : Heap} (hK : HB K.length K) (hl : H0.length ≤ K.length) (hb : ∀ p ∈ keepB m σ, Bdd K.length p) : Ghost H0 σ (K ++ L) (keepB m σ) K :=
  Ghost.trim hK hl (keepB_len m σ) fun i p hp => (keepB_get m σ i p hp).elim .inl fun h => .inr ⟨h, hb p (List.mem_of_getElem? hp)⟩

/-- What one round of a loop is to show, where the state is told by 'a'. -/
def RndA (P : Program) (T : Nat → Option TD) (ord : Nat → List Nat) (H0 : Heap) (Φ : AEx → Env → Heap → Prop) (its : List It) {α : Type} (inv : α → Prop) (meas : α → Nat) (mask : List Bool) (env : α → Env) (hp : α → Heap) (n : Nat) : AEx → Env → Heap → Prop
  | .normal, σ, H => ∃ b, inv b ∧ meas b < n ∧ ∃ σ' H', Ghost H0 σ H σ' H' ∧ keepB mask σ' = env b ∧ H' = hp b
  | .exit id, σ, H => match toBlk id its with
    | some k => Runs P T ord H0 k σ H Φ
    | none => Φ (.exit id) σ H
  | .ret, σ, H => Φ .ret σ H

theorem runs_loopA {α : Type} (inv : α → Prop) (meas : α → Nat) (mask : List Bool) (env : α → Env) (hp : α → Heap) {c : Code} {its : List It} (hc : its.all calmB = true) (a : α) {σ : Env} {H : Heap} (h0 : inv a) (hσ : keepB mask σ = env a) (hH : H = hp a)
    (step : ∀ b, inv b → Runs P T ord H0 [.code c] (env b) (hp b) (RndA P T ord H0 Φ its inv meas mask env hp (meas b))) : Runs P T ord H0 (.loop c :: its) σ H Φ := by
  refine Runs.ghost (σ' := keepB mask σ) (H' := H) (by simpa [calmB] using hc) (Ghost.keep mask) ?_
  refine runs_loop hc (fun n σ H => ∃ b, inv b ∧ meas b = n ∧ σ = env b ∧ H = hp b) (fun n σ H hI => ?_) (n := meas a) ⟨a, h0, rfl, hσ, hH⟩
  obtain ⟨b, hb, rfl, rfl, rfl⟩ := hI
  have h := step b hb
  intro hok
  have h1 : Run P H0 [.code c] (env b) (hp b) (RndA P T ord H0 Φ its inv meas mask env hp (meas b)) := h hok
  refine h1.mono1 fun x σ2 H2 h2 => ?_
  cases x with
  | normal =>
    obtain ⟨b', i1, i2, σ3, H3, g, i3, i4⟩ := h2
    exact ⟨meas b', i2, keepB mask σ3, H3, g.trans (Ghost.keep mask), b', i1, rfl, i3, i4⟩
  | exit id => exact h2
  | ret => exact h2

/-- What a piece of code is to show, behind which a new proof begins: with the slots that the mask keeps. -/
def Mid (P : Program) (T : Nat → Option TD) (ord : Nat → List Nat) (H0 : Heap) (Φ : AEx → Env → Heap → Prop) (k : List It) (mask : List Bool) (mid : Env → Heap → Prop) : AEx → Env → Heap → Prop
  | .normal, σ, H => ∃ σ' H', Ghost H0 σ H σ' H' ∧ mid (keepB mask σ') H'
  | .exit id, σ, H => match toBlk id k with
    | some k' => Runs P T ord H0 k' σ H Φ
    | none => Φ (.exit id) σ H
  | .ret, σ, H => Φ .ret σ H

theorem runs_cut (mask : List Bool) (mid : Env → Heap → Prop) {c : Code} {k : List It} (hk : k.all calmB = true) {σ : Env} {H : Heap} (h1 : Runs P T ord H0 [.code c] σ H (Mid P T ord H0 Φ k mask mid))
    (h2 : ∀ σ H, mid σ H → Runs P T ord H0 k σ H Φ) : Runs P T ord H0 (.code c :: k) σ H Φ := by
  have hcalm := calm_of hk
  intro hok
  have hc : codeOk T ord c = true := hok.1 (.code c) (by simp)
  have hkk : ItsOk T ord k := ⟨fun x hx => hok.1 x (List.mem_cons_of_mem _ hx), fun x hx => hcalm x (List.mem_of_mem_tail hx)⟩
  intro β0 w0 β w a hI hE hF
  show c.wp P (kontL P (Fin Φ β0 H0 w0) k) a w
  have h1' : c.wp P (Fin (Mid P T ord H0 Φ k mask mid) β0 H0 w0) a w := h1 ⟨fun it hit => (by simp only [List.mem_singleton] at hit; subst hit; exact hc), by simp⟩ β0 w0 β w a hI hE hF
  refine wp_mono h1' fun e a' w' he => ?_
  obtain ⟨x, σ2, H2, β2, hx, k1, k2, k3, k4⟩ := he
  cases e <;> cases x <;> simp only [exOk] at hx
  · obtain ⟨σ3, H3, g, hm⟩ := k4
    obtain ⟨β3, g1, g2, g3⟩ := (g.trans (Ghost.keep mask)) β0 w0 β2 w' a' k1 k2 k3
    exact runs_calm hcalm hkk (h2 _ _ hm) β0 w0 β3 w' a' g1 g2 g3
  · subst hx
    rename_i id
    refine (kont_exit id k a' w').mpr ?_
    simp only [Mid] at k4
    split at k4
    · rename_i k' hk'
      simp only [hk']
      have hs := toBlk_sub k k' hk'
      exact runs_calm (fun x hx => hcalm x (hs x hx)) ⟨fun x hx => hok.1 x (List.mem_cons_of_mem _ (hs x hx)), fun x hx => hcalm x (hs x (List.mem_of_mem_tail hx))⟩ k4 β0 w0 β2 w' a' k1 k2 k3
    · rename_i hk'
      simp only [hk']
      exact ⟨.exit id, σ2, H2, β2, rfl, k1, k2, k3, k4⟩
  · exact kont_ret k a' w' ⟨.ret, σ2, H2, β2, trivial, k1, k2, k3, k4⟩

theorem mid_to {k : List It} {mask : List Bool} {mid : Env → Heap → Prop} {σ : Env} {H : Heap} (h : mid (keepB mask σ) H) : Mid P T ord H0 Φ k mask mid .normal σ H := ⟨σ, H, Ghost.refl, h⟩

theorem rnd_next {α : Type} {inv : α → Prop} {meas : α → Nat} {mask : List Bool} {env : α → Env} {hp : α → Heap} {n : Nat} {its : List It} {σ : Env} {H : Heap} (b : α) (h1 : inv b) (h2 : meas b < n) (h3 : keepB mask σ = env b) (h4 : H = hp b) :
    RndA P T ord H0 Φ its inv meas mask env hp n .normal σ H := ⟨b, h1, h2, σ, H, Ghost.refl, h3, h4⟩

/-- A round's end, the last objects dropped. -/
theorem rnd_drop {α : Type} {inv : α → Prop} {meas : α → Nat} {mask : List Bool} {env : α → Env} {hp : α → Heap} {n : Nat} {its : List It} {σ : Env} {K L : Heap} (b : α) (h1 : inv b) (h2 : meas b < n) (h3 : keepB mask σ = env b) (h4 : K = hp b)
    (hK : HB K.length K) (hl : H0.length ≤ K.length) (hb : ∀ p ∈ env b, Bdd K.length p) : RndA P T ord H0 Φ its inv meas mask env hp n .normal σ (K ++ L) := by
  refine ⟨b, h1, h2, keepB mask σ, K, Ghost.cut mask hK hl (by rw [h3]; exact hb), ?_, h4⟩
  rw [keepB_keepB]; exact h3
end

end Go.Proofs.SL
