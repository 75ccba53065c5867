/-
  SL: ranges over functions. No claim by itself.
-/
import Derived.Test.YtcmbnoloimdlaaaSlMapG
namespace Go.Proofs.SL
open Go
set_option linter.unusedSimpArgs false
set_option linter.unusedVariables false

/-- In a round the same orders will do. -/
def inRnd (ord : Nat → List Nat) : Nat → List Nat := fun n => if n = 1000000 then [1] else ord n
theorem inR_inRnd {ord : Nat → List Nat} : inR (inRnd ord) = true := rfl
@[go_sem] theorem inRnd_lt {ord : Nat → List Nat} {n : Nat} (h : n < 1000000) : inRnd ord n = ord n := if_neg (by omega)

def setMany (σ : Env) (ps : List Nat) (xs : List PV) : Env := (ps.zip xs).foldl (fun σ x => σ.set x.1 x.2) σ
attribute [go_sem] setMany List.zip_cons_cons List.zip_nil_right List.zip_nil_left List.foldl_cons List.foldl_nil

section
variable {P : Program} {T : Nat → Option TD} {ord : Nat → List Nat} {H0 : Heap} {Φ : AEx → Env → Heap → Prop} {β : Nat → Option Nat} {H : Heap} {w : World}

/-- A loop's record is written. -/
theorem lrec_put (hI : Inv β H w) {i l : Nat} {st : LoopState} {pend : Option Code} {σ : List PV} {ps : List Nat} {asg body : Code} (ho : H[i]? = some (some (.lrec st pend σ ps asg body))) (hl : β i = some l) :
    ∃ r : Loop, w.heap[l]? = some (.loop r) ∧ r.state = st ∧ r.pending = pend ∧ r.params = ps.toArray ∧ r.assign = asg ∧ r.body = body ∧ (r.tmps.size = σ.length ∧ ∀ t p, σ[t]? = some p → V β H w (r.tmps.getD t undef) p) ∧
      ∀ st' pend', Inv β (H.set i (some (.lrec st' pend' σ ps asg body))) (w.putObj l (.loop { r with state := st', pending := pend' })) ∧
        Ext β H w β (H.set i (some (.lrec st' pend' σ ps asg body))) (w.putObj l (.loop { r with state := st', pending := pend' })) := by
  obtain ⟨b, fn, D, tmps, hb, hh, hts, htv⟩ := hI.ok i _ ho
  rw [hl] at hb
  cases hb
  have hlt : l < w.heap.size := hI.block ⟨_, ho⟩ hl
  refine ⟨_, hh, rfl, rfl, rfl, rfl, rfl, ⟨hts, htv⟩, fun st' pend' => ?_⟩
  have hs : Same w (w.putObj l (.loop { state := st', pending := pend', fn := fn, tmps := tmps, params := ps.toArray, assign := asg, body := body, defers := D })) := ⟨rfl, rfl, rfl, by simp⟩
  have he := set_ext hI hs ho hl (fun k _ hk => World.putObj_heap_other hk) (by unfold bsize; rw [hh, World.putObj_heap_same hlt]) (o' := .lrec st' pend' σ ps asg body) (.inr ⟨rfl, rfl⟩)
  exact ⟨set_inv hI ho hl (fun k _ hk => World.putObj_heap_other hk) he ⟨l, fn, D, tmps, hl, World.putObj_heap_same hlt, hts, fun t p hp => (htv t p hp).mono he⟩, he⟩

theorem setMany_fr : ∀ (ps : List Nat) (vs : List Value) (xs : List PV) (tmps : Array Value) (σ : Env), vs.length = xs.length → (∀ (k : Nat) (v : Value) (p : PV), vs[k]? = some v → xs[k]? = some p → V β H w v p) → tmps.size = σ.length → (∀ t p, σ[t]? = some p → V β H w (tmps.getD t undef) p) →
    ((ps.zip vs).foldl (fun tmps x => tmps.setIfInBounds x.1 x.2) tmps).size = (setMany σ ps xs).length ∧ ∀ t p, (setMany σ ps xs)[t]? = some p → V β H w (((ps.zip vs).foldl (fun tmps x => tmps.setIfInBounds x.1 x.2) tmps).getD t undef) p
  | [], vs, xs, tmps, σ, _, _, h1, h2 => ⟨h1, h2⟩
  | _ :: _, [], [], tmps, σ, _, _, h1, h2 => ⟨h1, h2⟩
  | _ :: _, [], _ :: _, _, _, hl, _, _, _ => by simp at hl
  | _ :: _, _ :: _, [], _, _, hl, _, _, _ => by simp at hl
  | t0 :: ps, v :: vs, x :: xs, tmps, σ, hl, hv, h1, h2 => by
    have hv0 : V β H w v x := hv 0 v x rfl rfl
    have := setMany_fr ps vs xs (tmps.setIfInBounds t0 v) (σ.set t0 x) (by simpa using hl) (fun k v p h3 h4 => hv (k + 1) v p (by simpa using h3) (by simpa using h4)) (by simpa using h1) fun t p hp => by
      by_cases e : t0 = t
      · subst e
        have hlt : t0 < σ.length := by
          rcases Nat.lt_or_ge t0 σ.length with h | h
          · exact h
          · rw [List.getElem?_eq_none (by simpa using h)] at hp; cases hp
        rw [List.getElem?_set_self hlt] at hp
        cases hp
        simp [h1, hlt]
        exact hv0
      · rw [List.getElem?_set_ne e] at hp
        have := h2 t p hp
        simpa [Array.getElem?_setIfInBounds_ne e, Array.getD_eq_getD_getElem?] using this
    simpa [setMany] using this

/-- What a round leaves. -/
def RoundEnds (H : Heap) (i : Nat) (σ : List PV) (ps : List Nat) (asg body : Code) (Q : PV → Heap → Prop) (x : AEx) (σ2 : Env) (H2 : Heap) : Prop :=
  ∃ σ3 H3, Ghost H σ2 H2 σ3 H3 ∧ H3[i]? = some (some (.lrec .busy none σ ps asg body)) ∧ match x with
    | .normal => Q (.bool true) (H3.set i (some (.lrec .ready none σ ps asg body)))
    | .ret => Q (.bool false) (H3.set i (some (.lrec .done (some .ret) σ ps asg body)))
    | .exit id => Q (.bool false) (H3.set i (some (.lrec .done (some (.exit id)) σ ps asg body)))

/-- A call of yield, out of the round's code. -/
theorem ycall_of {i : Nat} {ps : List Nat} {σ : List PV} {asg body : Code} {xs : List PV} {Q : PV → Heap → Prop} (ord : Nat → List Nat) (ho : H[i]? = some (some (.lrec .ready none σ ps asg body))) (hl : xs.length = ps.length)
    (hca : codeOk T (inRnd ord) asg = true) (hcb : codeOk T (inRnd ord) body = true)
    (h : HB H.length H → Runs P T (inRnd ord) H [.code asg] (setMany σ ps xs) H fun x σ1 H1 => x = .normal ∧ H1[i]? = some (some (.lrec .ready none σ ps asg body)) ∧
      Runs P T (inRnd ord) H [.code body] σ1 (H1.set i (some (.lrec .busy none σ ps asg body))) (RoundEnds H i σ ps asg body Q)) : YCall P i xs H Q := by
  refine ⟨⟨_, ho, rfl⟩, fun β w vs l hI hbl hs hv => ?_⟩
  obtain ⟨r, hh, r1, r2, r3, r4, r5, ⟨r6, r7⟩, _⟩ := lrec_put hI ho hbl
  have hsz : vs.size = r.params.size := by rw [hs, hl, r3]; simp
  refine ⟨r.fn, _, r.assign, r.body, run_yield hh hsz, roundIn_of_wpIn (F := Fence.wide) trivial ?_⟩
  rw [r4, r5]
  have hfold : (r.params.zip vs).foldl (fun tmps (x : Tmp × Value) => tmps.setIfInBounds x.1 x.2) r.tmps = (ps.zip vs.toList).foldl (fun tmps x => tmps.setIfInBounds x.1 x.2) r.tmps := by
    rw [r3, ← Array.foldl_toList]
    congr 1
    simp [Array.toList_zip]
  obtain ⟨f1, f2⟩ := setMany_fr (β := β) (H := H) (w := w) ps vs.toList xs r.tmps σ (by simpa using hs) (fun k v p h1 h2 => hv k v p (by simpa using h1) h2) r6 r7
  have hF : FR w.heap.size β H w { tmps := (r.params.zip vs).foldl (fun tmps (x : Tmp × Value) => tmps.setIfInBounds x.1 x.2) r.tmps, defers := [] } (setMany σ ps xs) := by
    rw [hfold]; exact ⟨f1, f2, .nil⟩
  have h1 := h hI.hb ⟨fun it hit => by simp only [List.mem_singleton] at hit; subst hit; exact hca, by simp⟩ β w β w _ hI (Ext.refl ..) hF (some l) (fun h => by rw [inR_inRnd] at h; cases h)
  have h1' : asg.wpIn (wideR (some l)) 0 P (Fin _ β H w) _ w := h1
  refine wpIn_mono h1' fun e a1 w1 he => ?_
  obtain ⟨x, σ1, H1, β1, hx, i1, e1, g1, rfl, ho1, hbody⟩ := he
  have hlive : ∀ {β2 : Nat → Option Nat} {H2 : Heap} {w2 : World} {o : OB}, Ext β H w β2 H2 w2 → H2[i]? = some (some o) → o.ver = 0 → β2 i = some l := fun e2 ho2 hv2 => by
    have hr : Ref H i 0 := ⟨Alive.lt ⟨_, ho⟩, fun o _ => Nat.zero_le _⟩
    rw [((e2.live i 0 hr).2 ⟨_, ho2, hv2⟩).2.1]; exact hbl
  cases e <;> simp only [exOk] at hx
  show ∃ w₂, (Instr.beginRound l).run P w1 = .ok () w₂ ∧ body.wpIn (Fence.wide.inRound l) 0 P (roundPost P l _) a1 w₂
  obtain ⟨r', hh', q1, q2, q3, q4, q5, q6, hput⟩ := lrec_put i1 ho1 (hlive e1 ho1 rfl)
  obtain ⟨i2, e2⟩ := hput .busy none
  refine ⟨_, run_beginRound hh' q1, ?_⟩
  have hw2 : (w1.putObj l (.loop { r' with state := .busy })) = w1.putObj l (.loop { r' with state := .busy, pending := none }) := by rw [← q2]
  rw [hw2]
  have h2 := hbody ⟨fun it hit => by simp only [List.mem_singleton] at hit; subst hit; exact hcb, by simp⟩ β w β1 _ a1 i2 (e1.trans e2) (g1.mono e2) (some l) (fun h => by rw [inR_inRnd] at h; cases h)
  have h2' : body.wpIn (wideR (some l)) 0 P (Fin _ β H w) a1 (w1.putObj l (.loop { r' with state := .busy, pending := none })) := h2
  refine wpIn_mono h2' fun e a2 w3 he => ?_
  obtain ⟨x, σ2, H2, β2, hx, i3, e3, g3, σ3, H3, gh, ho3, hq⟩ := he
  obtain ⟨β3, i4, e4, g4⟩ := gh β w β2 w3 a2 i3 e3 g3
  obtain ⟨r'', hh'', s1, s2, s3, s4, s5, s6, hput2⟩ := lrec_put i4 ho3 (hlive e4 ho3 rfl)
  cases e <;> cases x <;> simp only [exOk] at hx
  · obtain ⟨i5, e5⟩ := hput2 .ready none
    exact ⟨_, _, run_endRound none hh'', _, .bool true, β3, _, rfl, i5, e4.trans e5, .bool _, hq⟩
  · subst hx
    rename_i id
    obtain ⟨i5, e5⟩ := hput2 .done (some (.exit id))
    exact ⟨_, _, run_endRound (some (.exit id)) hh'', _, .bool false, β3, _, rfl, i5, e4.trans e5, .bool _, hq⟩
  · obtain ⟨i5, e5⟩ := hput2 .done (some .ret)
    exact ⟨_, _, run_endRound (some .ret) hh'', _, .bool false, β3, _, rfl, i5, e4.trans e5, .bool _, hq⟩

/-- What is to be shown behind a range over a function. -/
def RangeEnds (P : Program) (T : Nat → Option TD) (ord : Nat → List Nat) (H0 : Heap) (Φ : AEx → Env → Heap → Prop) (k : List It) (i : Nat) (σ : Env) (ps : List Nat) (asg body : Code) (H2 : Heap) : Prop :=
  ∃ st pend, st ≠ LoopState.busy ∧ H2[i]? = some (some (.lrec st pend σ ps asg body)) ∧ match pend with
    | none => Runs P T ord H0 k σ (H2.set i none) Φ
    | some .ret => Φ .ret σ (H2.set i none)
    | some (.exit id) => (match toBlk id k with
      | some k' => Runs P T ord H0 k' σ (H2.set i none) Φ
      | none => Φ (.exit id) σ (H2.set i none))
    | some _ => False

/-- A range over a function. -/
theorem runs_rangeFunc {g : Operand} {ps : Array Nat} {asg body : Code} {k : List It} {σ : Env} {gf : Nat} {caps : List PV} (hc : k.all calmB = true) (hr : inR ord = false) (hg : opn σ g = .func (.func gf) [] caps)
    (hcall : SCall P gf (.yld H.length :: caps) (H ++ [some (.lrec .ready none σ ps.toList asg body)]) fun _ H2 => RangeEnds P T ord H0 Φ k H.length σ ps.toList asg body H2) :
    Runs P T ord H0 (.code (.rangeFunc g ps asg body) :: k) σ H Φ := by
  have hcalm := calm_of hc
  intro hok
  have hkk : ItsOk T ord k := ⟨fun x hx => hok.1 x (List.mem_cons_of_mem _ hx), fun x hx => hcalm x (List.mem_of_mem_tail hx)⟩
  intro β0 w0 β w a hI hE hF r hro
  obtain rfl := hro hr
  show (Code.rangeFunc g ps asg body).wpIn (wideR none) 0 P (kontL P none (Fin Φ β0 H0 w0) k) a w
  refine wpIn_rangeFunc fun fn _ => ?_
  have hfv := hF.opn g
  rw [hg] at hfv
  obtain ⟨va, vb, hfe, h1, h2, h3, h4⟩ := hfv.func_inv
  have hva : va = #[] := Array.eq_empty_of_size_eq_zero (by simpa using h1)
  subst hva
  -- the block for the rounds' deferred calls
  have sz0 : (w.alloc (.deferred (some []))).heap.size = w.heap.size + 1 := World.size_alloc ..
  have old0 : ∀ b, b < w.heap.size → (w.alloc (.deferred (some []))).heap[b]? = w.heap[b]? := fun b hb => push_old w _ hb
  have hs0 : Same w (w.alloc (.deferred (some []))) := ⟨rfl, rfl, rfl, by rw [sz0]; omega⟩
  have e0 := quiet_ext hI hs0 old0
  have i0 := quiet_inv hI hs0 old0
  have hmark : Marks w0.heap.size β H (w.alloc (.deferred (some []))) ({ target := .collected w.heap.size, args := #[] } :: a.defers) := by
    refine ⟨fun d hd => ?_, List.pairwise_cons.mpr ⟨fun d hd he => ?_, hF.defers.ne⟩⟩
    · rcases List.mem_cons.mp hd with rfl | hd
      · exact ⟨_, rfl, hE.size, ⟨by rw [sz0]; omega, fun i hi hb => by have := hI.block hi.alive hb; omega⟩, World.alloc_heap_new w _⟩
      · exact (hF.defers.mono e0).at_ d hd
    · obtain ⟨D, a1, _, a2, _⟩ := hF.defers.at_ d hd
      have hlt := a2.1
      rw [← he] at a1
      simp only [Deferred.mk.injEq, Target.collected.injEq, and_true] at a1
      omega
  -- the record
  have hnew : ∀ o : Obj, ((w.alloc (.deferred (some []))).alloc o).heap[w.heap.size + 1]? = some o := fun o => by have := World.alloc_heap_new (w.alloc (.deferred (some []))) o; rwa [sz0] at this
  obtain ⟨R, hR⟩ : ∃ R : Obj, R = .loop { state := .ready, pending := none, fn, tmps := a.tmps, params := ps, assign := asg, body, defers := w.heap.size } := ⟨_, rfl⟩
  have old1 : ∀ b, b < (w.alloc (.deferred (some []))).heap.size → ((w.alloc (.deferred (some []))).alloc R).heap[b]? = (w.alloc (.deferred (some []))).heap[b]? := fun b hb => push_old _ _ hb
  have hs1 : Same (w.alloc (.deferred (some []))) ((w.alloc (.deferred (some []))).alloc R) := ⟨rfl, rfl, rfl, by simp only [World.size_alloc]; omega⟩
  have hr1 : ∀ b, some (w.heap.size + 1) = some b → (w.alloc (.deferred (some []))).heap.size ≤ b := fun b hb => by cases hb; omega
  have e1 := push_ext (o := .lrec .ready none σ ps.toList asg body) (r := some (w.heap.size + 1)) i0 hs1 old1 hr1
  have i1 := push_inv (o := .lrec .ready none σ ps.toList asg body) (r := some (w.heap.size + 1)) i0 old1 hr1 e1 ⟨w.heap.size + 1, fn, w.heap.size, a.tmps, more_self .., by rw [hnew, hR], hF.size, fun t p hp => ((hF.v t p hp).mono e0).mono e1⟩
  refine ⟨w.heap.size + 1, [{ target := .collected w.heap.size, args := #[] }], (w.alloc (.deferred (some []))).alloc R, { target := .fn (.func gf) vb, args := #[.func (.yield (w.heap.size + 1)) #[] #[]] }, (w.alloc (.deferred (some []))).alloc R, gf, #[.func (.yield (w.heap.size + 1)) #[] #[]] ++ vb, (w.alloc (.deferred (some []))).alloc R, by rw [hR]; exact run_enterLoop_outer _ _ _ _ _, ?_, fun _ _ => trivial, ?_, fun h => (by cases h), callsIn_wideR ?_⟩
  · simp only [resolve, rangeCall, Deferred.ofValue, hfe]
    simp [Act.eval, Sem.run_pure]
  · simp only [invoke]
    exact hcall.1 _ _
  have hvs : (#[Value.func (.yield (w.heap.size + 1)) #[] #[]] ++ vb).size = (PV.yld H.length :: caps).length := by simp [h2]; omega
  refine (hcall.2 _ _ _ i1 hvs fun i v p hv hp => ?_).mono ?_
  · cases i with
    | zero =>
      simp only [List.getElem?_cons_zero, Option.some.injEq] at hp
      subst hp
      rw [Array.getElem?_append_left (by simp)] at hv
      simp only [List.getElem?_toArray, List.getElem?_cons_zero, Option.some.injEq] at hv
      subst hv
      exact .yld _ _ ⟨by simp, fun o _ => Nat.zero_le _⟩ fun _ => more_self ..
    | succ i =>
      simp only [List.getElem?_cons_succ] at hp
      rw [Array.getElem?_append_right (by simp)] at hv
      have hv' : vb[i]? = some v := by simpa using hv
      exact ((h4 i v p hv' hp).mono e0).mono e1
  · rintro e w' ⟨v, r, β', H2, rfl, i2, e2, _, st, pend, hst, ho2, hq⟩
    have hlr : Ref (H ++ [some (OB.lrec .ready none σ ps.toList asg body)]) H.length 0 := ⟨by simp, fun o _ => Nat.zero_le _⟩
    have hbl : β' H.length = some (w.heap.size + 1) := by
      rw [((e2.live H.length 0 hlr).2 ⟨_, ho2, rfl⟩).2.1]; exact more_self ..
    obtain ⟨r', hh', q1, q2, q3, q4, q5, q6, hput⟩ := lrec_put i2 ho2 hbl
    obtain ⟨i3, e3⟩ := hput .exhausted pend
    have i4 := kill_inv (i := H.length) i3
    have e4 := kill_ext β' (H2.set H.length (some (.lrec .exhausted pend σ ps.toList asg body))) (w'.putObj (w.heap.size + 1) (.loop { r' with state := .exhausted, pending := pend })) H.length
    rw [List.set_set] at i4 e4
    have eAll := ((e1.trans e2).trans e3).trans e4
    have hF2 : FR w0.heap.size β' (H2.set H.length none) (w'.putObj (w.heap.size + 1) (.loop { r' with state := .exhausted, pending := pend })) { a with defers := [{ target := .collected w.heap.size, args := #[] }] ++ a.defers } σ :=
      ⟨hF.size, fun t p hp => ((hF.v t p hp).mono e0).mono eAll, hmark.mono eAll⟩
    have hE2 := (hE.trans e0).trans eAll
    have hend := run_endLoop (P := P) hh' (by rw [q1]; exact hst)
    rw [q2] at hend
    refine ⟨pend, _, hend, ?_⟩
    cases pend with
    | none => exact runs_calm hcalm hkk hq β0 w0 β' _ _ i4 hE2 hF2 none hro
    | some c =>
      cases c with
      | ret => exact wpIn_ret (kont_ret k _ _ ⟨.ret, σ, _, β', trivial, i4, hE2, hF2, hq⟩)
      | exit id =>
        refine wpIn_exit ((kont_exit id k _ _).mpr ?_)
        simp only at hq
        split at hq
        · rename_i k' hk'
          simp only [hk']
          have hs := toBlk_sub k k' hk'
          exact runs_calm (fun x hx => hcalm x (hs x hx)) ⟨fun x hx => hkk.1 x (hs x hx), fun x hx => hcalm x (hs x (List.mem_of_mem_tail hx))⟩ hq β0 w0 β' _ _ i4 hE2 hF2 none hro
        · rename_i hk'
          simp only [hk']
          exact ⟨.exit id, σ, _, β', rfl, i4, hE2, hF2, hq⟩
      | _ => exact hq.elim
end
end Go.Proofs.SL
