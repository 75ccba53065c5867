/-
  SL: no step takes back what was drawn. No claim by itself.
-/
import Derived.Calls
import Derived.StepT
namespace Go.Proofs.SL
open Go

def resW {α : Type} : Result α → World
  | .ok _ w => w
  | .halt _ w => w

theorem ask_drawn {α : Type} (a : Ask α) : ∀ w : World, w.drawn ≤ (w.ask a).2.drawn := by
  induction a with
  | done a => intro w; exact Nat.le_refl _
  | ask what range k ih =>
    intro w
    unfold World.ask
    dsimp only
    split
    · exact ih _ w
    · exact Nat.le_trans (Nat.le_succ _) (ih _ { w with drawn := w.drawn + 1 })

theorem sys_drawn (w : World) (c : Sys) : w.drawn ≤ (w.sys c).2.drawn := by
  unfold World.sys
  have h := ask_drawn (Kernel.perform c w.os) w
  split
  · exact Nat.le_refl _
  · rename_i e; rw [e] at h; exact h

theorem farStore_drawn {p : Program} {w w' : World} {a : Addr} {v : Value} {b : Bool} {l : List Addr} (h : w.farStore p a v b = .ok (w', l)) : w'.drawn = w.drawn := by
  unfold World.farStore at h
  split at h
  · split at h
    · rename_i r hr
      cases h
      unfold World.viewStore at hr
      simp only [bind, Except.bind, pure, Except.pure, throw, throwThe, MonadExceptOf.throw] at hr
      repeat' split at hr
      all_goals first
        | (cases hr; done)
        | (cases hr; rfl)
    · cases h
  · cases h

theorem run_drawn {α : Type} (p : Program) (s : Sem α) : ∀ w : World, w.drawn ≤ (resW (s.run p w)).drawn := by
  induction s with
  | pure a => intro w; exact Nat.le_refl _
  | load m a k ih =>
    intro w
    unfold Sem.run
    split
    · exact ih _ w
    · split
      · exact ih _ w
      · exact Nat.le_refl _
  | store m a v k ih =>
    intro w
    have main : w.drawn ≤ (resW (match w.cell? a with
        | some _ => if w.frozen? a then Result.halt (.unsupported (.unsafePointer "a write to bytes that a string shares")) w else k.run p (w.setCell a v)
        | none => match w.farStore p a v (m == .atomic) with
          | .ok (w, _) => k.run p w
          | .error h => .halt h w)).drawn := by
      split
      · split
        · exact Nat.le_refl _
        · exact ih (w.setCell a v)
      · split
        · rename_i e
          exact Nat.le_trans (Nat.le_of_eq (farStore_drawn e).symm) (ih _)
        · exact Nat.le_refl _
    cases v <;> first
      | exact main
      | exact Nat.le_refl _
  | new o k ih => intro w; exact ih _ { w with heap := w.heap.push o }
  | shape r k ih => intro w; exact ih _ w
  | freeze a n k ih =>
    intro w
    have : (w.freeze a n).drawn = w.drawn := by unfold World.freeze; split <;> rfl
    exact Nat.le_trans (Nat.le_of_eq this.symm) (ih _)
  | frozen a k ih => intro w; exact ih _ w
  | getObj r k ih =>
    intro w
    unfold Sem.run
    split
    · exact Nat.le_refl _
    · exact ih _ w
    · exact Nat.le_refl _
  | setObj r o k ih =>
    intro w
    unfold Sem.run
    split
    · exact Nat.le_refl _
    · exact ih { w with heap := w.heap.setIfInBounds r o }
    · exact Nat.le_refl _
  | choose q k ih =>
    intro w
    unfold Sem.run
    split
    · exact ih _ w
    · exact Nat.le_trans (Nat.le_succ _) (ih _ { w with drawn := w.drawn + 1 })
  | sys c k ih => intro w; exact Nat.le_trans (sys_drawn w c) (ih _ (w.sys c).2)
  | program k ih => intro w; exact ih p w
  | mark m k ih => intro w; exact ih w
  | halt h => intro w; exact Nat.le_refl _

section
variable {α : Type} {p : Program} {s : Sem α} {w w1 : World} {v : α} {h : Halt} {es es' : Array Event} {d : Nat}
theorem runT_le (hd : d ≤ w.drawn) : d ≤ (resW (s.runT p w es).1).drawn := by
  rw [Sem.runT_fst]; exact Nat.le_trans hd (run_drawn p s w)
theorem runT_ok (hd : d ≤ w.drawn) (e : s.runT p w es = (.ok v w1, es')) : d ≤ w1.drawn := by
  have := runT_le (s := s) (p := p) (es := es) hd; rw [e] at this; exact this
theorem runT_halt (hd : d ≤ w.drawn) (e : s.runT p w es = (.halt h w1, es')) : d ≤ w1.drawn := by
  have := runT_le (s := s) (p := p) (es := es) hd; rw [e] at this; exact this
theorem run_ok (hd : d ≤ w.drawn) (e : s.run p w = .ok v w1) : d ≤ w1.drawn := by
  have := Nat.le_trans hd (run_drawn p s w); rw [e] at this; exact this
theorem run_halt (hd : d ≤ w.drawn) (e : s.run p w = .halt h w1) : d ≤ w1.drawn := by
  have := Nat.le_trans hd (run_drawn p s w); rw [e] at this; exact this
end

/-- A step's world has drawn so much. -/
def gsOk (d : Nat) : GStep → Prop
  | .go _ w _ => d ≤ w.drawn
  | .comm _ _ _ _ w _ => d ≤ w.drawn
  | .spawn _ _ w _ => d ≤ w.drawn
  | .count _ w _ => d ≤ w.drawn
  | .timer _ _ w _ => d ≤ w.drawn
  | .alone _ _ w _ => d ≤ w.drawn
  | .newcoro _ _ _ w _ => d ≤ w.drawn
  | .coroswitch _ _ _ w _ => d ≤ w.drawn
  | .collect _ w _ => d ≤ w.drawn
  | .watch _ w _ => d ≤ w.drawn
  | .ended _ _ _ => True
theorem after_ok {d : Nat} {g : GStep} (es : Array Event) (h : gsOk d g) : gsOk d (g.after es) := by
  cases g <;> exact h

theorem doReturn_ok {d : Nat} {p : Program} {main : Bool} {fr : Frame} {callers : List Frame} {dying : Option Dying} {v : Value} {w : World} (hd : d ≤ w.drawn) : gsOk d (doReturn p main fr callers dying v w) := by
  unfold doReturn
  repeat' split
  all_goals first | exact hd | trivial
theorem dieOf_ok {d : Nat} {fr : Frame} {a : List ByteArray} {m : String} {b : Bool} {w : World} (hd : d ≤ w.drawn) : gsOk d (dieOf fr a m b w) := hd
theorem endThrow_ok {d : Nat} {fr : Frame} {m : String} {w : World} (hd : d ≤ w.drawn) : gsOk d (endThrow fr m w) := hd
theorem endFatal_ok {d : Nat} {p : Program} {fr : Frame} {callers : List Frame} {dying : Option Dying} {m : String} {w : World} (hd : d ≤ w.drawn) : gsOk d (endFatal p fr callers dying m w) := by
  unfold endFatal
  dsimp only
  split
  · rename_i e; exact dieOf_ok (run_ok hd e)
  · trivial
  · trivial
theorem endWith_ok {d : Nat} {fd : Nat} {t : ByteArray} {o : Outcome} {w : World} : gsOk d (endWith w fd t o) := by
  unfold endWith
  dsimp only
  repeat' split
  all_goals trivial
theorem endPrinting_ok {d : Nat} {p : Program} {fr : Frame} {v : Value} {w : World} (hd : d ≤ w.drawn) : gsOk d (endPrinting p fr v w) := by
  unfold endPrinting
  dsimp only
  repeat' split
  all_goals first | exact endThrow_ok hd | trivial
theorem writeOn_ok {d : Nat} {p : Program} {fr : Frame} {dy : Dying} {f : Fatal} {w : World} (hd : d ≤ w.drawn) : gsOk d (writeOn p fr dy f w) := by
  unfold writeOn
  dsimp only
  split
  · trivial
  · split
    · rename_i e; exact runT_ok hd e
    · rename_i e; exact runT_halt hd e
    · trivial
    · trivial
theorem early_ok {d : Nat} {p : Program} {fr : Frame} {callers : List Frame} {dying : Option Dying} {g : Nat} {w : World} (hd : d ≤ w.drawn) : gsOk d (early p fr callers dying g w) := by
  have hn : ∀ w : World, d ≤ w.drawn → gsOk d (match w.heap[g]? with
    | some (.pending c elem) => .go { frame := fr, callers, status := .running, dying } { w with heap := w.heap.setIfInBounds g (.cells c elem) }
    | _ => .ended (.stuck "early: the variable does not wait" (fr.pos p)) w) := fun w h => by
    split
    · exact h
    · trivial
  unfold early
  dsimp only
  repeat' split
  all_goals first
    | exact hd
    | trivial
    | (have h := run_ok (p := p) hd (by assumption); exact h)
theorem ite_ok {d : Nat} {c : Prop} [Decidable c] {x y : GStep} (a : gsOk d x) (b : gsOk d y) : gsOk d (if c then x else y) := by
  split
  · exact a
  · exact b
theorem callDeferred_ok {d : Nat} {p : Program} {fr : Frame} {callers : List Frame} {dying : Option Dying} {df : Deferred} {w : World} (hd : d ≤ w.drawn) : gsOk d (callDeferred p fr callers dying df w) := by
  unfold callDeferred
  refine ite_ok trivial ?_
  have h := runT_le (s := invoke df.target df.args) (p := p) (es := #[]) hd
  generalize (invoke df.target df.args).runT p w #[] = r at h ⊢
  obtain ⟨r, es⟩ := r
  refine after_ok _ ?_
  split
  all_goals first
    | exact h
    | trivial
    | exact endFatal_ok h
    | exact endThrow_ok h
    | (split <;> exact h)
theorem unwind_ok {d : Nat} {p : Program} {main : Bool} {fr : Frame} {callers : List Frame} {dying : Option Dying} {w : World} (hd : d ≤ w.drawn) : gsOk d (unwind p main fr callers dying w) := by
  unfold unwind
  split
  · rename_i block _ _ _
    have h := runT_le (s := Instr.takeDeferred block) (p := p) (es := #[]) hd
    generalize (Instr.takeDeferred block).runT p w #[] = r at h ⊢
    obtain ⟨r, es⟩ := r
    refine after_ok _ ?_
    dsimp only at h ⊢
    split
    · exact h
    · trivial
  · exact callDeferred_ok hd
  · split
    · trivial
    · repeat' split
      all_goals first
        | exact hd
        | trivial
        | exact endPrinting_ok hd
        | (have h := run_ok (p := p) hd (by assumption); exact h)
    · split
      · exact doReturn_ok hd
      · rename_i fn _
        have h := runT_le (s := results fn fr.tmps) (p := p) (es := #[]) hd
        generalize (results fn fr.tmps).runT p w #[] = r at h ⊢
        obtain ⟨r, es⟩ := r
        refine after_ok _ ?_
        dsimp only at h ⊢
        split
        · exact doReturn_ok h
        · trivial
        · trivial

theorem die_ok {d : Nat} {p : Program} {fr : Frame} {dy : Dying} {w : World} (hd : d ≤ w.drawn) : gsOk d (die p fr dy w) := by
  unfold die
  split
  · exact writeOn_ok hd
  · split
    · split
      · exact hd
      · exact endWith_ok
    · dsimp only
      split
      · exact hd
      · split
        · rename_i e; exact run_ok hd e
        · trivial
      · rename_i t recv name _
        have h := runT_le (s := invoke (.fn (.method name) #[]) #[.iface t recv]) (p := p) (es := #[]) hd
        generalize (invoke (.fn (.method name) #[]) #[.iface t recv]).runT p w #[] = r at h ⊢
        obtain ⟨r, es⟩ := r
        refine after_ok _ ?_
        dsimp only at h ⊢
        split
        all_goals first
          | exact h
          | trivial
          | exact endPrinting_ok h
      all_goals first
        | exact hd
        | trivial
theorem apply_ok {d : Nat} {p : Program} {fr : Frame} {callers : List Frame} {dying : Option Dying} {s : Sem Next} {w : World} {listen : Bool} (hd : d ≤ w.drawn) : gsOk d (stepG.apply p listen fr callers dying s w) := by
  unfold stepG.apply
  dsimp only
  have h : d ≤ (resW (if listen then s.runT p w #[] else (s.run p w, #[])).1).drawn := by
    split
    · exact runT_le hd
    · exact Nat.le_trans hd (run_drawn p s w)
  generalize (if listen then s.runT p w #[] else (s.run p w, #[])) = r at h ⊢
  obtain ⟨r, es⟩ := r
  refine after_ok _ ?_
  dsimp only at h ⊢
  split
  all_goals first
    | exact h
    | trivial
    | exact endFatal_ok h
    | exact endThrow_ok h
    | exact early_ok h
    | (split <;> first | exact h | exact endThrow_ok h | (split <;> exact h))

theorem oper_ok {d : Nat} {p : Program} {fr : Frame} {callers : List Frame} {dying : Option Dying} {w : World} {listen : Bool} (hd : d ≤ w.drawn) : gsOk d (stepG.oper p listen fr callers dying w) := by
  unfold stepG.oper
  split
  · trivial
  · split
    · exact apply_ok hd
    · exact apply_ok hd
theorem elim_ok {α : Type} {d : Nat} (o : Option α) {a : GStep} {f : α → GStep} (ha : gsOk d a) (hf : ∀ x, gsOk d (f x)) : gsOk d (o.elim a f) := by
  cases o with
  | none => exact ha
  | some x => exact hf x
theorem exec_ok {d : Nat} {p : Program} {main : Bool} {fr : Frame} {callers : List Frame} {dying : Option Dying} {w : World} {listen : Bool} (hd : d ≤ w.drawn) : gsOk d (stepG.exec p main listen fr callers dying w) := by
  have leave : ∀ (b : Bool) (jump : Option Code), gsOk d (match fr.roundOf with
      | none => if b = true then GStep.go { frame := { fr with mode := .returning }, callers, status := .running, dying } w else .ended (.stuck "exit, goto: no such block or label" (fr.pos p)) w
      | some l =>
        let (r, es) := (Instr.endRound l jump).runT p w #[]
        GStep.after (seen p fr.fn es) <| match r with
        | .ok v w => doReturn p main fr callers dying v w
        | .halt _ w => .ended (.stuck "range over a function: no such loop" (fr.pos p)) w) := fun b jump => by
    split
    · split
      · exact hd
      · trivial
    · rename_i l _
      have h := runT_le (s := Instr.endRound l jump) (p := p) (es := #[]) hd
      generalize (Instr.endRound l jump).runT p w #[] = r at h ⊢
      obtain ⟨r, es⟩ := r
      refine after_ok _ ?_
      dsimp only at h ⊢
      split
      · exact doReturn_ok h
      · trivial
  unfold stepG.exec
  dsimp only
  split
  all_goals first
    | exact hd
    | trivial
    | exact apply_ok hd
    | exact oper_ok hd
    | exact leave _ _
    | exact elim_ok _ (leave _ _) (fun _ => hd)
    | exact elim_ok _ trivial (fun _ => apply_ok hd)
    | (split <;> first | exact hd | trivial | exact oper_ok hd | (split <;> first | trivial | (have h := run_ok (p := p) hd (by assumption); exact h)))
    | (generalize hr : Sem.runT p _ w #[] = r
       have h : d ≤ (resW r.1).drawn := hr ▸ runT_le hd
       obtain ⟨r, es⟩ := r
       refine after_ok _ ?_
       dsimp only at h ⊢
       split <;> first | exact h | trivial | exact apply_ok h)
    | skip
  all_goals trace_state
theorem stepG_ok {d : Nat} {p : Program} {main : Bool} {g : Goroutine} {w : World} {listen : Bool} (hd : d ≤ w.drawn) : gsOk d (stepG p main g w listen) := by
  unfold stepG
  dsimp only
  split
  · exact die_ok hd
  · exact exec_ok hd
  · exact unwind_ok hd

/-- A machine's world has drawn so much. -/
def stOk (d : Nat) : Stepped → Prop
  | .next m => d ≤ m.world.drawn
  | .ended _ _ => True

theorem communicate_ok {d : Nat} {p : Program} {rest : Rest} {gs : Array Goroutine} {i : Nat} {g : Goroutine} {cases : Array CommCase} {blocking : Bool} {shape : CommShape} {w : World} (hd : d ≤ w.drawn) : stOk d (communicate p rest gs i g cases blocking shape w).1 := by
  unfold communicate
  dsimp only
  split
  · trivial
  · split
    · split
      · split
        · rename_i w' e
          unfold waitingAt at e
          repeat' split at e
          all_goals first
            | (cases e; done)
            | (cases e; exact hd)
        · trivial
      · exact hd
    · split
      · trivial
      · rename_i k c way w1 e
        have h := run_ok (p := p) hd e
        clear e
        repeat' split
        all_goals first
          | exact h
          | trivial
          | (have h2 := run_halt (p := p) h (by assumption); exact h2)
          | (have h2 := run_ok (p := p) h (by assumption); exact h2)
theorem serve_ok {d : Nat} {p : Program} {m : Machine} {k : Nat} (hd : d ≤ m.world.drawn) : stOk d (serve p m k) := by
  unfold serve
  dsimp only
  repeat' split
  all_goals first
    | exact hd
    | trivial
theorem look_ok {d : Nat} {p : Program} {gs : Array Goroutine} {rest : Rest} {w : World} (hd : d ≤ w.drawn) : stOk d (look p gs rest w) := by
  unfold look
  dsimp only
  split
  · split
    · trivial
    · split
      · trivial
      · split
        · rename_i e
          have h := run_ok (p := p) hd e
          exact h
        · trivial
        · trivial
  · trivial

theorem drain_ok {d : Nat} {w : World} {c : Nat} (hd : d ≤ w.drawn) : d ≤ (drain w c).2.drawn := by
  unfold drain
  split <;> exact hd
theorem retime_ok {d : Nat} {m : Machine} {k : Nat} {t : Timer} {a b : Nat} (hd : d ≤ m.world.drawn) : d ≤ (retime m k t a b).2.world.drawn := by
  unfold retime
  cases t.chan with
  | none => exact hd
  | some c => exact drain_ok hd
theorem named_ok {d : Nat} {m m' : Machine} {v : Value} {a : Addr} {f : Nat → Timer → Value × Machine} (hf : ∀ k t, d ≤ (f k t).2.world.drawn) (e : timerOp.named m a f = .ok (v, m')) : d ≤ m'.world.drawn := by
  unfold timerOp.named at e
  split at e
  · rename_i k _
    simp only [Except.ok.injEq] at e
    have := hf k (m.rest.timers.getD k default)
    rw [e] at this
    exact this
  · cases e
theorem timerOp_ok {d : Nat} {m m' : Machine} {op : TimerOp} {v : Value} (hd : d ≤ m.world.drawn) (e : timerOp m op = .ok (v, m')) : d ≤ m'.world.drawn := by
  cases op with
  | new t =>
    unfold timerOp at e
    dsimp only at e
    repeat' split at e
    all_goals first
      | (cases e; done)
      | (cases e; exact hd)
  | stop a => exact named_ok (fun k t => retime_ok hd) e
  | reset a b c =>
    unfold timerOp at e
    dsimp only at e
    split at e
    · rename_i m2 h2
      refine named_ok (fun k t => retime_ok ?_) e
      unfold timerOp.opened at h2
      repeat' split at h2
      all_goals first
        | (cases h2; done)
        | (cases h2; exact hd)
    · cases e
  | deadline c r w a =>
    unfold timerOp at e
    cases e
    exact hd
theorem runT_stOk {d : Nat} {p : Program} {m : Machine} {i : Nat} {listen : Bool} (hd : d ≤ m.world.drawn) : stOk d (Go.runT p m i listen).1 := by
  unfold Go.runT
  dsimp only
  generalize m.gs.swapAt! i { (default : Goroutine) with status := .finished } = gg
  obtain ⟨g, gs⟩ := gg
  dsimp only
  have h := stepG_ok (p := p) (main := i == 0) (g := g) (listen := listen) hd
  generalize stepG p (i == 0) g m.world listen = s at h ⊢
  cases s with
  | ended o w es => trivial
  | comm g cases blocking shape w es => exact communicate_ok h
  | go g w es => exact h
  | spawn g child w es => exact h
  | count g w es =>
    dsimp only
    split
    · trivial
    · exact h
  | alone g on w es => exact h
  | collect g w es => exact look_ok h
  | watch g w es => exact h
  | newcoro g c df w es => exact h
  | coroswitch g c exit w es =>
    dsimp only
    have h : d ≤ w.drawn := h
    split
    · exact h
    · split
      · rename_i e
        have := endThrow_ok (d := d) (fr := g.frame) (m := "coroswitch on exited coro") h
        rw [e] at this
        exact this
      · trivial
    · trivial
  | timer g op w es =>
    dsimp only
    have h : d ≤ w.drawn := h
    split
    · rename_i e
      have h3 := timerOp_ok (m := { world := w, gs, rest := m.rest }) h e
      exact h3
    · split
      · rename_i e
        have hh := fun m => endThrow_ok (d := d) (fr := g.frame) (m := m) h
        have := e ▸ hh _
        exact this
      · trivial
    · trivial
    · trivial

def mvOk (d : Nat) : Move → Prop
  | .goroutine m _ => d ≤ m.world.drawn
  | .machine s _ => stOk d s
theorem pick_ok {d : Nat} {p : Program} {m : Machine} {rs : List Nat} (hd : d ≤ m.world.drawn) : mvOk d (match (choose (.sched rs.length)).run p m.world with
      | .halt _ w => .machine (.ended (.stuck "sched" "") w)
      | .ok k world =>
        if rs.length ≤ 1 then .goroutine { m with world } (rs.getD k 0) else
        match (choose (.extern "sched.slice" 65536)).run p world with
        | .halt _ w => .machine (.ended (.stuck "sched.slice" "") w)
        | .ok n world => .goroutine { m with world, rest := { m.rest with slice := if n = 0 then none else some (rs.getD k 0, n) } } (rs.getD k 0)) := by
  split
  · trivial
  · rename_i e
    have h := run_ok (p := p) hd e
    clear e
    split
    · exact h
    · split
      · trivial
      · rename_i e
        exact run_ok (p := p) h e
theorem askOn_ok {d : Nat} {p : Program} {m : Machine} (hd : d ≤ m.world.drawn) : mvOk d (askOn p m) := by
  unfold askOn
  dsimp only
  split
  · trivial
  · rename_i k world e
    have h := run_ok (p := p) hd e
    clear e
    split
    · exact serve_ok (m := { m with world }) h
    · split
      · split
        · exact h
        · split
          · exact h
          · split <;> trivial
      · split
        · exact pick_ok (m := { m with world }) h
        · split
          · trivial
          · rename_i e
            have h2 := run_ok (p := p) h e
            exact pick_ok (m := { m with world := _ }) h2
          · rename_i e
            have h2 := run_ok (p := p) h e
            exact h2
          · rename_i e
            have h2 := run_ok (p := p) h e
            exact pick_ok (m := Machine.advanceTo { m with world := _ } _) h2
theorem ask_ok {d : Nat} {p : Program} {m : Machine} (hd : d ≤ m.world.drawn) : mvOk d (ask p m) := by
  unfold ask
  split
  · split
    · trivial
    · rename_i e
      have h := run_ok (p := p) hd e
      have hl := look_ok (p := p) (gs := m.gs) (rest := m.rest) h
      split
      · rename_i m2 e2
        rw [e2] at hl
        exact askOn_ok hl
      · rename_i e2
        cases hs : look p m.gs m.rest _ with
        | next m2 => exact absurd hs (e2 m2)
        | ended o w => rw [hs] at hl; exact hl
    · rename_i e
      exact askOn_ok (m := { m with world := _ }) (run_ok (p := p) hd e)
  · exact askOn_ok hd
theorem move_ok {d : Nat} {p : Program} {m : Machine} (hd : d ≤ m.world.drawn) : mvOk d (move p m) := by
  unfold move
  split
  · split
    · exact hd
    · trivial
  · split
    · split
      · exact hd
      · exact ask_ok hd
    · exact ask_ok hd
theorem step_ok {d : Nat} {p : Program} {m : Machine} (hd : d ≤ m.world.drawn) : stOk d (step p m) := by
  unfold step stepT
  have h := move_ok (p := p) hd
  cases hm : move p m with
  | goroutine m2 i => rw [hm] at h; exact runT_stOk h
  | machine s ops => rw [hm] at h; exact h
theorem steps_drawn {P : Program} {m m' : Machine} (h : Steps P m m') : m.world.drawn ≤ m'.world.drawn := by
  obtain ⟨n, hn⟩ := h
  induction n generalizing m with
  | zero => cases hn; exact Nat.le_refl _
  | succ n ih =>
    unfold runN at hn
    have hs := step_ok (d := m.world.drawn) (p := P) (Nat.le_refl m.world.drawn)
    split at hn
    · rename_i m1 e
      rw [e] at hs
      exact Nat.le_trans hs (ih hn)
    · rename_i e he
      exact absurd hn (he _)

/-- A call takes back nothing that was drawn. -/
theorem calls_drawn {P : Program} {f : FuncId} {args : Array Value} {w : World} {R : Ending → World → Prop} (h : Calls P f args w R) :
    Calls P f args w fun e w' => R e w' ∧ ((∃ v, e = .returned v) → w.drawn ≤ w'.drawn) := fun cs => by
  obtain ⟨e, w', fr, hR, hc, hf, hl⟩ := h cs
  refine ⟨e, w', fr, ⟨hR, ?_⟩, hc, hf, hl⟩
  rintro ⟨v, rfl⟩
  exact steps_drawn (m := lone (Frame.enter P f args .normal) cs w) (m' := lone fr cs w') hc
end Go.Proofs.SL
