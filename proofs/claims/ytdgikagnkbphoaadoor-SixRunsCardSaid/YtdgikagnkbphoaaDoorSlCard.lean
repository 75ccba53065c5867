/-
  SL: from a contract to what a row with listed variables asks for. No claim by itself.
-/
import Derived.Test.YtdgikagnkbphoaaDoorSlArg
import Derived.LaidLaws
import Derived.Lay
import Derived.LaidSub
import Derived.Shelf.Vars
import Derived.SizedLaws
namespace Go.Proofs.SL
open Go Go.RowKit
set_option linter.unusedVariables false

def globs (G : List (Nat × Obj)) : Heap := G.map fun x => some (.glob x.1 x.2)
def gmap (G : List (Nat × Obj)) : Nat → Option Nat := fun i => (G[i]?).map (·.1)

theorem globs_get {G : List (Nat × Obj)} {i : Nat} {o : OB} (h : (globs G)[i]? = some (some o)) : ∃ x, G[i]? = some x ∧ o = .glob x.1 x.2 := by
  simp only [globs, List.getElem?_map, Option.map_eq_some_iff] at h
  obtain ⟨x, hx, he⟩ := h
  exact ⟨x, hx, by cases he; rfl⟩

theorem globs_inv {G : List (Nat × Obj)} {w : World} (hn : (G.map (·.1)).Nodup) (hw : ∀ x ∈ G, w.heap[x.1]? = some x.2) : Inv (gmap G) (globs G) w where
  ok := fun i o ho => by
    obtain ⟨x, hx, rfl⟩ := globs_get ho
    exact ⟨by simp [gmap, hx], hw x (List.mem_of_getElem? hx)⟩
  inj := fun i j b hi hj h1 h2 => by
    have e1 : (G.map (·.1))[i]? = some b := by simpa [gmap] using h1
    have e2 : (G.map (·.1))[j]? = some b := by simpa [gmap] using h2
    have hi' : i < (G.map (·.1)).length := by
      rcases Nat.lt_or_ge i (G.map (·.1)).length with h | h
      · exact h
      · rw [List.getElem?_eq_none h] at e1; cases e1
    exact (List.getElem?_inj hi' hn).mp (by rw [e1, e2])

theorem HasG.globs {G : List (Nat × Obj)} {x : Nat × Obj} (h : x ∈ G) : HasG (globs G) x.1 x.2 := by
  obtain ⟨i, hi, rfl⟩ := List.getElem_of_mem h
  exact ⟨i, by simp [SL.globs, hi]⟩

/-- A law that gives true where variables hold what they hold: its call returns true, and all that was there stays. -/
theorem law_walk_g {P : Program} {f : FuncId} {args : List PV} {G : List (Nat × Obj)} {vs : Array Value} {w : World} (hn : (G.map (·.1)).Nodup) (hw : ∀ x ∈ G, w.heap[x.1]? = some x.2)
    (h : SCall P f args (globs G) fun r' H' => r' = .bool true ∧ H' = globs G) (hs : vs.size = args.length)
    (hv : ∀ (i : Nat) (v : Value) (p : PV), vs[i]? = some v → args[i]? = some p → V (gmap G) (globs G) w v p) :
    Calls P f vs w fun e w' => e = .returned (.bool true) ∧ Below w.heap.size w w' := by
  have hI := globs_inv hn hw
  refine (h.2 (gmap G) w vs hI hs hv).mono ?_
  rintro e w' ⟨v, r, β', H', rfl, h1, h2, h3, rfl, rfl⟩
  rw [h3.bool_inv]
  refine ⟨rfl, h2.os, h2.tape, h2.output, h2.size, fun k hk => ?_⟩
  by_cases hg : ∃ i, Alive (globs G) i ∧ gmap G i = some k
  · obtain ⟨i, ⟨o, ho⟩, hb⟩ := hg
    obtain ⟨x, hx, rfl⟩ := globs_get ho
    have hxk : x.1 = k := by simpa [gmap, hx] using hb
    have e1 := hw x (List.mem_of_getElem? hx)
    have e2 := (h1.ok i _ ho).2
    rw [← hxk, e1, e2]
  · exact (h2.imm k ⟨hk, fun i hi hb => hg ⟨i, hi, hb⟩⟩).1

/-- What a table's variable is, by its type. -/
def tabOk (P : Program) (g : Nat) (k : IntKind) : Bool :=
  match (P.globals[g]?).map (·.type) with
  | some t => match P.underlying t with
    | some (.array n e) => (match P.underlying e with | some (.int k') => decide (k' = k) | _ => false) && decide (P.cellsOf e = 1) && decide (P.cellsOf t = n)
    | _ => false
  | none => false

/-- A listed table, wherever it stands on the list: its variable's block. -/
theorem tab_block {P : Program} {W : World} {laid : List (String × DataW Unit)} {name : String} {k : IntKind} {zs : List Int} {g : Nat}
    (hf : laid.filter (fun x => x.1 == name) = [(name, Lib.tabData k zs)])
    (hg : P.globalNamed name = some g) (hok : tabOk P g k = true)
    (h : laidMet P laid W) : ∃ t' fz, W.heap[g]? = some (.cells (zs.map fun z => Value.int k z).toArray t' fz) := by
  have h1 := laidMet.filter (fun x => x.1 == name) h
  rw [hf] at h1
  unfold tabOk at hok
  split at hok
  · rename_i t hty
    split at hok
    · rename_i n e ht
      simp only [Bool.and_eq_true, decide_eq_true_eq] at hok
      obtain ⟨⟨hk, hce⟩, hct⟩ := hok
      split at hk
      · rename_i k' he
        simp only [decide_eq_true_eq] at hk
        subst hk
        have h2 := Lib.tabIs_of_head hg hty ht he hce hct h1
        unfold Lib.TabIs World.var? at h2
        rw [hg] at h2
        simp only [Option.bind_some] at h2
        split at h2
        · rename_i cs t' fz hc
          cases h2
          exact ⟨t', fz, hc⟩
        · cases h2
      · cases hk
    · cases hok
  · cases hok

/-- A number's variable holds some number of its kind. -/
theorem shaped_int {P : Program} {w : World} {g : Nat} {t : TypeId} {zero : Array Value} {k : IntKind} (h : w.ShapedOpen P) (hg : g < P.globals.size)
    (h0 : ((begin P (fun _ _ => 0) default).world.heap[g]?).bind Obj.row? = some (zero, t)) (hz : zero.size = 1)
    (hb : P.buildable t = true) (hc : P.cellTypes P.depth t = some [t]) (hu : P.underlying t = some (.int k)) : ∃ m t' fz, w.heap[g]? = some (.cells #[.int k m] t' fz) := by
  obtain ⟨m, hm⟩ := cell_of_shapedOpen_int h hg h0 hz hb hc hu
  obtain ⟨cs, hh, hs, _⟩ := h.1 g zero t hg h0
  have h1 : cs.size = 1 := by omega
  have h2 : cs[0]? = some (.int k m) := by
    simp only [World.cell?, hh] at hm
    simpa using hm
  have h3 : cs = #[.int k m] := by
    apply Array.ext
    · simpa using h1
    · intro i hi hi2
      have : i = 0 := by omega
      subst this
      rw [Array.getElem?_eq_getElem (by omega)] at h2
      simpa using h2
  subst h3
  exact ⟨m, _, _, hh⟩

/-- The wrap for a row with listed variables, the world's shape kept. -/
theorem returns_shaped {H : Type} {enc : TypeId × Value → H} {a : Assume} {C : Checked} {os : Os} {f : FuncId} {fn : Func} {s : ChangeSpec} {conds : List PathCond} {apart fresh handsOn again : Bool} {X : World → Array Value → Prop}
    (hX : ∀ (w w' : World) (args : Array Value), w.heap = w'.heap → X w args → X w' args)
    (own : ownKnob C.prog.godebug = none) (started : os.Started) (noInit : C.prog.inits.idxOf? f = none) (hfn : C.prog.funcs[f]? = some fn)
    (witness : ∃ (w : World) (tape : Tape) (i : Input), w.os = os ∧ (w.forCall tape i).Shaped C.prog ∧ i.vars = [] ∧ Input.okWide C.prog (w.forCall tape i) .any w.heap.size f i ∧
      ((s.pre enc C.prog fn conds apart (w.forCall tape i).memory i.args ∧ X (w.forCall tape i).memory i.args) ∧ sizedMet enc C.prog fn (OpenSpec.ofChange s) apart (w.forCall tape i).memory i.args) ∧ a.holds C.prog (lone (Frame.enter C.prog f i.args .normal) [] (w.forCall tape i)))
    (contract : ∀ (W : World) (base : Nat) (args : Array Value) (ds gs : List (DataW H)) (before : List MemPlace),
      (∀ (j : Nat) t v, fn.params[j]? = some t → args[j]? = some v → Value.okWide C.prog W .any base t v) →
      DataW.Whole enc C.prog fn.params.toList s.vars apart W args.toList ds gs before →
      X W args → W.ShapedOpen C.prog →
      Calls C.prog f args W fun e W' => ∃ v, e = .returned v ∧ s.post enc C.prog fn apart fresh handsOn again W args v W') :
    ReturnsInHanded a C os f .any (fun w args => (s.pre enc C.prog fn conds apart w args ∧ X w args) ∧ sizedMet enc C.prog fn (OpenSpec.ofChange s) apart w args) (s.post enc C.prog fn apart fresh handsOn again) := by
  refine returnsInHanded_of_calls own started noInit witness ?_
  intro w tape i _ hsh _ hok hpre hholds
  obtain ⟨_, _, _, fn', hfn', _, _, _, _, hval⟩ := hok
  have e : fn' = fn := Option.some.inj (hfn'.symm.trans hfn)
  subst e
  obtain ⟨⟨⟨ds, gs, before, hw, hc⟩, hx⟩, hz⟩ := hpre
  have hw' := DataW.Whole.of_heap (w' := w.forCall tape i) (by rfl) hw
  refine (contract (w.forCall tape i) w.heap.size i.args ds gs before hval hw' (hX _ _ _ (by rfl) hx) hsh).mono fun e W' ⟨v, he, hp⟩ => ?_
  subst he
  exact ChangeSpec.post_blind hp
end Go.Proofs.SL
