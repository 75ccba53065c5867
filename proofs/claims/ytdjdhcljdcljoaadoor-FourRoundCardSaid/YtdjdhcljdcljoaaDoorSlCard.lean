/-
  SL: from a contract to what a row with listed variables asks for. No claim by itself.
-/
import Derived.Test.YtdjdhcljdcljoaaDoorSlArg
import Derived.LaidLaws
import Derived.Lay
import Derived.LaidSub
namespace Go.Proofs.SL
open Go Go.RowKit
set_option linter.unusedVariables false

def globs (G : List (Nat × Obj)) : Heap := G.map fun x => some (.glob x.1 x.2)
def gmap (G : List (Nat × Obj)) : Nat → Option Nat := fun i => (G[i]?).map (·.1)

theorem globs_get {G : List (Nat × Obj)} {i : Nat} {o : OB} (h : (globs G)[i]? = some (some o)) : ∃ x, G[i]? = some x ∧ o = .glob x.1 x.2 := by
  simp only [globs, List.getElem?_map, Option.map_eq_some_iff] at h
  obtain ⟨x, hx, he⟩ := h
  exact ⟨x, hx, by cases he; rfl⟩

theorem globs_inv {G : List (Nat × Obj)} {w : World} (hn : (G.map (·.1)).Nodup) (hw : ∀ x ∈ G, w.heap[x.1]? = some x.2) : Inv (gmap G) (globs G) w where
  ok := fun i o ho => by
    obtain ⟨x, hx, rfl⟩ := globs_get ho
    exact ⟨by simp [gmap, hx], hw x (List.mem_of_getElem? hx)⟩
  inj := fun i j b hi hj h1 h2 => by
    have e1 : (G.map (·.1))[i]? = some b := by simpa [gmap] using h1
    have e2 : (G.map (·.1))[j]? = some b := by simpa [gmap] using h2
    have hi' : i < (G.map (·.1)).length := by
      rcases Nat.lt_or_ge i (G.map (·.1)).length with h | h
      · exact h
      · rw [List.getElem?_eq_none h] at e1; cases e1
    exact (List.getElem?_inj hi' hn).mp (by rw [e1, e2])

theorem HasG.globs {G : List (Nat × Obj)} {x : Nat × Obj} (h : x ∈ G) : HasG (globs G) x.1 x.2 := by
  obtain ⟨i, hi, rfl⟩ := List.getElem_of_mem h
  exact ⟨i, by simp [SL.globs, hi]⟩

/-- A law that gives true where variables hold what they hold: its call returns true, and all that was there stays. -/
theorem law_walk_g {P : Program} {f : FuncId} {args : List PV} {G : List (Nat × Obj)} {vs : Array Value} {w : World} (hn : (G.map (·.1)).Nodup) (hw : ∀ x ∈ G, w.heap[x.1]? = some x.2)
    (h : SCall P f args (globs G) fun r' H' => r' = .bool true ∧ H' = globs G) (hs : vs.size = args.length)
    (hv : ∀ (i : Nat) (v : Value) (p : PV), vs[i]? = some v → args[i]? = some p → V (gmap G) (globs G) w v p) :
    Calls P f vs w fun e w' => e = .returned (.bool true) ∧ Below w.heap.size w w' := by
  have hI := globs_inv hn hw
  refine (h.2 (gmap G) w vs hI hs hv).mono ?_
  rintro e w' ⟨v, r, β', H', rfl, h1, h2, h3, rfl, rfl⟩
  rw [h3.bool_inv]
  refine ⟨rfl, h2.os, h2.tape, h2.output, h2.size, fun k hk => ?_⟩
  by_cases hg : ∃ i, Alive (globs G) i ∧ gmap G i = some k
  · obtain ⟨i, ⟨o, ho⟩, hb⟩ := hg
    obtain ⟨x, hx, rfl⟩ := globs_get ho
    have hxk : x.1 = k := by simpa [gmap, hx] using hb
    have e1 := hw x (List.mem_of_getElem? hx)
    have e2 := (h1.ok i _ ho).2
    rw [← hxk, e1, e2]
  · exact (h2.imm k ⟨hk, fun i hi hb => hg ⟨i, hi, hb⟩⟩).1

/-- What a table's variable is, by its type. -/
def tabOk (P : Program) (g : Nat) (k : IntKind) : Bool :=
  match (P.globals[g]?).map (·.type) with
  | some t => match P.underlying t with
    | some (.array n e) => (match P.underlying e with | some (.int k') => decide (k' = k) | _ => false) && decide (P.cellsOf e = 1) && decide (P.cellsOf t = n)
    | _ => false
  | none => false

/-- A listed table, wherever it stands on the list: its variable's block. -/
theorem tab_block {P : Program} {W : World} {laid : List (String × DataW Unit)} {name : String} {k : IntKind} {zs : List Int} {g : Nat}
    (hf : laid.filter (fun x => x.1 == name) = [(name, Lib.tabData k zs)])
    (hg : P.globalNamed name = some g) (hok : tabOk P g k = true)
    (h : laidMet P laid W) : ∃ t' fz, W.heap[g]? = some (.cells (zs.map fun z => Value.int k z).toArray t' fz) := by
  have h1 := laidMet.filter (fun x => x.1 == name) h
  rw [hf] at h1
  unfold tabOk at hok
  split at hok
  · rename_i t hty
    split at hok
    · rename_i n e ht
      simp only [Bool.and_eq_true, decide_eq_true_eq] at hok
      obtain ⟨⟨hk, hce⟩, hct⟩ := hok
      split at hk
      · rename_i k' he
        simp only [decide_eq_true_eq] at hk
        subst hk
        have h2 := Lib.tabIs_of_head hg hty ht he hce hct h1
        unfold Lib.TabIs World.var? at h2
        rw [hg] at h2
        simp only [Option.bind_some] at h2
        split at h2
        · rename_i cs t' fz hc
          cases h2
          exact ⟨t', fz, hc⟩
        · cases h2
      · cases hk
    · cases hok
  · cases hok
end Go.Proofs.SL
