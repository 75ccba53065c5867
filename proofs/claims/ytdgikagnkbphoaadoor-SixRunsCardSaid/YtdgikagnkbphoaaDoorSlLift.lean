/-
  SL: contracts of the kit's shelf as contracts of SL; package-level variables as objects that stay. No claim by itself.
-/
import Derived.Test.YtdgikagnkbphoaaDoorSlNum
import Derived.Test.YtdgikagnkbphoaaDoorSlRes
import Derived.Below
import Derived.Lib.Join
import Derived.Lib.LaidTab
namespace Go.Proofs.SL
open Go Go.RowKit
set_option linter.unusedSimpArgs false
set_option linter.unusedVariables false

section
variable {P : Program} {H : Heap}

/-- A package-level variable's block stands in the heap. -/
def HasG (H : Heap) (b : Nat) (o : Obj) : Prop := ∃ i : Nat, H[i]? = some (some (OB.glob b o))

theorem HasG.app {b : Nat} {o : Obj} (h : HasG H b o) {L : Heap} : HasG (H ++ L) b o := by
  obtain ⟨i, hi⟩ := h
  exact ⟨i, (List.getElem?_append_left (Alive.lt ⟨_, hi⟩)).trans hi⟩

theorem HasG.block {b : Nat} {o : Obj} (h : HasG H b o) {β : Nat → Option Nat} {w : World} (hI : Inv β H w) : w.heap[b]? = some o := by
  obtain ⟨i, hi⟩ := h
  exact (hI.ok i _ hi).2

/-- A contract of the shelf, lifted: its call leaves what was there. -/
theorem scall_lift {f : FuncId} {fn : Func} {c : Code} (hf : P.funcs[f]? = some fn) (hb : fn.body = some c) (hn : (fn.name == "runtime.NumGoroutine") = false) {args : List PV} {r : PV}
    (h : ∀ β w vs, Inv β H w → vs.size = args.length → (∀ (i : Nat) (v : Value) (p : PV), vs[i]? = some v → args[i]? = some p → V β H w v p) →
      Calls P f vs w fun e w' => ∃ v, e = .returned v ∧ Below w.heap.size w w' ∧ ∀ (β' : Nat → Option Nat) (w2 : World), V β' H w2 v r) : SCall P f args H fun r' H' => r' = r ∧ H' = H := by
  refine ⟨fun vs w => ?_, fun β w vs hI hs hv => (h β w vs hI hs hv).mono fun e w' ⟨v, he, hbl, hV⟩ => ?_⟩
  · have hn' : fn.name ≠ "runtime.NumGoroutine" := by simpa using hn
    simp [callFunc, hf, hb, hn']
  · have hsame : Same w w' := ⟨hbl.os, hbl.tape, hbl.output, hbl.size⟩
    exact ⟨v, r, β, H, he, quiet_inv hI hsame fun k hk => hbl.block k hk, quiet_ext hI hsame fun k hk => hbl.block k hk, hV β w', rfl, rfl⟩

theorem vals1 {β : Nat → Option Nat} {w : World} {vs : Array Value} {p : PV} (hs : vs.size = [p].length) (hv : ∀ (i : Nat) (v : Value) (q : PV), vs[i]? = some v → [p][i]? = some q → V β H w v q) :
    ∃ v, vs = #[v] ∧ V β H w v p := by
  have hs' : vs.size = 1 := hs
  refine ⟨vs[0]'(by omega), ?_, hv 0 _ _ (Array.getElem?_eq_getElem _) rfl⟩
  apply Array.ext
  · simpa using hs'
  · intro i h1 h2
    have : i = 0 := by simp at h2; omega
    subst this; rfl

theorem vals2 {β : Nat → Option Nat} {w : World} {vs : Array Value} {p q : PV} (hs : vs.size = [p, q].length) (hv : ∀ (i : Nat) (v : Value) (x : PV), vs[i]? = some v → [p, q][i]? = some x → V β H w v x) :
    ∃ v u, vs = #[v, u] ∧ V β H w v p ∧ V β H w u q := by
  have hs' : vs.size = 2 := hs
  refine ⟨vs[0]'(by omega), vs[1]'(by omega), ?_, hv 0 _ _ (Array.getElem?_eq_getElem _) rfl, hv 1 _ _ (Array.getElem?_eq_getElem _) rfl⟩
  apply Array.ext
  · simpa using hs'
  · intro i h1 h2
    have : i = 0 ∨ i = 1 := by simp at h2; omega
    rcases this with rfl | rfl <;> rfl

theorem Below.same {w : World} : Below w.heap.size w w := ⟨rfl, rfl, rfl, Nat.le_refl _, fun _ _ => rfl⟩

def joinL (sep : List UInt8) (l : List (List UInt8)) : List UInt8 := sep.intercalate l

theorem join_map {l : List (List UInt8)} : (l.map bs).map (fun x : ByteArray => x.data.toList) = l := by
  rw [List.map_map]
  have : ((fun x : ByteArray => x.data.toList) ∘ bs) = id := by funext x; simp [bs]
  rw [this, List.map_id]

/-- What the shelf says of Join, at any program. -/
def JoinSays (P : Program) (f : FuncId) : Prop :=
  (∀ (a : Option Addr) (c : Nat) (sep : ByteArray) (w : World), Calls P f #[.slice a 0 c, .string sep] w fun e w' => e = .returned (.string ⟨#[]⟩) ∧ w' = w) ∧
  ∀ (bk o c : Nat) (xs : List ByteArray) (sep : ByteArray) (w : World), (∀ (j : Nat) x, xs[j]? = some x → w.cell? ⟨bk, o + j, none⟩ = some (.string x)) → bk < w.heap.size → xs.length ≤ 140737488355328 → xs.length ≤ c →
    (Lib.join (xs.map (·.data.toList)) sep.data.toList).length ≤ 140737488355328 →
    Calls P f #[.slice (some ⟨bk, o, none⟩) xs.length c, .string sep] w fun e w' => e = .returned (.string ⟨(Lib.join (xs.map (·.data.toList)) sep.data.toList).toArray⟩) ∧ Below w.heap.size w w'

theorem join_args {β : Nat → Option Nat} {w : World} {x : Value} {p : PV} {l : List (List UInt8)} (hI : Inv β H w) (hx : V β H w x p)
    (hp : (p = .nils ∧ l = []) ∨ p = .sl 1 (strs l) ∨ ∃ i ver tip, p = .buf i ver 0 l.length 1 tip ∧ H[i]? = some (some (.cells ver (strs l)))) :
    ∃ a c, x = .slice a l.length c ∧ l.length ≤ c ∧ (l ≠ [] → ∃ bk o, a = some ⟨bk, o, none⟩ ∧ bk < w.heap.size ∧ ∀ (j : Nat) s, l[j]? = some s → w.cell? ⟨bk, o + j, none⟩ = some (.string (bs s))) := by
  rcases hp with ⟨rfl, rfl⟩ | rfl | ⟨i, ver, tip, rfl, ho⟩
  · rw [hx.nils_inv]
    exact ⟨none, 0, rfl, Nat.le_refl _, fun h => absurd rfl h⟩
  · obtain ⟨a, cap, rfl, hc, hsl⟩ := hx.sl_inv
    refine ⟨a, cap, by rw [strs_len], by rw [strs_len] at hc; exact hc, fun hne => ?_⟩
    obtain ⟨b, off, rfl, hb, hm, f, h1, h2, h3⟩ := hsl (by
      intro h
      apply hne
      cases l with
      | nil => rfl
      | cons s l => simp [strs] at h)
    refine ⟨b, off, rfl, hb.1, fun j s hj => ?_⟩
    have hjl : j < l.length := by
      rcases Nat.lt_or_ge j l.length with h | h
      · exact h
      · rw [List.getElem?_eq_none h] at hj; cases hj
    have hv := h2 j (.str (bs s)) (by rw [flat_strs]; simp [strs, hj])
    rw [h1 j (by rw [flat_strs, strs_len]; exact hjl), hv.str_inv]
  · obtain ⟨a, cap, rfl, hc, ha, hi, hl⟩ := hx.buf_inv
    refine ⟨a, cap, rfl, hc, fun hne => ?_⟩
    have hz : l.length ≠ 0 := by
      intro h
      exact hne (List.eq_nil_of_length_eq_zero h)
    obtain ⟨b, rfl⟩ := ha hz
    obtain ⟨hn, hs⟩ := hl ⟨_, ho, rfl⟩
    cases hb : β i with
    | none => have := (hn hb).1; omega
    | some b' =>
      have hb' : b = b' := by
        rcases hs b' hb with ⟨h, _⟩ | ⟨h, _⟩
        · exact absurd h hz
        · cases h; rfl
      subst hb'
      obtain ⟨_, hbb⟩ := hI.cells ho
      obtain ⟨c, t, fz, f, hh, hsz, hf, hV, _⟩ := hbb b hb
      refine ⟨b, 0, rfl, hI.block ⟨_, ho⟩ hb, fun j s hj => ?_⟩
      have hjl : j < (strs l).length := by
        rw [strs_len]
        rcases Nat.lt_or_ge j l.length with h | h
        · exact h
        · rw [List.getElem?_eq_none h] at hj; cases hj
      have hv := hV j (.str (bs s)) (by simp [strs, hj])
      rw [Nat.zero_add, cell_of hh, hf j hjl, hv.str_inv]

/-- strings.Join, of a slice that is read or that was grown. -/
theorem join_call {f : FuncId} {fn : Func} {c : Code} (hf : P.funcs[f]? = some fn) (hb : fn.body = some c) (hn : (fn.name == "runtime.NumGoroutine") = false) (hJ : JoinSays P f) (l : List (List UInt8)) (sep : List UInt8) (p : PV)
    (hp : (p = .nils ∧ l = []) ∨ p = .sl 1 (strs l) ∨ ∃ i ver tip, p = .buf i ver 0 l.length 1 tip ∧ H[i]? = some (some (.cells ver (strs l)))) (hl : l.length ≤ 1000000000) (hlen : (joinL sep l).length ≤ 140737488355328) :
    SCall P f [p, .str (bs sep)] H fun r' H' => r' = .str (bs (joinL sep l)) ∧ H' = H := by
  refine scall_lift hf hb hn fun β w vs hI hs hv => ?_
  obtain ⟨x, y, rfl, hx, hy⟩ := vals2 hs hv
  rw [hy.str_inv]
  obtain ⟨a, cap, rfl, hc, hsl⟩ := join_args hI hx hp
  by_cases hne : l = []
  · subst hne
    refine (hJ.1 a cap (bs sep) w).mono fun e w' ⟨he, hw⟩ => ⟨_, he, hw ▸ Below.same, fun β' w2 => ?_⟩
    exact .str _
  · obtain ⟨bk, o, rfl, h1, h2⟩ := hsl hne
    have h3 := hJ.2 bk o cap (l.map bs) (bs sep) w (fun j s hj => by
      rw [List.getElem?_map] at hj
      cases hlj : l[j]? with
      | none => rw [hlj] at hj; cases hj
      | some z => rw [hlj] at hj; cases hj; exact h2 j z hlj) h1 (by rw [List.length_map]; omega) (by rw [List.length_map]; exact hc) (by rw [join_map]; simpa [bs, Lib.join, joinL] using hlen)
    rw [List.length_map] at h3
    refine h3.mono fun e w' ⟨he, hw⟩ => ⟨_, he, hw, fun β' w2 => ?_⟩
    rw [join_map]
    have : (bs sep).data.toList = sep := by simp [bs]
    rw [this]
    exact .str _
end

end Go.Proofs.SL
