/-
  SL: a comparer that SL has walked, as the kit's sort asks it. No claim by itself.
-/
import Derived.Test.YtcmbnoloimdlaaaSlM2
import Derived.Test.YtcmbnoloimdlaaaSlHp
import Derived.Test.YtcmbnoloimdlaaaSlDrawn
import Derived.Shelf.SlSortCmp.WholeK
namespace Go.Proofs.SL
open Go Go.Proofs Go.Shelf Go.RowKit Go.Lib Go.Sort

theorem cmp_lays {P : Program} {f : FuncId} {α : Type} [Inhabited α] {enc : α → List Value} {pv : α → List PV} {cf : α → α → Int}
    (hV : ∀ (x : α) (β : Nat → Option Nat) (H : Heap) (w : World), V β H w (.agg (enc x).toArray) (.agg (pv x)))
    (hc : ∀ x y, SCall P f [.agg (pv x), .agg (pv y)] [] fun r _ => r = .int .i64 (cf x y)) (k blk off size : Nat) (w : World) : CmpLays P f #[] enc k cf blk off size w := by
  intro m os dk hs x y
  generalize sortWorldK enc k w blk off m dk os = W
  have h := (hc x y).2 (fun _ => none) W #[.agg (enc x).toArray, .agg (enc y).toArray] ⟨fun i o ho => (by simp at ho), fun i j b hi => (by obtain ⟨o, ho⟩ := hi; simp at ho)⟩ rfl (fun i v p hv hp => by
    rcases i with _ | _ | i
    · cases hv; cases hp; exact hV x _ _ _
    · cases hv; cases hp; exact hV y _ _ _
    · simp at hp)
  rw [Array.append_empty]
  refine (calls_drawn h).mono ?_
  rintro e w' ⟨⟨v, r, β', H', rfl, hi, he, hv, rfl⟩, hd⟩
  have hd := hd ⟨v, rfl⟩
  obtain rfl := hv.int_inv
  refine ⟨rfl, w'.drawn - W.drawn, w'.heap.extract W.heap.size w'.heap.size, ?_⟩
  have hheap : w'.heap = W.heap ++ w'.heap.extract W.heap.size w'.heap.size := by
    apply Array.ext_getElem?
    intro b
    rw [Array.getElem?_append]
    by_cases hb : b < W.heap.size
    · rw [if_pos hb]
      exact (he.imm b ⟨hb, fun i ⟨o, ho, _⟩ => (by simp at ho)⟩).1
    · rw [if_neg hb, Array.getElem?_extract]
      have := he.size
      split
      · congr 1; omega
      · exact Array.getElem?_eq_none (by omega)
  have e1 := he.os
  have e2 := he.tape
  have e3 := he.output
  obtain ⟨h1, t1, d1, o1, u1⟩ := w'
  obtain ⟨h0, t0, d0, o0, u0⟩ := W
  simp only at hheap e1 e2 e3 hd
  subst e1 e2 e3
  unfold Sort.grow World.drewN
  simp only [World.mk.injEq, true_and, and_true]
  have hd : d0 ≤ d1 := hd
  exact ⟨hheap, show d1 = d0 + (d1 - d0) by omega⟩

theorem flat_rows {α : Type} {pv : α → List PV} {k : Nat} (hk0 : 0 < k) (hk : ∀ x, (pv x).length = k) : ∀ (d : List α) (j : Nat), (flat (d.map fun x => .agg (pv x)))[j]? = (d[j / k]?).bind fun x => (pv x)[j % k]?
  | [], j => by simp [flat]
  | x :: d, j => by
    rw [List.map_cons, flat_cons, List.getElem?_append]
    have hl : (PV.agg (pv x)).cells.length = k := hk x
    rw [hl]
    by_cases h : j < k
    · rw [if_pos h, Nat.div_eq_of_lt h, Nat.mod_eq_of_lt h]; rfl
    · rw [if_neg h, flat_rows hk0 hk d]
      have e1 : j / k = (j - k) / k + 1 := by
        rw [← Nat.sub_add_cancel (Nat.le_of_not_lt h), Nat.add_div_right _ hk0, Nat.sub_add_cancel (Nat.le_of_not_lt h)]
      have e2 : j % k = (j - k) % k := Nat.mod_eq_sub_mod (by omega)
      rw [e1, e2, List.getElem?_cons_succ]

/-- slices.SortFunc at structs whose cells are plain, out of the kit's contract. -/
theorem sort_call {P : Program} {ρ : Go.Shelf.Ren} (L : SlLaysF0.n6 P ρ) {α : Type} [Inhabited α] {k : Nat} (hk0 : 0 < k) (aE : ∀ w, (isAgg (ρ.t 24)).run P w = .ok true w) (zE : ∀ w, (Go.sizeOf (ρ.t 24)).run P w = .ok k w)
    {enc : α → List Value} {pv : α → List PV} {cf : α → α → Int} (hke : ∀ x, (enc x).length = k) (hkp : ∀ x, (pv x).length = k) (h1 : ∀ x, ∀ v ∈ enc x, v.oneCell' = true)
    (hV : ∀ (x : α) (i : Nat) (v : Value) (p : PV), (enc x)[i]? = some v → (pv x)[i]? = some p → ∀ (β : Nat → Option Nat) (H : Heap) (w : World), V β H w v p)
    (hB : ∀ (x : α) (i : Nat) (v : Value) (p : PV) (β : Nat → Option Nat) (H : Heap) (w : World), V β H w v p → (pv x)[i]? = some p → (enc x)[i]? = some v)
    (hO : SWO (ltOf cf)) {f : FuncId} (hc : ∀ x y, SCall P f [.agg (pv x), .agg (pv y)] [] fun r _ => r = .int .i64 (cf x y))
    {H : Heap} {i ver : Nat} {tip : Bool} {d : List α} (hd0 : 0 < d.length) (hdl : d.length < 1000000000) (ho : H[i]? = some (some (.cells ver (flat (d.map fun x => .agg (pv x)))))) :
    SCall P (ρ.f 6) [.buf i ver 0 d.length k tip, .func (.func f) [] []] H fun r H' => r = .tup [] ∧ ∃ d' : List α, d'.Perm d ∧ (∀ a b, a < b → b < d'.length → ltOf cf (d'.getD b default) (d'.getD a default) = false) ∧ H' = H.set i (some (.cells ver (flat (d'.map fun x => .agg (pv x))))) := by
  have hfl : ∀ d : List α, (flat (d.map fun x => PV.agg (pv x))).length = d.length * k := fun d =>
    (flat_length (m := k) fun x hx => by obtain ⟨y, _, rfl⟩ := List.mem_map.mp hx; exact hkp y).trans (by rw [List.length_map])
  refine ⟨L.f6.enters rfl, fun β w vs hI hs hvs => ?_⟩
  obtain ⟨a, fv, rfl⟩ : ∃ a fv, vs = #[a, fv] := by
    obtain ⟨l⟩ := vs
    match l, hs with
    | [a, fv], _ => exact ⟨a, fv, rfl⟩
  obtain ⟨av, cap, rfl, hlc, hav, hir, hl⟩ := (hvs 0 a _ rfl rfl).buf_inv
  obtain ⟨b, rfl⟩ := hav (by omega)
  obtain rfl : fv = .func (.func f) #[] #[] := by
    have := hvs 1 fv _ rfl rfl
    cases this with
    | func fn vs ws ps qs hs hs' h h' =>
      obtain rfl : vs = #[] := by simpa using hs
      obtain rfl : ws = #[] := by simpa using hs'
      rfl
  obtain ⟨hn, hsb⟩ := hl ⟨_, ho, rfl⟩
  have hok := hI.ok i _ ho
  have hpos : 0 < d.length * k := Nat.mul_pos hd0 hk0
  cases hb : β i with
  | none =>
    have := hok.1 hb
    have := hfl d
    simp_all
  | some b' =>
    obtain rfl : b = b' := by
      rcases hsb b' hb with ⟨h, _⟩ | ⟨h, _⟩
      · omega
      · cases h; rfl
    obtain ⟨c, t, fz, g, hh, hsz, hg, hgV, hgo, hfz⟩ := hok.2 b hb
    have hcell : ∀ j, j < d.length * k → c[j]? = some (flatK enc k d.toArray)[j]! := fun j hj => by
      have hjk : j / k < d.length := Nat.div_lt_of_lt_mul (by rw [Nat.mul_comm]; exact hj)
      have hm : j % k < k := Nat.mod_lt _ hk0
      rw [hg j (by rw [hfl]; exact hj), get_flatK enc k d.toArray j (by simpa using hj)]
      have hp : (flat (d.map fun x => PV.agg (pv x)))[j]? = some ((pv d[j / k])[j % k]'(by rw [hkp]; exact hm)) := by
        rw [flat_rows hk0 hkp, List.getElem?_eq_getElem hjk, Option.bind_some]
        exact List.getElem?_eq_getElem _
      have hv := hgV j _ hp
      have he := hB d[j / k] (j % k) _ _ β H w hv (List.getElem?_eq_getElem (by rw [hkp]; exact hm))
      have e1 : d.toArray[j / k]! = d[j / k] := by simp [hjk]
      rw [e1]
      have e2 : (enc d[j / k])[j % k]! = (enc d[j / k])[j % k]'(by rw [hke]; exact hm) := getElem!_pos _ _ _
      rw [e2]
      rw [List.getElem?_eq_getElem (by rw [hke]; exact hm)] at he
      exact he.symm
    have hbs : b < w.heap.size := by
      rcases Nat.lt_or_ge b w.heap.size with h | h
      · exact h
      · rw [Array.getElem?_eq_none h] at hh; cases hh
    have hH : HoldsK enc k w b 0 d.toArray := fun j hj => by
      have hj' : j < d.length * k := by simpa using hj
      constructor
      · rw [Nat.zero_add]
        simp only [World.cell?, hh, Option.isSome_none, Bool.false_eq_true, if_false]
        exact hcell j hj'
      · have := hfz.1 j (by rw [hfl] at hsz; omega)
        obtain ⟨lo, hi⟩ := fz
        rw [Nat.zero_add]
        simp only [World.frozen?, hh]
        by_cases h1 : lo ≤ j
        · have : ¬ j < hi := fun h2 => this ⟨h1, h2⟩
          simp [this]
        · simp [h1]
    have key := AnyQ.slices_SortFunc L k aE zE enc hke h1 cf hO f #[] b 0 cap d.toArray w (hc default default).1
      (cmp_lays (fun x β H w => .agg _ _ (by simp [hke, hkp]) fun i v p hv hp => hV x i v p (by simpa using hv) hp β H w) hc k b 0 _ w) hH hbs (by simp; omega)
    refine Calls.mono key ?_
    rintro e w' ⟨rfl, d', n, os, hperm, hsort, rfl⟩
    have hds : d'.size = d.length := by simpa using hperm.1
    have hA : (sortWorldK enc k w b 0 n d' os).heap[b]? = some (.cells (putCells id 0 (flatK enc k d') c) t fz) := by
      unfold sortWorldK Sort.grow putRowK putRow mapBlock Sort.ahead
      simp only
      rw [Array.getElem?_append_left (by simpa using hbs), Array.getElem?_modify, if_pos rfl, hh]
      rfl
    have hO' : ∀ q, q < w.heap.size → q ≠ b → (sortWorldK enc k w b 0 n d' os).heap[q]? = w.heap[q]? := fun q hq hqb => by
      unfold sortWorldK Sort.grow putRowK putRow mapBlock Sort.ahead
      simp only
      rw [Array.getElem?_append_left (by simpa using hq), Array.getElem?_modify, if_neg (fun h => hqb h.symm)]
    have hsame : Same w (sortWorldK enc k w b 0 n d' os) := ⟨rfl, rfl, rfl, by
      unfold sortWorldK Sort.grow putRowK putRow mapBlock Sort.ahead
      simp only [Array.size_append, Array.size_modify]
      omega⟩
    have hps : (putCells id 0 (flatK enc k d') c).size = c.size := by unfold putCells; simp
    have he := set_ext hI hsame ho hb hO' (by rw [bsize_eq hA, bsize_eq hh, hps]) (o' := .cells ver (flat (d'.toList.map fun x => .agg (pv x)))) (.inr ⟨rfl, by show (flat _).length = (flat _).length; rw [hfl, hfl, Array.length_toList, hds]⟩)
    have hget : ∀ j, j < d.length * k → (putCells id 0 (flatK enc k d') c)[j]? = some ((enc d'[j / k]!)[j % k]!) := fun j hj => by
      have hjc : j < c.size := by rw [hfl] at hsz; omega
      unfold putCells
      rw [Array.getElem?_mapIdx, Array.getElem?_eq_getElem hjc]
      simp only [Option.map_some, Nat.zero_le, true_and, Nat.zero_add, size_flatK, hds, hj, if_true, Nat.sub_zero, id]
      rw [get_flatK enc k d' j (by rw [hds]; exact hj)]
    have hi := set_inv hI ho hb hO' he (by
      refine ⟨fun hn => (by rw [hb] at hn; cases hn), fun b' hb' => ?_⟩
      rw [hb] at hb'
      cases hb'
      refine ⟨_, t, fz, fun j => (enc d'[j / k]!)[j % k]!, hA, ?_, fun j hj => ?_, fun j p hp => ?_, fun j hj => ?_, ?_⟩
      · rw [hfl, Array.length_toList, hds, hps]; rw [hfl] at hsz; exact hsz
      · rw [hfl, Array.length_toList, hds] at hj; exact hget j hj
      · have hj : j < d.length * k := by have := lt_of_get hp; rw [hfl, Array.length_toList, hds] at this; exact this
        have hjk : j / k < d'.toList.length := by rw [Array.length_toList, hds]; exact Nat.div_lt_of_lt_mul (by rw [Nat.mul_comm]; exact hj)
        have hm : j % k < k := Nat.mod_lt _ hk0
        rw [flat_rows hk0 hkp, List.getElem?_eq_getElem hjk, Option.bind_some] at hp
        have e1 : d'[j / k]! = d'.toList[j / k] := by simp at hjk ⊢; simp [hjk]
        show V β _ _ ((enc d'[j / k]!)[j % k]!) p
        rw [e1]
        exact hV _ (j % k) _ p (by rw [getElem!_pos _ _ (by rw [hke]; exact hm)]; exact List.getElem?_eq_getElem _) hp _ _ _
      · have hm : j % k < k := Nat.mod_lt _ hk0
        show ((enc d'[j / k]!)[j % k]!).oneCell' = true
        refine h1 d'[j / k]! _ ?_
        rw [getElem!_pos (enc d'[j / k]!) (j % k) (by rw [hke]; exact hm)]
        exact List.getElem_mem _
      · rw [hps]; exact hfz)
    refine ⟨.tuple #[], .tup [], β, _, rfl, hi, he, .tup _ _ rfl fun j v p hv hp => by simp at hv, rfl, d'.toList, ?_, ?_, rfl⟩
    · have := hperm.2.2
      have h2 : (d'.extract 0 d.toArray.size).toList = d'.toList := by rw [List.size_toArray, ← hds]; simp
      have h3 : (d.toArray.extract 0 d.toArray.size).toList = d := by simp
      rw [h2, h3] at this
      exact this
    · intro x y hxy hy
      have := hsort x y (Nat.zero_le _) hxy (by simpa [hds] using hy)
      have hg : ∀ z, z < d'.size → d'.toList.getD z default = d'[z]! := fun z hz => by
        rw [List.getD_eq_getElem?_getD, getElem!_pos d' z hz, Array.getElem?_toList, Array.getElem?_eq_getElem hz]; rfl
      rw [Array.length_toList] at hy
      rw [hg y hy, hg x (by omega)]
      exact this
end Go.Proofs.SL
