/-
  SL: operations that change the heap are sound: slices. No claim by itself.
-/
import Derived.Test.YtdgikagnkbphoaaDoorSlEff
namespace Go.Proofs.SL
open Go
set_option linter.unusedSimpArgs false
set_option linter.unusedVariables false
variable {P : Program} {T : Nat → Option TD} {β : Nat → Option Nat} {H : Heap} {w : World}

theorem V.cells_one {v : Value} {p : PV} (h : V β H w v p) (hv : v.oneCell' = true) : p.cells = [p] := by
  cases h <;> first | rfl | simp [Value.oneCell'] at hv

theorem chunk_ok {m : Nat} {agg : Bool} (hm : agg = true ∨ m = 1) : ∀ (n : Nat) (cs : List PV), cs.length = n * m → (∀ p ∈ cs, p.cells = [p]) →
    flat (chunk m agg n cs) = cs ∧ (chunk m agg n cs).length = n ∧ ∀ x ∈ chunk m agg n cs, x.cells.length = m
  | 0, cs, h, _ => by
    have : cs = [] := List.eq_nil_of_length_eq_zero (by simpa using h)
    subst this
    exact ⟨rfl, rfl, by simp [chunk]⟩
  | n + 1, cs, h, h1 => by
    rw [Nat.succ_mul] at h
    have hd : (cs.drop m).length = n * m := by simp; omega
    obtain ⟨e1, e2, e3⟩ := chunk_ok hm n (cs.drop m) hd (fun p hp => h1 p (List.mem_of_mem_drop hp))
    have hc : (if agg then PV.agg (cs.take m) else cs.getD 0 .any).cells = cs.take m := by
      cases agg with
      | true => rfl
      | false =>
        obtain rfl : m = 1 := by simpa using hm
        cases cs with
        | nil => simp at h
        | cons c cs => simp [h1 c (by simp)]
    refine ⟨?_, by simp [chunk, e2], fun x hx => ?_⟩
    · unfold chunk
      rw [flat_cons, hc, e1, List.take_append_drop]
    · unfold chunk at hx
      rcases List.mem_cons.mp hx with rfl | hx
      · rw [hc]; simp; omega
      · exact e3 x hx

/-- A source of elements: a slice or a string. -/
structure Src (P : Program) (β : Nat → Option Nat) (H : Heap) (w : World) (d : TD) (x : Value) (xs : List PV) : Prop where
  len : (Builtin.lenOf x).run P w = .ok xs.length w
  hm : ∀ y ∈ xs, y.cells.length = d.size
  f : ∃ f : Nat → Value, (∀ n, n ≤ xs.length → ∀ w2 : World, w2.heap = w.heap → (Builtin.firstCells d.size n x).run P w2 = .ok ((List.range (n * d.size)).map f).toArray w2) ∧
    (∀ (k : Nat) (p : PV), (flat xs)[k]? = some p → V β H w (f k) p) ∧ ∀ k, k < (flat xs).length → (f k).oneCell' = true

theorem str_flat (s : List UInt8) : flat (s.map fun b => PV.int .u8 b.toNat) = s.map fun b => PV.int .u8 b.toNat := by
  induction s with
  | nil => rfl
  | cons b s ih => rw [List.map_cons, flat_cons, ih]; rfl

theorem toList_data (s : ByteArray) : s.toList = s.data.toList := by simp [ByteArray.toList_eq]

theorem src_nil {d : TD} (a : Option Addr) (cap : Nat) : Src P β H w d (.slice a 0 cap) [] where
  len := rfl
  hm := by simp
  f := ⟨fun _ => undef, fun n hn w2 _ => by
    obtain rfl : n = 0 := by simpa using hn
    cases a with
    | none => simp [Builtin.firstCells]
    | some a => simp [Builtin.firstCells, loadCells, loadCellsFrom], by simp [flat], by simp [flat]⟩

theorem elemsOf_ok (hI : Inv β H w) {d : TD} {x : Value} {p : PV} (hx : V β H w x p) {c : Bool} {xs : List PV} (h : elemsOf H d p = some (c, xs)) (hc : c = true) : Src P β H w d x xs := by
  unfold elemsOf at h
  split at h
  · rename_i m ys
    simp only [Option.some.injEq, Prod.mk.injEq] at h; obtain ⟨rfl, rfl⟩ := h
    have hm' : m = d.size := of_decide_eq_true hc
    obtain ⟨a, cap, rfl, hcap, hsl⟩ := hx.sl_inv
    by_cases hne : ys = []
    · subst hne; exact src_nil a cap
    · obtain ⟨b, off, rfl, him, hm, f, h1, h2, h3⟩ := hsl hne
      subst hm'
      refine ⟨rfl, hm, f, fun n hn w2 hw2 => ?_, h2, h3⟩
      show (loadCells ⟨b, off, none⟩ (n * d.size)).run P w2 = _
      refine run_loadCells w2 _ _ f fun j hj => ?_
      rw [addr_add, cell?_of_heap (w := w) (by rw [hw2])]
      refine h1 j ?_
      rw [flat_length hm]
      exact Nat.lt_of_lt_of_le hj (Nat.mul_le_mul_right _ hn)
  · rename_i s
    simp only [Option.some.injEq, Prod.mk.injEq] at h; obtain ⟨rfl, rfl⟩ := h
    simp only [Bool.and_eq_true, decide_eq_true_eq] at hc
    obtain rfl := hx.str_inv
    refine ⟨?_, fun y hy => ?_, fun k => .int .u8 (s.get! k).toNat, fun n hn w2 _ => ?_, fun k p hk => ?_, fun k _ => rfl⟩
    · show (Pure.pure s.size : Sem Nat).run P w = _
      rw [Sem.run_pure]; congr 1; rw [List.length_map, toList_data, Array.length_toList]; rfl
    · obtain ⟨b, _, rfl⟩ := List.mem_map.mp hy; rw [hc.1]; rfl
    · rw [hc.1, Nat.mul_one]
      unfold Builtin.firstCells
      rw [Sem.run_pure]
      congr 1
      simp only [List.length_map, toList_data, Array.length_toList] at hn
      apply Array.ext
      · have hss : s.size = s.data.size := rfl
        simp [ByteArray.data_extract]; omega
      · intro i h1 h2
        simp at h2
        simp only [Array.getElem_map, ByteArray.data_extract, Array.getElem_extract, Nat.zero_add, List.getElem_toArray, List.getElem_map, List.getElem_range]
        congr 2
        show s.data[i].toNat = (s.data[i]!).toNat
        rw [getElem!_pos s.data i (by omega)]
    · rw [str_flat, List.getElem?_map] at hk
      cases hb : s.toList[k]? with
      | none => rw [hb] at hk; cases hk
      | some b =>
        rw [hb] at hk
        simp only [Option.map_some, Option.some.injEq] at hk
        subst hk
        have : s.get! k = b := by
          rw [toList_data, Array.getElem?_toList] at hb
          show s.data[k]! = b
          rw [getElem!_def, hb]
        simp only [this]
        exact .int ..
  · simp only [Option.some.injEq, Prod.mk.injEq] at h; obtain ⟨_, rfl⟩ := h
    rw [hx.nils_inv]; exact src_nil none 0
  · simp only [Option.some.injEq, Prod.mk.injEq] at h; obtain ⟨_, rfl⟩ := h
    obtain ⟨a, rfl⟩ := hx.empt_inv; exact src_nil a 0
  · rename_i i ver off len m tip
    split at h
    · rename_i cs ho
      simp only [Option.some.injEq, Prod.mk.injEq] at h; obtain ⟨rfl, rfl⟩ := h
      simp only [Bool.and_eq_true, decide_eq_true_eq, Bool.or_eq_true] at hc
      obtain ⟨rfl, hle, hag⟩ := hc
      have ho := obj_some ho
      obtain ⟨a, cap, rfl, hcap, ha, hl, hlv⟩ := hx.buf_inv
      by_cases hz : len = 0
      · subst hz; exact src_nil a cap
      · obtain ⟨b, rfl⟩ := ha hz
        obtain ⟨h0, h1⟩ := hlv (live_of ho)
        have hb : β i = some b := by
          cases hbj : β i with
          | none => have := (h0 hbj).1; omega
          | some b' =>
            rcases h1 b' hbj with ⟨h5, _⟩ | ⟨h5, _⟩
            · omega
            · simp only [Option.some.injEq, Addr.mk.injEq] at h5; rw [h5.1]
        obtain ⟨_, hbb⟩ := hI.cells ho
        obtain ⟨c', t', fz, f, hh, hsz, hf, hV, hone, _⟩ := hbb b hb
        have hsub : (subCells cs off (len * d.size)).length = len * d.size := by simp [subCells]; omega
        have hget : ∀ (k : Nat) (p : PV), (subCells cs off (len * d.size))[k]? = some p → k < len * d.size ∧ cs[off + k]? = some p := fun k p hp => by
          simp only [subCells, List.getElem?_take, List.getElem?_drop] at hp
          split at hp
          · exact ⟨by assumption, hp⟩
          · cases hp
        obtain ⟨e1, e2, e3⟩ := chunk_ok hag len (subCells cs off (len * d.size)) hsub (fun p hp => by
          obtain ⟨k, hk, rfl⟩ := List.mem_iff_getElem.mp hp
          obtain ⟨hk1, hk2⟩ := hget k _ (List.getElem?_eq_getElem hk)
          exact (hV _ _ hk2).cells_one (hone _ (by omega)))
        refine ⟨by rw [e2]; rfl, e3, fun k => f (off + k), fun n hn w2 hw2 => ?_, fun k p hp => ?_, fun k hk => ?_⟩
        · rw [e2] at hn
          show (loadCells ⟨b, off, none⟩ (n * d.size)).run P w2 = _
          refine run_loadCells w2 _ _ (fun k => f (off + k)) fun j hj => ?_
          rw [addr_add, cell?_of_heap (w := w) (by rw [hw2]), cell_of hh]
          have : n * d.size ≤ len * d.size := Nat.mul_le_mul_right _ hn
          exact hf _ (by omega)
        · rw [e1] at hp
          exact hV _ p (hget k p hp).2
        · rw [e1, hsub] at hk
          exact hone _ (by omega)
    · cases h
  · cases h


theorem zeroCells_size (z : Array Value) (n : Nat) : (Builtin.zeroCells z n).size = n * z.size := by simp [Builtin.zeroCells]

theorem nextslice_le (need cap : Nat) (h : cap < need) : Builtin.nextslicecap need cap ≤ 2 * need := by
  unfold Builtin.nextslicecap
  split
  · omega
  · split
    · omega
    · have grow : ∀ (r c : Nat), c ≤ 2 * need → Builtin.growBy need r c ≤ 2 * need := by
        intro r
        induction r with
        | zero => intro c hc; simp only [Builtin.growBy]; omega
        | succ r ih =>
          intro c hc
          simp only [Builtin.growBy]
          split
          · omega
          · exact ih _ (by omega)
      exact grow 4 cap (by omega)

theorem info_ok {t : Nat} {d : TD} (hT : TdOk P t d) : ∃ i z, P.info? t = some i ∧ i.size = d.size ∧ i.bytes = d.bytes ∧ i.zero = some z ∧ z.cells.size = d.size := by
  obtain ⟨i, z, h1, h2, h3, h4, _, h5⟩ := hT.info
  exact ⟨i, z, h1, h2, h3, h4, h5⟩

theorem run_typeInfo' {t : Nat} {i : TypeInfo} (h : P.info? t = some i) : (typeInfo t).run P w = .ok i w := by
  unfold typeInfo; simp [h]

/-- What 'append' does that makes a new block. -/
theorem append_grow {ts ue : Nat} {e : Nat} {de : TD} (hs : P.underlying ts = some (.slice e)) {du : TypeDesc} (hu : P.underlying ue = some du) (hud : ∀ k, du ≠ .int k) (hT : TdOk P e de) {ty : TypeId}
    {base : Option Addr} {len cap : Nat} {olds : Array Value} (hold : ∀ w2 : World, w2.heap = w.heap → (Builtin.firstCells de.size len (.slice base len cap)).run P w2 = .ok olds w2)
    {x : Value} {n : Nat} (hlen : (Builtin.lenOf x).run P w = .ok n w) {news : Array Value} (hnew : ∀ w2 : World, w2.heap = w.heap → (Builtin.firstCells de.size n x).run P w2 = .ok news w2)
    (hcap : cap < len + n) (hb : (len + n) * de.bytes ≤ most) (hb' : len + n ≤ most) :
    ∃ w' ncap, ∃ rest : Array Value, (Builtin.append_ #[ts, ue] ty #[.slice base len cap, x]).run P w = .ok (.slice (some ⟨w.heap.size, 0, none⟩) (len + n) ncap) w' ∧ Same w w' ∧
      w'.heap = w.heap.push (.cells (olds ++ news ++ rest) e) ∧ len + n ≤ ncap ∧ rest.size = (ncap - (len + n)) * de.size := by
  obtain ⟨i, z, hi, hsz, hby, hz, hzs⟩ := info_ok hT
  have hn : ¬ (len + n ≤ cap) := by omega
  have hmost : most = 70368744177664 := rfl
  have h63 : ¬ (9223372036854775807 < ((len : Int) + (n : Int))) := by omega
  have h48 : ¬ (281474976710656 < Builtin.nextslicecap (len + n) cap * i.bytes) := by
    have h1 := nextslice_le (len + n) cap hcap
    have h2 : Builtin.nextslicecap (len + n) cap * i.bytes ≤ 2 * (len + n) * i.bytes := Nat.mul_le_mul_right _ h1
    rw [hby] at h2 ⊢
    have h3 : 2 * (len + n) * de.bytes = 2 * ((len + n) * de.bytes) := Nat.mul_assoc ..
    omega
  let w1 : World := { w with drawn := w.drawn + 1 }
  have ho1 := hold w1 rfl
  have hn1 := hnew w1 rfl
  generalize hq : (Question.appendCap (len + n) cap e).cut (w.tape w.drawn (.appendCap (len + n) cap e)) = ncap
  refine ⟨{ w1 with heap := w1.heap.push (.cells (olds ++ news ++ Builtin.zeroCells z.cells (ncap - (len + n))) e) }, ncap, Builtin.zeroCells z.cells (ncap - (len + n)), ?_, ⟨rfl, rfl, rfl, by simp [w1]⟩, rfl, ?_, by rw [zeroCells_size, hzs]⟩
  · rw [← hsz] at ho1 hn1
    have hdu' : ∀ (s1 s2 : Bool), (match (some du : Option TypeDesc) with | some (.int _) => s1 | _ => s2) = s2 := by
      intro s1 s2
      cases du <;> first | rfl | exact absurd rfl (hud _)
    have hl2 : ∀ w2 : World, (Builtin.lenOf x).run P w2 = .ok n w2 := by
      intro w2
      cases x <;> simp [Builtin.lenOf] at hlen ⊢ <;> assumption
    simp [Builtin.append_, run_underlying hs, run_underlying hu, sizeOf, typeInfo, zeroValue, hi, hz, hl2, hn, h63, h48, Question.forced, newRow]
    have ho2 : (Builtin.firstCells i.size len (.slice base len cap)).run P w.drew = .ok olds w.drew := ho1
    have hn2 : (Builtin.firstCells i.size n x).run P w.drew = .ok news w.drew := hn1
    rw [ho2, Result.andThen_ok, hn2, Result.andThen_ok, hq]
    rfl
  · rw [← hq]; simp only [Question.cut]; omega


/-- What 'append' does that has room. -/
theorem append_room {ts ue : Nat} {e : Nat} {de : TD} (hs : P.underlying ts = some (.slice e)) {du : TypeDesc} (hu : P.underlying ue = some du) (hud : ∀ k, du ≠ .int k) (hT : TdOk P e de) {ty : TypeId}
    {base : Option Addr} {len cap : Nat} {x : Value} {n : Nat} (hlen : (Builtin.lenOf x).run P w = .ok n w) {news : Array Value} (hnew : ∀ w2 : World, w2.heap = w.heap → (Builtin.firstCells de.size n x).run P w2 = .ok news w2)
    (hcap : len + n ≤ cap) : (Builtin.append_ #[ts, ue] ty #[.slice base len cap, x]).run P w =
      match base with
      | none => .ok (.slice base (len + n) cap) w
      | some a => ((storeCells (a.add (len * de.size)) news.toList).run P w).andThen fun _ w' => .ok (.slice base (len + n) cap) w' := by
  obtain ⟨i, z, hi, hsz, hby, hz, hzs⟩ := info_ok hT
  have hn1 := hnew w rfl
  rw [← hsz] at hn1 ⊢
  cases base with
  | none =>
    simp [Builtin.append_, run_underlying hs, run_underlying hu, sizeOf, typeInfo, zeroValue, hi, hz, hlen, hcap, hn1]
  | some a =>
    simp [Builtin.append_, run_underlying hs, run_underlying hu, sizeOf, typeInfo, zeroValue, hi, hz, hlen, hcap, hn1]


theorem heap_push {w w' : World} {o : Obj} (h : w'.heap = w.heap.push o) : (∀ k, k < w.heap.size → w'.heap[k]? = w.heap[k]?) ∧ w'.heap[w.heap.size]? = some o ∧ w.heap.size < w'.heap.size := by
  rw [h]
  refine ⟨fun k hk => ?_, by simp, by simp⟩
  rw [Array.getElem?_push, if_neg (by omega)]

theorem getElem?_lt {α : Type} {l : List α} {k : Nat} {x : α} (h : l[k]? = some x) : k < l.length := by
  rcases Nat.lt_or_ge k l.length with h' | h'
  · exact h'
  · rw [List.getElem?_eq_none h'] at h; cases h

/-- A slice of no elements, grown. -/
theorem append_nil_ok {ts ue : Nat} {e : Nat} {de : TD} (hs : P.underlying ts = some (.slice e)) {du : TypeDesc} (hu : P.underlying ue = some du) (hud : ∀ k, du ≠ .int k) (hT : TdOk P e de) (hI : Inv β H w) {ty : TypeId}
    {a : Option Addr} {x : Value} {xs : List PV} (hx : Src P β H w de x xs) (mu : Bool) (hb : xs.length * de.bytes ≤ most) (hb' : xs.length ≤ most) {cc : Bool} {r : R} (hr : newSlice mu cc H de.size xs = r) :
    ∃ v H', r = .val cc v H' ∧ Does P β H w (Builtin.append_ #[ts, ue] ty #[.slice a 0 0, x]) v H' := by
  obtain ⟨f, hf, hV, hone⟩ := hx.f
  have hfl := flat_length hx.hm
  by_cases hne : xs = []
  · subst hne
    have hroom := append_room (P := P) (w := w) hs hu hud hT (ty := ty) (base := a) (len := 0) (cap := 0) hx.len (fun w2 h2 => hf _ (Nat.le_refl _) w2 h2) (by simp)
    have hrun : (Builtin.append_ #[ts, ue] ty #[.slice a 0 0, x]).run P w = .ok (.slice a 0 0) w := by
      rw [hroom]
      cases a with
      | none => rfl
      | some a => simp [storeCells]
    unfold newSlice at hr
    cases mu with
    | true =>
      simp only [if_true] at hr
      have hre : ∀ b, (none : Option Nat) = some b → w.heap.size ≤ b := fun b hb => by cases hb
      have he := push_ext hI ⟨rfl, rfl, rfl, Nat.le_refl _⟩ (fun _ _ => rfl) (o := .cells 0 (flat [])) (r := none) hre (w' := w)
      refine ⟨_, _, hr.symm, _, _, _, hrun, push_inv hI (fun _ _ => rfl) hre he ⟨fun _ => rfl, fun b hb => ?_⟩, he, .buf _ _ _ _ _ _ _ _ (Nat.le_refl _) (fun h => absurd rfl h) (ref_new ..) fun hl => ⟨fun _ => ⟨rfl, fun _ => rfl⟩, fun b hb => ?_⟩⟩
      · rw [more_self] at hb; cases hb
      · rw [more_self] at hb; cases hb
    | false =>
      simp only [Bool.false_eq_true, if_false] at hr
      exact ⟨_, _, hr.symm, _, _, β, hrun, hI, Ext.refl .., .sl0 ..⟩
  · have hn : 0 < xs.length := List.length_pos_iff.mpr hne
    have hold : ∀ w2 : World, w2.heap = w.heap → (Builtin.firstCells de.size 0 (.slice a 0 0)).run P w2 = .ok #[] w2 := fun w2 _ => by
      cases a with
      | none => rfl
      | some a => simp [Builtin.firstCells, loadCells, loadCellsFrom]
    obtain ⟨w', ncap, rest, hrun, hsame, hheap, hcap, hrest⟩ := append_grow (P := P) (w := w) hs hu hud hT (ty := ty) (base := a) (len := 0) (cap := 0) (olds := #[]) hold hx.len
      (fun w2 h2 => hf _ (Nat.le_refl _) w2 h2) (by omega) (by simpa using hb) (by simpa using hb')
    obtain ⟨h1, h2, h3⟩ := heap_push hheap
    simp only [Nat.zero_add] at hrun hcap hrest
    have hsum : xs.length * de.size + (ncap - xs.length) * de.size = ncap * de.size := by rw [← Nat.add_mul]; congr 1; omega
    have hle : xs.length * de.size ≤ ncap * de.size := Nat.mul_le_mul_right _ hcap
    obtain ⟨v, H', β', hr', hi', he', hv'⟩ := new_slice hI hsame mu (m := de.size) (xs := xs) (cap := ncap) (f := f) (Nat.le_refl _) h3 h1 h2 hx.hm (by rw [hfl]; exact hle)
      (by simp [hrest]; exact hsum) hcap (fun k hk => by
        rw [hfl] at hk
        simp [Array.getElem?_append, List.getElem?_range, hk]) hV hone (by simp) hr
    exact ⟨v, H', hr', _, _, _, hrun, hi', he', hv'⟩

theorem bump_ext (hI : Inv β H w) {i : Nat} {o o' : OB} (ho : H[i]? = some (some o)) (hv : o.ver < o'.ver) : Ext β H w β (H.set i (some o')) w where
  len := by simp
  live := fun j ver hj => by
    have hil : i < H.length := Alive.lt ⟨o, ho⟩
    refine ⟨⟨by simp; exact hj.1, fun x hx => ?_⟩, fun hl => ?_⟩
    · rw [set_get hil] at hx
      split at hx
      · rename_i e
        subst e
        simp only [Option.some.injEq] at hx
        subst hx
        have := hj.2 o ho
        omega
      · exact hj.2 x hx
    · obtain ⟨x, hx, hxv⟩ := hl
      have hxx := hx
      rw [set_get hil] at hx
      split at hx
      · rename_i e
        subst e
        simp only [Option.some.injEq] at hx
        subst hx
        have h1 := hj.2 o ho
        omega
      · rename_i e
        refine ⟨⟨x, hx, hxv⟩, rfl, ?_, fun b' hb' => rfl⟩
        unfold olen; rw [hxx, hx]
  imm := fun k hk => ⟨rfl, hk.1, fun j hj => hk.2 j ((alive_set ⟨o, ho⟩).mp hj)⟩
  os := rfl
  tape := rfl
  output := rfl
  size := Nat.le_refl _

end Go.Proofs.SL
