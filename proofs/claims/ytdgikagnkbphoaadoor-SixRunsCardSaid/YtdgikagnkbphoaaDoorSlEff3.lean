/-
  SL: operations that change the heap are sound: append to an object, and what is left. No claim by itself.
-/
import Derived.Test.YtdgikagnkbphoaaDoorSlEff2
import Derived.Laws.MakeOwn
namespace Go.Proofs.SL
open Go
set_option linter.unusedSimpArgs false
set_option linter.unusedVariables false
variable {P : Program} {T : Nat → Option TD} {β : Nat → Option Nat} {H : Heap} {w : World}

theorem ref_set {i ver : Nat} {o : OB} (hi : i < H.length) (hv : ver ≤ o.ver) : Ref (H.set i (some o)) i ver :=
  ⟨by simp; exact hi, fun x hx => by rw [List.getElem?_set_self hi] at hx; cases hx; exact hv⟩

theorem olen_set {i : Nat} {o : OB} (hi : i < H.length) : olen (H.set i (some o)) i = o.len := by
  unfold olen; rw [List.getElem?_set_self hi]

/-- An object moves to a new block as it grows. -/
theorem append_move {ts ue : Nat} {e : Nat} {de : TD} (hs : P.underlying ts = some (.slice e)) {du : TypeDesc} (hu : P.underlying ue = some du) (hud : ∀ k, du ≠ .int k) (hT : TdOk P e de) (hI : Inv β H w) {ty : TypeId}
    {i ver len cap : Nat} {a : Option Addr} {cs : List PV} (ho : H[i]? = some (some (.cells ver cs))) (hlen : len * de.size = cs.length)
    {x : Value} {xs : List PV} (hx : Src P β H w de x xs) (hb : (len + xs.length) * de.bytes ≤ most) (hb' : len + xs.length ≤ most) (hcap : cap < len + xs.length)
    {olds : Array Value} (hold : ∀ w2 : World, w2.heap = w.heap → (Builtin.firstCells de.size len (.slice a len cap)).run P w2 = .ok olds w2) (hol : olds.size = cs.length)
    (hoV : ∀ (k : Nat) (v : Value) (p : PV), olds[k]? = some v → cs[k]? = some p → V β H w v p) (hoo : ∀ (k : Nat) (v : Value), olds[k]? = some v → v.oneCell' = true) :
    Does P β H w (Builtin.append_ #[ts, ue] ty #[.slice a len cap, x]) (.buf i (ver + 1) 0 (len + xs.length) de.size true) (H.set i (some (.cells (ver + 1) (cs ++ flat xs)))) := by
  obtain ⟨f, hf, hV, hone⟩ := hx.f
  have hfl := flat_length hx.hm
  have hil : i < H.length := Alive.lt ⟨_, ho⟩
  have hver : (OB.cells ver cs).ver < (OB.cells (ver + 1) (cs ++ flat xs)).ver := Nat.lt_succ_self _
  obtain ⟨w', ncap, rest, hrun, hsame, hheap, hnc, hrest⟩ := append_grow (P := P) (w := w) hs hu hud hT (ty := ty) (base := a) (len := len) (cap := cap) (olds := olds) hold hx.len
    (fun w2 h2 => hf _ (Nat.le_refl _) w2 h2) hcap hb hb'
  obtain ⟨h1, h2, h3⟩ := heap_push hheap
  have hsum : (len + xs.length) * de.size + (ncap - (len + xs.length)) * de.size = ncap * de.size := by rw [← Nat.add_mul]; congr 1; omega
  rw [Nat.add_mul] at hsum
  have hcsz : (olds ++ ((List.range (xs.length * de.size)).map f).toArray ++ rest).size = ncap * de.size := by simp [hrest, hol]; omega
  have he := move_ext hI hsame (i := i) (b := w.heap.size) ho (Nat.le_refl _) h1 hver
  have hcl : (cs ++ flat xs).length = (len + xs.length) * de.size := by rw [List.length_append, hfl, ← hlen, Nat.add_mul]
  have hmb : more β i (some w.heap.size) i = some w.heap.size := more_self
  have hget : ∀ k, k < (cs ++ flat xs).length → ∃ v, (olds ++ ((List.range (xs.length * de.size)).map f).toArray ++ rest)[k]? = some v ∧ v.oneCell' = true ∧ ∀ p, (cs ++ flat xs)[k]? = some p → V β H w v p := by
    intro k hk
    rw [hcl, Nat.add_mul] at hk
    simp only [Array.getElem?_append, Array.size_append, List.size_toArray, List.length_map, List.length_range, hol]
    rw [if_pos (by omega)]
    by_cases hkc : k < cs.length
    · rw [if_pos hkc]
      obtain ⟨v, hv⟩ : ∃ v, olds[k]? = some v := ⟨olds[k]'(by omega), by simp [show k < olds.size by omega]⟩
      exact ⟨v, hv, hoo k v hv, fun p hp => hoV k v p hv (by rwa [List.getElem?_append_left hkc] at hp)⟩
    · rw [if_neg hkc]
      have hk2 : k - cs.length < xs.length * de.size := by omega
      refine ⟨f (k - cs.length), by simp [List.getElem?_range, hk2], hone _ (by omega), fun p hp => hV _ p ?_⟩
      rwa [List.getElem?_append_right (by omega)] at hp
  refine ⟨_, _, _, hrun, move_inv hI ho (Nat.le_refl _) h1 he ⟨(fun hn => by rw [hmb] at hn; cases hn), fun b hb => ?_⟩, he, ?_⟩
  · rw [hmb] at hb
    cases hb
    refine ⟨_, _, _, fun k => (olds ++ ((List.range (xs.length * de.size)).map f).toArray ++ rest).getD k undef, h2, ?_, fun k hk => ?_, fun k p hkp => ?_, fun k hk => ?_, by simp⟩
    · rw [hcsz, hcl, Nat.add_mul]; omega
    · obtain ⟨v, hv, _⟩ := hget k hk
      simp only [Array.getD_eq_getD_getElem?, hv, Option.getD_some]
    · obtain ⟨v, hv, _, hvV⟩ := hget k (getElem?_lt hkp)
      simp only [Array.getD_eq_getD_getElem?, hv, Option.getD_some]
      exact (hvV p hkp).mono he
    · obtain ⟨v, hv, hv1, _⟩ := hget k hk
      simp only [Array.getD_eq_getD_getElem?, hv, Option.getD_some]
      exact hv1
  · refine .buf _ _ _ _ _ _ _ _ hnc (fun _ => ⟨_, rfl⟩) (ref_set hil (Nat.le_refl _)) fun _ => ⟨(fun hn => by rw [hmb] at hn; cases hn), fun b hb => .inr ?_⟩
    rw [hmb] at hb
    cases hb
    refine ⟨rfl, by rw [bsize_eq h2, hcsz]; omega, fun _ => ⟨rfl, ?_⟩⟩
    rw [olen_set hil]
    show (cs ++ flat xs).length ≤ _
    rw [hcl]
    exact Nat.mul_le_mul_right _ hnc

theorem append_buf_ok {ts ue : Nat} {e : Nat} {de : TD} (hs : P.underlying ts = some (.slice e)) {du : TypeDesc} (hu : P.underlying ue = some du) (hud : ∀ k, du ≠ .int k) (hT : TdOk P e de) (hI : Inv β H w) {ty : TypeId}
    {s : Value} {i ver len : Nat} (hsv : V β H w s (.buf i ver 0 len de.size true)) {cs : List PV} (ho : H[i]? = some (some (.cells ver cs))) (hlen : len * de.size = cs.length)
    {x : Value} {xs : List PV} (hx : Src P β H w de x xs) (hb : (len + xs.length) * de.bytes ≤ most) (hb' : len + xs.length ≤ most) :
    Does P β H w (Builtin.append_ #[ts, ue] ty #[s, x]) (.buf i (ver + 1) 0 (len + xs.length) de.size true) (H.set i (some (.cells (ver + 1) (cs ++ flat xs)))) := by
  obtain ⟨f, hf, hV, hone⟩ := hx.f
  have hfl := flat_length hx.hm
  obtain ⟨a, cap, rfl, hcap, ha, hl, hlv⟩ := hsv.buf_inv
  obtain ⟨h0, h1⟩ := hlv (live_of ho)
  have hil : i < H.length := hl.1
  have hver : (OB.cells ver cs).ver < (OB.cells (ver + 1) (cs ++ flat xs)).ver := Nat.lt_succ_self _
  cases hbi : β i with
  | none =>
    obtain ⟨rfl, _⟩ := h0 hbi
    obtain rfl : len = 0 := by omega
    have hcs : cs = [] := (hI.cells ho).1 hbi
    subst hcs
    by_cases hne : xs = []
    · subst hne
      have hroom := append_room (P := P) (w := w) hs hu hud hT (ty := ty) (base := a) (len := 0) (cap := 0) hx.len (fun w2 h2 => hf _ (Nat.le_refl _) w2 h2) (by simp)
      have hrun : (Builtin.append_ #[ts, ue] ty #[.slice a 0 0, x]).run P w = .ok (.slice a 0 0) w := by
        rw [hroom]
        cases a with
        | none => rfl
        | some a => simp [storeCells]
      have he := bump_ext hI ho hver
      refine ⟨_, _, β, hrun, ⟨fun j o hj => ?_, fun j k b hj hk => hI.inj j k b ((alive_set ⟨_, ho⟩).mp hj) ((alive_set ⟨_, ho⟩).mp hk)⟩, he, ?_⟩
      · rw [set_get hil] at hj
        split at hj
        · rename_i e'
          subst e'
          simp only [Option.some.injEq] at hj
          subst hj
          exact ⟨fun _ => rfl, fun b hb => by rw [hbi] at hb; cases hb⟩
        · exact (hI.ok j o hj).mono he rfl fun _ _ => rfl
      · exact .buf _ _ _ _ _ _ _ _ (Nat.le_refl _) (fun h => absurd rfl h) (ref_set hil (Nat.le_refl _)) fun _ => ⟨fun _ => ⟨rfl, fun _ => rfl⟩, fun b hb => by rw [hbi] at hb; cases hb⟩
    · have hn : 0 < xs.length := List.length_pos_iff.mpr hne
      exact append_move hs hu hud hT hI ho hlen hx hb hb' (by omega) (olds := #[]) (fun w2 _ => by
        cases a with
        | none => rfl
        | some a => simp [Builtin.firstCells, loadCells, loadCellsFrom]) rfl (by simp) (by simp)
  | some b =>
    rcases h1 b hbi with ⟨_, htf⟩ | ⟨rfl, hsz, htp⟩
    · cases htf
    · obtain ⟨_, hol⟩ := htp rfl
      obtain ⟨_, hbb⟩ := hI.cells ho
      obtain ⟨c, t, fz, g, hh, hcsz, hg, hgV, hgo, hfz⟩ := hbb b hbi
      by_cases hc : len + xs.length ≤ cap
      · -- in place
        have hmul : (len + xs.length) * de.size ≤ cap * de.size := Nat.mul_le_mul_right _ hc
        rw [Nat.add_mul] at hmul
        have hroom := append_room (P := P) (w := w) hs hu hud hT (ty := ty) (base := some ⟨b, 0, none⟩) (len := len) (cap := cap) hx.len (fun w2 h2 => hf _ (Nat.le_refl _) w2 h2) hc
        obtain ⟨w', hr, hi', he', hbs'⟩ := store_cells (P := P) hI ho hbi (ver' := ver + 1) (cs' := cs ++ flat xs) (off := len * de.size) (vs := (List.range (xs.length * de.size)).map f) (ps := flat xs) (by simp [hfl])
          (fun k v p hk hp => by
            have hk2 : k < xs.length * de.size := by rw [← hfl]; exact getElem?_lt hp
            simp only [List.getElem?_map, List.getElem?_range hk2, Option.map_some, Option.some.injEq] at hk
            subst hk
            exact hV k p hp)
          (fun v hv => by
            obtain ⟨k, hk, rfl⟩ := List.mem_map.mp hv
            exact hone k (by rw [hfl]; exact List.mem_range.mp hk))
          (by rw [hfl]; omega) (by rw [List.length_append, hfl, ← hlen]; omega)
          (fun k p hk => by
            rw [hlen]
            by_cases hkc : k < cs.length
            · rw [List.getElem?_append_left hkc] at hk; exact .inr ⟨by omega, hk⟩
            · have := getElem?_lt hk
              rw [List.length_append] at this
              rw [List.getElem?_append_right (by omega)] at hk; exact .inl ⟨by omega, by omega, hk⟩) (.inl (Nat.lt_succ_self _))
        refine ⟨.slice (some ⟨b, 0, none⟩) (len + xs.length) cap, w', β, ?_, hi', he', ?_⟩
        · rw [hroom]
          simp only [addr_add, Nat.zero_add]
          rw [hr]
          rfl
        · refine .buf _ _ _ _ _ _ _ _ hc (fun _ => ⟨_, rfl⟩) (ref_set hil (Nat.le_refl _)) fun _ => ⟨(fun hn => by rw [hbi] at hn; cases hn), fun b' hb' => .inr ?_⟩
          rw [hbi] at hb'
          cases hb'
          refine ⟨rfl, by rw [hbs']; exact hsz, fun _ => ⟨rfl, ?_⟩⟩
          rw [olen_set hil]
          show (cs ++ flat xs).length ≤ _
          rw [List.length_append, hfl, ← hlen]
          exact hmul
      · refine append_move hs hu hud hT hI ho hlen hx hb hb' (by omega) (olds := ((List.range (len * de.size)).map g).toArray) (fun w2 h2 => ?_) (by simp [hlen]) (fun k v p hk hp => ?_) fun k v hk => ?_
        · show (loadCells ⟨b, 0, none⟩ (len * de.size)).run P w2 = _
          refine run_loadCells w2 _ _ g fun j hj => ?_
          rw [addr_add, Nat.zero_add, cell?_of_heap (w := w) (by rw [h2]), cell_of hh]
          exact hg j (by omega)
        · have hk2 : k < len * de.size := by rw [hlen]; exact getElem?_lt hp
          simp only [List.getElem?_toArray, List.getElem?_map, List.getElem?_range hk2, Option.map_some, Option.some.injEq] at hk
          subst hk
          exact hgV k p hp
        · simp only [List.getElem?_toArray, List.getElem?_map] at hk
          rcases Nat.lt_or_ge k (len * de.size) with hk2 | hk2
          · simp only [List.getElem?_range hk2, Option.map_some, Option.some.injEq] at hk
            subst hk
            exact hgo k (by omega)
          · rw [List.getElem?_eq_none (by simpa using hk2)] at hk; cases hk


theorem buildSlice_ok {t e n : Nat} {de : TD} (hu : P.underlying t = some (.slice e)) (hT : TdOk P e de) (hI : Inv β H w) {ρ : Operand → Value} {g : Operand → PV} (hg : ∀ x, V β H w (ρ x) (g x)) {parts : Array (Nat × Operand)} {c : Bool} {cs : List PV}
    (hf : fillV (fun i => some (i * de.size, de.size)) (List.replicate (n * de.size) .any) (parts.toList.map fun p => (p.1, g p.2)) = (c, .agg cs)) (hc : c = true) (hone : cs.all PV.one = true) (hn : n * de.size ≤ 16777216)
    (hag : de.agg = true ∨ de.size = 1) (mu : Bool) {cc : Bool} {r : R} (hr : newSlice mu cc H de.size (chunk de.size de.agg n cs) = r) :
    ∃ v H', r = .val cc v H' ∧ Does P β H w (Instr.buildSlice t n (parts.map fun (i, x) => (i, ρ x))) v H' := by
  obtain ⟨z, hz, hzV⟩ := run_zeroValue' (w := w) (β := β) (H := H) hT
  have hrel : ∀ (i : Nat) (x : Nat × Value) (y : Nat × PV), (parts.map fun (i, x) => (i, ρ x)).toList[i]? = some x → (parts.toList.map fun p => (p.1, g p.2))[i]? = some y → x.1 = y.1 ∧ V β H w x.2 y.2 := by
    intro i x y hx hy
    simp only [Array.toList_map, List.getElem?_map, Array.getElem?_toList] at hx hy
    cases ho : parts[i]? with
    | none => rw [ho] at hx; cases hx
    | some o =>
      rw [ho] at hx hy
      simp only [Option.map_some, Option.some.injEq] at hx hy
      subst hx; subst hy
      exact ⟨rfl, hg _⟩
  obtain ⟨zero, hz1, hz2⟩ : ∃ zero : Array Value, (n * de.size = 0 → zero = #[]) ∧ (¬ n * de.size = 0 → zero = z.cells) := by
    by_cases h0 : n * de.size = 0
    · exact ⟨#[], fun _ => rfl, fun h => absurd h0 h⟩
    · exact ⟨z.cells, fun h => absurd h h0, fun _ => rfl⟩
  obtain ⟨r', hr', hV⟩ := fill_ok _ _ _ ((Array.range (n * de.size)).map (zero[· % zero.size]!)) (List.replicate (n * de.size) .any) (by simp) hrel (by simp) (fun i v p _ hp => by
    rw [List.getElem?_replicate] at hp
    split at hp
    · cases hp; exact .any v
    · cases hp) hf hc
  obtain ⟨ws, hws, hsz, hwV⟩ := hV.agg_inv
  cases hws
  have hlen : cs.length = n * de.size := by
    have key : ∀ (l : List (Nat × PV)) (ps : List PV) (c : Bool) (out : List PV), fillV (fun i => some (i * de.size, de.size)) ps l = (c, .agg out) → c = true → out.length = ps.length := by
      intro l
      induction l with
      | nil => intro ps c out h _; simp only [fillV, Prod.mk.injEq, PV.agg.injEq] at h; rw [h.2]
      | cons y l ih =>
        intro ps c out h hc'
        subst hc'
        obtain ⟨i, y⟩ := y
        unfold fillV at h
        split at h
        · simp [no] at h
        · simp [no] at h
        · rename_i off m hpl hany
          simp only [Prod.mk.injEq, Bool.and_eq_true, decide_eq_true_eq] at h
          obtain ⟨⟨h1, h2, h3⟩, h4⟩ := h
          rw [ih _ true out (by rw [← h4, ← h3]) rfl]
          simp; omega
    rw [key _ _ _ _ hf hc]; simp
  have hone' : ∀ p ∈ cs, p.cells = [p] := fun p hp => by
    have := List.all_eq_true.mp hone p hp
    cases p <;> first | rfl | simp [PV.one] at this
  obtain ⟨e1, e2, e3⟩ := chunk_ok hag n cs hlen hone'
  have hrs : r'.size = n * de.size := by rw [hsz, hlen]
  obtain ⟨v, H', β', hr1, hi1, he1, hv1⟩ := new_slice hI (same_push w (.cells r' e)) mu (xs := chunk de.size de.agg n cs) (m := de.size) (cap := n) (f := fun k => r'.getD k undef) (Nat.le_refl _) (by simp)
    (fun k hk => push_old w _ hk) (c := r') (t := e) (fz := (0, 0)) (by simp) e3 (by rw [e1, hlen]; exact Nat.le_refl _) hrs (by rw [e2]; exact Nat.le_refl _)
    (fun k hk => by rw [e1] at hk; simp [Array.getD, show k < r'.size by omega])
    (fun k p hk => by
      rw [e1] at hk
      have := getElem?_lt hk
      exact hwV k _ p (by simp [Array.getD, show k < r'.size by omega]) hk)
    (fun k hk => by
      rw [e1] at hk
      have h2 : k < r'.size := by omega
      have := hwV k (r'.getD k undef) cs[k] (by simp [Array.getD, h2]) (List.getElem?_eq_getElem hk)
      exact this.oneCell (List.all_eq_true.mp hone _ (List.getElem_mem hk))) (by simp) hr
  refine ⟨v, H', hr1, .slice (some ⟨w.heap.size, 0, none⟩) n n, { w with heap := w.heap.push (.cells r' e) }, β', ?_, hi1, he1, ?_⟩
  · unfold Instr.buildSlice
    have hn' : ¬ n * de.size > 2 ^ 24 := by omega
    simp only [Sem.run_bind, run_underlying hu, Result.andThen_ok, run_sizeOf' hT, hn', if_false]
    by_cases h0 : n * de.size = 0
    · rw [if_pos h0]
      rw [hz1 h0] at hr'
      simp only [Sem.run_bind, Sem.run_pure, Result.andThen_ok, hr']
      rfl
    · rw [if_neg h0]
      rw [hz2 h0] at hr'
      simp only [Sem.run_bind, hz, Sem.run_pure, Result.andThen_ok, hr']
      rfl
  · rw [e2] at hv1; exact hv1

theorem range_ok {t : Nat} (hu : P.underlying t = some .string) (hI : Inv β H w) (s : ByteArray) :
    Does P β H w (Instr.range t (.string s)) (.ptr H.length 0 0) (H ++ [some (.striter s 0)]) := by
  have hr : ∀ b, (some w.heap.size) = some b → w.heap.size ≤ b := fun b hb => by cases hb; exact Nat.le_refl _
  have he := push_ext hI (same_push w (.stringIter s 0)) (fun k hk => push_old w _ hk) (o := .striter s 0) (r := some w.heap.size) hr
  refine ⟨_, _, _, ?_, push_inv hI (fun k hk => push_old w _ hk) hr he ⟨w.heap.size, more_self, by simp⟩, he, .ptr w.heap.size _ _ _ ⟨by simp, fun o ho => Nat.zero_le _⟩ fun _ => more_self⟩
  unfold Instr.range
  simp only [Sem.run_bind, run_underlying hu, Result.andThen_ok]
  rfl

theorem next_ok (hI : Inv β H w) {i : Nat} {s : ByteArray} {pos : Nat} (ho : H[i]? = some (some (.striter s pos))) {x : Value} (hx : V β H w x (.ptr i 0 0)) (ty : TypeId) :
    (pos < s.size → Does P β H w (Instr.next x true ty) (.tup [.bool true, .int .i64 pos, .int .i32 (Utf8.decode s pos).1]) (H.set i (some (.striter s (pos + (Utf8.decode s pos).2))))) ∧
    (¬ pos < s.size → Does P β H w (Instr.next x true ty) (.tup [.bool false]) H) := by
  obtain ⟨b, rfl, hl, hlv⟩ := hx.ptr_inv
  have hb := hlv ⟨_, ho, rfl⟩
  obtain ⟨b', hb', hh⟩ := hI.ok i _ ho
  rw [hb] at hb'
  cases hb'
  have hblt := hI.block ⟨_, ho⟩ hb
  constructor
  · intro hp
    have hp1 : ∀ k, k < w.heap.size → k ≠ b → ({ w with heap := w.heap.setIfInBounds b (.stringIter s (pos + (Utf8.decode s pos).2)) } : World).heap[k]? = w.heap[k]? := fun k _ hk => by
      simp only; rw [Array.getElem?_setIfInBounds_ne (Ne.symm hk)]
    have hnew : ({ w with heap := w.heap.setIfInBounds b (.stringIter s (pos + (Utf8.decode s pos).2)) } : World).heap[b]? = some (.stringIter s (pos + (Utf8.decode s pos).2)) := by
      simp [hblt]
    have he := set_ext hI (w' := { w with heap := w.heap.setIfInBounds b (.stringIter s (pos + (Utf8.decode s pos).2)) }) ⟨rfl, rfl, rfl, by simp⟩ ho hb hp1 (by unfold bsize; rw [hnew, hh])
      (o' := .striter s (pos + (Utf8.decode s pos).2)) (.inr ⟨rfl, rfl⟩)
    refine ⟨.tuple #[.bool true, goInt pos, .int .i32 (Utf8.decode s pos).1], _, β, ?_, set_inv hI ho hb hp1 he ⟨b, hb, hnew⟩, he, .tup _ _ rfl fun j v p hv hq => ?_⟩
    · unfold Instr.next getObj setObj
      simp only [Sem.run_bind, Sem.run, hh, Result.andThen_ok, hp, if_true, Sem.run_pure]
    · match j with
      | 0 => simp at hv hq; subst hv; subst hq; exact .bool _
      | 1 => simp at hv hq; subst hv; subst hq; exact .int ..
      | 2 => simp at hv hq; subst hv; subst hq; exact .int ..
      | j + 3 => simp at hv
  · intro hp
    refine ⟨.tuple #[.bool false], w, β, ?_, hI, Ext.refl .., .tup _ _ rfl fun j v p hv hq => ?_⟩
    · unfold Instr.next getObj
      simp only [Sem.run_bind, Sem.run, hh, Result.andThen_ok, hp, if_false]
      rfl
    · match j with
      | 0 => simp at hv hq; subst hv; subst hq; exact .bool _
      | j + 1 => simp at hv


theorem elemTy_ok (hT : TOk P T) {t e : Nat} {de : TD} (h : elemTy T t = some (e, de)) : P.underlying t = some (.slice e) ∧ TdOk P e de := by
  unfold elemTy at h
  split at h
  · cases h
  rename_i d hd
  split at h
  · rename_i e' hk
    split at h
    · rename_i de' hde
      simp only [Option.some.injEq, Prod.mk.injEq] at h
      obtain ⟨rfl, rfl⟩ := h
      obtain ⟨u, hu, hku, _⟩ := (hT t d hd).und
      rw [hk] at hku
      obtain rfl := kOk_slice hku
      exact ⟨hu, hT _ _ hde⟩
    · cases h
  · cases h

theorem bytes_ok {t e : Nat} {de : TD} (hu : P.underlying t = some (.slice e)) (hT : TdOk P e de) (hk : de.k = .int .u8) (hsz : de.size = 1) {src : Nat} {us : TypeDesc} (hs : P.underlying src = some us) (hI : Inv β H w) (s : ByteArray)
    (mu : Bool) {cc : Bool} {r : R} (hr : newSlice mu cc H 1 (s.toList.map fun b => .int .u8 b.toNat) = r) :
    ∃ v H', r = .val cc v H' ∧ Does P β H w (convert src t (.string s)) v H' := by
  obtain ⟨ue, hue, hke, _⟩ := hT.und
  rw [hk] at hke
  obtain rfl := kOk_int hke
  generalize hq : (Question.appendCap s.size 0 e).cut (w.tape w.drawn (.appendCap s.size 0 e)) = cap
  have hcap : s.size ≤ cap := by rw [← hq]; simp only [Question.cut]; omega
  let cells : Array Value := (s.data.map fun b => Value.int .u8 b.toNat) ++ Array.replicate (cap - s.size) (.int .u8 0)
  have hss : s.size = s.data.size := rfl
  have hcs : cells.size = cap := by simp [cells]; omega
  let w' : World := { w with drawn := w.drawn + 1, heap := w.heap.push (.cells cells e (cap, cap + 1)) }
  have hsame : Same w w' := ⟨rfl, rfl, rfl, by simp [w']⟩
  have hp := heap_push (w := w) (w' := w') (o := .cells cells e (cap, cap + 1)) rfl
  have hfl : flat (s.toList.map fun b => PV.int .u8 b.toNat) = s.toList.map fun b => PV.int .u8 b.toNat := str_flat _
  have hlen : (s.toList.map fun b => PV.int .u8 (b.toNat : Int)).length = s.size := by rw [List.length_map, toList_data, Array.length_toList]; rfl
  obtain ⟨v, H', β', h1, h2, h3, h4⟩ := new_slice hI hsame mu (m := 1) (xs := s.toList.map fun b => PV.int .u8 b.toNat) (cap := cap) (f := fun k => cells.getD k undef) (Nat.le_refl _) hp.2.2 hp.1 hp.2.1
    (fun x hx => by obtain ⟨b, _, rfl⟩ := List.mem_map.mp hx; rfl) (by rw [hfl, hlen]; omega) (by rw [hcs]; omega) (by rw [hlen]; exact hcap)
    (fun k hk => by
      rw [hfl, hlen] at hk
      simp [Array.getD, show k < cells.size by omega])
    (fun k p hk => by
      rw [hfl] at hk
      have hkl := getElem?_lt hk
      rw [hlen] at hkl
      rw [List.getElem?_map, toList_data, Array.getElem?_toList, Array.getElem?_eq_getElem (by omega)] at hk
      simp only [Option.map_some, Option.some.injEq] at hk
      subst hk
      have : cells.getD k undef = .int .u8 (s.data[k]'(by omega)).toNat := by
        have e2 : cells[k]? = some (.int .u8 (s.data[k]'(by omega)).toNat) := by
          simp only [cells]
          rw [Array.getElem?_append_left (by simp; omega), Array.getElem?_map, Array.getElem?_eq_getElem (by omega)]; rfl
        simp only [Array.getD_eq_getD_getElem?, e2, Option.getD_some]
      simp only [this]
      exact .int ..)
    (fun k hk => by
      rw [hfl, hlen] at hk
      have e2 : cells[k]? = some (.int .u8 (s.data[k]'(by omega)).toNat) := by
        simp only [cells]
        rw [Array.getElem?_append_left (by simp; omega), Array.getElem?_map, Array.getElem?_eq_getElem (by omega)]; rfl
      simp only [Array.getD_eq_getD_getElem?, e2, Option.getD_some]; rfl)
    (fun k hk => by simp only; omega) hr
  rw [hlen] at h4
  refine ⟨v, H', h1, .slice (some ⟨w.heap.size, 0, none⟩) s.size cap, w', β', ?_, h2, h3, h4⟩
  have hrun : (Conv.stringToBytes e s).run P w = .ok (.slice (some ⟨w.heap.size, 0, none⟩) s.size cap) w' := by
    unfold Conv.stringToBytes newRow markStringish
    simp only [Sem.run_bind, run_choose, Question.forced, Bool.false_eq_true, if_false, hq, Result.andThen_ok, run_newObj, Sem.run_pure, run_shape, World.shape?]
    simp [World.freeze, hcs, w', cells]
    apply Array.ext_getElem?
    intro k
    rw [Array.getElem?_modify]
    simp only [Array.getElem?_push]
    by_cases hkk : k = w.heap.size
    · subst hkk; simp
    · rw [if_neg (Ne.symm hkk), if_neg hkk, if_neg hkk]
  unfold convert
  simp only [Sem.run_bind, run_underlying hs, run_underlying hu, run_underlying hue, Result.andThen_ok]
  cases us <;> exact hrun


theorem appendable_ok {u : TypeDesc} {k : TK} (h : kOk u k) (ha : appendable k = true) : ∀ i, u ≠ .int i := by
  intro i e
  subst e
  cases k <;> simp [kOk, appendable] at h ha

theorem append_ok (hT : TOk P T) (hI : Inv β H w) {t u : Nat} {s x : Value} {ps px : PV} (hs : V β H w s ps) (hx : V β H w x px) (mu : Bool) {c : Bool} {v : PV} {H' : Heap} (ty : TypeId)
    (h : appendE T mu H t u ps px = .val c v H') (hc : c = true) : Does P β H w (Builtin.append_ #[t, u] ty #[s, x]) v H' := by
  unfold appendE at h
  split at h
  · rename_i e de du het hdu
    obtain ⟨hut, hTe⟩ := elemTy_ok hT het
    obtain ⟨uu, huu, hku, _⟩ := (hT u du hdu).und
    split at h
    · cases h
    · rename_i cx xs hel
      have key : ∀ {cc : Bool}, newSlice mu (cx && (appendable du.k && (decide (xs.length * de.bytes ≤ most) && decide (xs.length ≤ most)))) H de.size xs = .val c v H' → ∀ a, s = .slice a 0 0 →
          Does P β H w (Builtin.append_ #[t, u] ty #[s, x]) v H' := by
        intro _ h a ha
        subst ha
        have hcc : (cx && (appendable du.k && (decide (xs.length * de.bytes ≤ most) && decide (xs.length ≤ most)))) = c := by
          unfold newSlice at h
          split at h <;> (simp only [R.val.injEq] at h; exact h.1)
        rw [← hcc] at hc
        simp only [Bool.and_eq_true, decide_eq_true_eq] at hc
        obtain ⟨hcx, hap, hb, hb'⟩ := hc
        have hsrc := elemsOf_ok (P := P) hI hx hel hcx
        obtain ⟨v', H'', e1, e2⟩ := append_nil_ok (P := P) (ty := ty) (a := a) hut huu (appendable_ok hku hap) hTe hI hsrc mu hb hb' (cc := (cx && (appendable du.k && (decide (xs.length * de.bytes ≤ most) && decide (xs.length ≤ most))))) rfl
        rw [h] at e1
        simp only [R.val.injEq] at e1
        obtain ⟨_, rfl, rfl⟩ := e1
        exact e2
      split at h
      · exact key (cc := true) h none hs.nils_inv
      · obtain ⟨a, ha⟩ := hs.empt_inv
        exact key (cc := true) h a ha
      · rename_i i ver off len m
        split at h
        · rename_i cs ho
          simp only [R.val.injEq] at h
          obtain ⟨rfl, rfl, rfl⟩ := h
          simp only [Bool.and_eq_true, decide_eq_true_eq] at hc
          obtain ⟨hcx, hap, hm, rfl, hlen, hb, hb'⟩ := hc
          subst hm
          exact append_buf_ok hut huu (appendable_ok hku hap) hTe hI hs (obj_some ho) hlen (elemsOf_ok hI hx hel hcx) hb hb'
        · cases h
      · cases h
  · cases h

theorem getD_mod {z : Array Value} (hz : 0 < z.size) (k : Nat) : z[k % z.size]! = z.getD (k % z.size) undef := by
  have : k % z.size < z.size := Nat.mod_lt _ hz
  simp [this, Array.getD]

theorem makeSlice_ok {t e : Nat} {de : TD} (hu : P.underlying t = some (.slice e)) (hT : TdOk P e de) (hI : Inv β H w) {k k' : IntKind} {n : Int} (h0 : 0 ≤ n) (hb : n.toNat * de.bytes ≤ most) (hm : n.toNat ≤ most) (hone : de.zero.cells.all PV.one = true)
    (hpos : 0 < de.size) (hzl : de.zero.cells.length = de.size) (mu : Bool) {cc : Bool} {r : R} (hr : newSlice mu cc H de.size (List.replicate n.toNat de.zero) = r) :
    ∃ v H', r = .val cc v H' ∧ Does P β H w (Instr.makeSlice t (.int k n) (.int k' n)) v H' := by
  obtain ⟨i, z, hi, hsz, hby, hz, hzd, hzs⟩ := hT.info
  have hany : de.zero ≠ .any := fun h => by
    rw [h] at hone; simp [PV.cells, PV.one] at hone
  have hzV : V β H w z de.zero := by rw [hzd]; exact V.ofValue β H w z
  obtain ⟨_, hcV⟩ := hzV.cellsOf hany
  have hz0 : 0 < z.cells.size := by omega
  let cells : Array Value := (Array.range (n.toNat * de.size)).map (z.cells[· % z.cells.size]!)
  have hcs : cells.size = n.toNat * de.size := by simp [cells]
  have hget : ∀ k, k < n.toNat * de.size → cells[k]? = some (z.cells.getD (k % de.size) undef) := fun k hk => by
    have h1 : cells[k]? = some (z.cells[k % z.cells.size]!) := by simp [cells, hk]
    rw [h1, getD_mod hz0, hzs]
  have hfl : ∀ m, flat (List.replicate m de.zero) = (List.replicate m de.zero.cells).flatten := by
    intro m
    induction m with
    | zero => rfl
    | succ m ih => rw [List.replicate_succ, List.replicate_succ, flat_cons, ih, List.flatten_cons]
  have hfg : ∀ m k, (flat (List.replicate m de.zero))[k]? = if k < m * de.size then de.zero.cells[k % de.size]? else none := by
    intro m
    induction m with
    | zero => intro k; simp [flat]
    | succ m ih =>
      intro k
      rw [List.replicate_succ, flat_cons, List.getElem?_append, hzl]
      by_cases h : k < de.size
      · rw [if_pos h, if_pos (by rw [Nat.succ_mul]; omega), Nat.mod_eq_of_lt h]
      · have em : k % de.size = (k - de.size) % de.size := Nat.mod_eq_sub_mod (by omega)
        rw [if_neg h, ih, Nat.succ_mul, em]
        by_cases h2 : k < m * de.size + de.size
        · rw [if_pos (by omega), if_pos h2]
        · rw [if_neg (by omega), if_neg h2]
  have hlen : (flat (List.replicate n.toNat de.zero)).length = n.toNat * de.size := by
    rw [hfl]; simp [hzl, List.length_flatten, List.sum_replicate_nat]
  have hV : ∀ (k : Nat) (p : PV), (flat (List.replicate n.toNat de.zero))[k]? = some p → V β H w (z.cells.getD (k % de.size) undef) p := fun k p hp => by
    rw [hfg] at hp
    split at hp
    · have hk : k % de.size < z.cells.size := by rw [hzs]; exact Nat.mod_lt _ hpos
      exact hcV (k % de.size) _ p (by simp [Array.getD, hk]) hp
    · cases hp
  obtain ⟨v, H', β', h1, h2, h3, h4⟩ := new_slice hI (same_push w (.cells cells e)) mu (xs := List.replicate n.toNat de.zero) (m := de.size) (cap := n.toNat) (f := fun k => z.cells.getD (k % de.size) undef) (Nat.le_refl _) (by simp)
    (fun k hk => push_old w _ hk) (c := cells) (t := e) (fz := (0, 0)) (by simp) (fun x hx => by rw [(List.mem_replicate.mp hx).2]; exact hzl) (by rw [hlen]; exact Nat.le_refl _) hcs (by simp)
    (fun k hk => hget k (by omega)) hV (fun k hk => by
      have hq := hfg n.toNat k
      rw [if_pos (by omega)] at hq
      have hkz : k % de.size < de.zero.cells.length := by rw [hzl]; exact Nat.mod_lt _ hpos
      rw [List.getElem?_eq_getElem hkz] at hq
      exact (hV k _ hq).oneCell (List.all_eq_true.mp hone _ (List.getElem_mem hkz))) (by simp) hr
  rw [List.length_replicate] at h4
  refine ⟨v, H', h1, _, { w with heap := w.heap.push (.cells cells e) }, β', ?_, h2, h3, h4⟩
  have hmost : most = 70368744177664 := rfl
  have hbi : (i.bytes : Int) * n ≤ 281474976710656 := by
    have e1 : ((n.toNat * de.bytes : Nat) : Int) = (i.bytes : Int) * n := by
      rw [Int.natCast_mul, Int.toNat_of_nonneg h0, hby, Int.mul_comm]
    rw [← e1]
    omega
  have h63 : n ≤ 9223372036854775807 := by omega
  have hrun := run_make w t e i z hu hi hz k k' n n h0 (Int.le_refl _) hbi h63
  rw [hsz] at hrun
  exact hrun

theorem copy_ok (hT : TOk P T) (hI : Inv β H w) {t e : Nat} {de : TD} (hu : P.underlying t = some (.slice e)) (hTe : TdOk P e de) {y : Value} {x : Value} {px : PV} {i ver off len m : Nat} {tip : Bool} {cs : List PV} {c : Bool} {xs : List PV}
    (hy : V β H w y (.buf i ver off len m tip)) (hx : V β H w x px) (hel : elemsOf H de px = some (c, xs)) (hc : c = true) (ho : H[i]? = some (some (.cells ver cs))) (hm : de.size = m) (hle : off + len * m ≤ cs.length)
    (hxm : ∀ x ∈ xs, x.cells.length = m) (hx1 : ∀ x ∈ xs, x.cells.all PV.one = true) (ts : List Nat) (ty : TypeId) :
    Does P β H w (Builtin.copy_ (t :: ts).toArray ty #[y, x]) (.int .i64 (min xs.length len : Nat)) (H.set i (some (.cells ver (cs.take off ++ flat (xs.take (min xs.length len)) ++ cs.drop (off + min xs.length len * m))))) := by
  have hs := elemsOf_ok (P := P) hI hx hel hc
  obtain ⟨f, hf1, hf2, hf3⟩ := hs.f
  obtain ⟨a, cap, rfl, hlc, ha, hi, hl⟩ := hy.buf_inv
  obtain ⟨hn, hsb⟩ := hl ⟨_, ho, rfl⟩
  generalize hk : min xs.length len = k
  have hkx : k ≤ xs.length := by omega
  have hkl : k ≤ len := by omega
  have hkm : (xs.length).min len = k := hk
  have hfl : (flat (xs.take k)).length = k * m := by
    rw [flat_take (m := m) k hxm, List.length_take, flat_length hxm]
    exact Nat.min_eq_left (Nat.mul_le_mul_right _ hkx)
  have hlenm : k * m ≤ len * m := Nat.mul_le_mul_right _ hkl
  have run1 : (Builtin.firstCells de.size k x).run P w = .ok ((List.range (k * m)).map f).toArray w := by rw [← hm]; exact hf1 k hkx w rfl
  unfold Builtin.copy_
  by_cases hz : len = 0
  · -- nothing is copied
    have hk0 : k = 0 := by omega
    subst hk0
    have hset : cs.take off ++ flat (xs.take 0) ++ cs.drop (off + 0 * m) = cs := by simp [flat, List.take_append_drop]
    rw [hset]
    have hsetH : H.set i (some (.cells ver cs)) = H := by
      have hlt : i < H.length := Alive.lt ⟨_, ho⟩
      rw [List.getElem?_eq_getElem hlt, Option.some.injEq] at ho
      rw [← ho]; exact List.set_getElem_self hlt
    rw [hsetH]
    refine ⟨.int .i64 (0 : Nat), w, β, ?_, hI, Ext.refl .., .int ..⟩
    have run0 : (Builtin.firstCells de.size 0 x).run P w = .ok #[] w := by rw [run1]; simp
    simp only [List.getElem?_toArray, List.getElem?_cons_zero, List.getElem?_cons_succ, Sem.run_bind, run_underlying hu, Result.andThen_ok, hs.len, hkm, run_sizeOf' hTe, run0]
    cases a with
    | none => rfl
    | some a => rfl
  · obtain ⟨b, rfl⟩ := ha hz
    cases hb : β i with
    | none => have := (hn hb).1; omega
    | some b' =>
      have hb' : b = b' := by
        rcases hsb b' hb with ⟨h, _⟩ | ⟨h, _⟩
        · exact absurd h hz
        · cases h; rfl
      subst hb'
      have hpb := ptr_block hI ho hb
      obtain ⟨w', hr, h1, h2, _⟩ := store_cells (P := P) (ver' := ver) (cs' := cs.take off ++ flat (xs.take k) ++ cs.drop (off + k * m)) hI ho hb (off := off) (vs := (List.range (k * m)).map f) (ps := flat (xs.take k)) (by simp [hfl])
        (fun j v p hv hp => by
          have hj : j < k * m := by have := getElem?_lt hp; omega
          rw [List.getElem?_map, List.getElem?_range hj] at hv
          cases hv
          refine hf2 j p ?_
          rw [flat_take (m := m) k hxm, List.getElem?_take_of_lt hj] at hp
          exact hp)
        (fun v hv => by
          obtain ⟨j, hj, rfl⟩ := List.mem_map.mp hv
          refine hf3 j ?_
          rw [flat_length hxm]
          have := List.mem_range.mp hj
          have := Nat.mul_le_mul_right m hkx
          omega)
        (by rw [hfl]; omega)
        (by simp only [List.length_append, List.length_take, List.length_drop, hfl]; omega)
        (fun j p hp => by
          rw [hfl]
          by_cases hj1 : j < off
          · refine .inr ⟨by omega, ?_⟩
            rw [List.append_assoc, List.getElem?_append_left (by rw [List.length_take]; omega), List.getElem?_take_of_lt hj1] at hp
            exact hp
          · by_cases hj2 : j < off + k * m
            · refine .inl ⟨by omega, hj2, ?_⟩
              rw [List.append_assoc, List.getElem?_append_right (by rw [List.length_take]; omega), List.length_take, Nat.min_eq_left (by omega), List.getElem?_append_left (by rw [hfl]; omega)] at hp
              exact hp
            · refine .inr ⟨by omega, ?_⟩
              rw [List.getElem?_append_right (by simp only [List.length_append, List.length_take, hfl]; omega), List.getElem?_drop] at hp
              simp only [List.length_append, List.length_take, hfl] at hp
              rw [show off + k * m + (j - (min off cs.length + k * m)) = j by omega] at hp
              exact hp)
        (.inr ⟨rfl, by simp only [List.length_append, List.length_take, List.length_drop, hfl]; omega⟩)
      refine ⟨.int .i64 (k : Nat), w', β, ?_, h1, h2, .int ..⟩
      simp only [List.getElem?_toArray, List.getElem?_cons_zero, List.getElem?_cons_succ, Sem.run_bind, run_underlying hu, Result.andThen_ok, hs.len, hkm, run_sizeOf' hTe, run1]
      simp only [hr, Result.andThen_ok]
      rfl

theorem newSlice_val {mu c : Bool} {m : Nat} {xs : List PV} {c' : Bool} {v : PV} {H' : Heap} (h : newSlice mu c H m xs = .val c' v H') : c' = c := by
  unfold newSlice at h
  split at h <;> (simp only [R.val.injEq] at h; exact h.1.symm)

theorem eff_ok (hT : TOk P T) (hI : Inv β H w) {ρ : Operand → Value} {g : Operand → PV} (hg : ∀ x, V β H w (ρ x) (g x)) {o : Oper} {mu c : Bool} {v : PV} {H' : Heap}
    (hp : pureOp T g o.op = none) (h : effOp T mu g H o.op = .val c v H') (hc : c = true) : YesE P ρ o β H w v H' := by
  obtain ⟨dst, op, ty, pos, after, guard⟩ := o
  cases op <;> simp only [effOp] at h <;> try (cases h; done)
  case store t a x =>
    unfold storeE at h
    split at h
    · cases h
    · rename_i d hd
      split at h
      · rename_i i ver off e
        split at h
        · rename_i cs ho
          simp only [R.val.injEq] at h
          obtain ⟨h1, rfl, rfl⟩ := h
          have hx := hg a
          rw [e] at hx
          obtain ⟨w', hr, hi, he⟩ := store_ok hT hI hd hx (hg x) ho (c := (storeV d cs off (g x)).1) (cs' := (storeV d cs off (g x)).2) rfl (by rw [h1]; exact hc)
          refine ⟨.skip, undef, w', β, ?_, .inr ⟨rfl, rfl⟩, hi, he, .any _⟩
          simp only [execOp, Sem.run_bind, hr, Result.andThen_ok]
          rfl
        · cases h
      · cases h
  case box t x =>
    unfold boxE at h
    split at h
    · cases h
    · rename_i hne
      simp only [R.val.injEq] at h
      obtain ⟨rfl, rfl, rfl⟩ := h
      exact yes_does rfl (box_ok hI t (hg x) hne hc)
  case alloc t =>
    split at h
    · rename_i d hd
      unfold boxE at h
      split at h
      · cases h
      · rename_i hne
        simp only [R.val.injEq] at h
        obtain ⟨rfl, rfl, rfl⟩ := h
        exact yes_does rfl (alloc_ok (hT t d hd) hI hne hc)
    · cases h
  case buildSlice t n parts =>
    unfold buildSliceE at h
    split at h
    · cases h
    · rename_i e de het
      obtain ⟨hut, hTe⟩ := elemTy_ok hT het
      split at h
      · rename_i c' cs hfv
        have hcc := newSlice_val h
        rw [hcc] at hc
        simp only [Bool.and_eq_true, decide_eq_true_eq, Bool.or_eq_true] at hc
        obtain ⟨v', H'', e1, e2⟩ := buildSlice_ok (P := P) hut hTe hI hg hfv hc.1 hc.2.1 hc.2.2.1 hc.2.2.2 mu h
        simp only [R.val.injEq] at e1
        obtain ⟨_, rfl, rfl⟩ := e1
        exact yes_does rfl e2
      · cases h
  case convert src t x =>
    unfold bytesE at h
    split at h
    · cases h
    · rename_i e de het
      obtain ⟨hut, hTe⟩ := elemTy_ok hT het
      split at h
      · rename_i s hk hs
        have hcc := newSlice_val h
        rw [hcc] at hc
        have hsz : de.size = 1 := of_decide_eq_true hc
        have hx := hg x
        rw [hs] at hx
        -- the source type is known
        have : ∃ us, P.underlying src = some us := by
          simp only [pureOp] at hp
          split at hp
          · rename_i ds dd hds hdd
            obtain ⟨us, hus, _⟩ := (hT src ds hds).und
            exact ⟨us, hus⟩
          · cases hp
        obtain ⟨us, hus⟩ := this
        obtain ⟨v', H'', e1, e2⟩ := bytes_ok (P := P) hut hTe hk hsz hus hI s mu h
        simp only [R.val.injEq] at e1
        obtain ⟨_, rfl, rfl⟩ := e1
        refine yes_does (s := convert src t (ρ x)) rfl ?_
        rw [hx.str_inv]; exact e2
      · cases h
  case range t x =>
    unfold rangeE at h
    split at h
    · cases h
    · rename_i d hd
      split at h
      · rename_i s hk hs
        simp only [R.val.injEq] at h
        obtain ⟨rfl, rfl, rfl⟩ := h
        obtain ⟨u, hu, hku, _⟩ := (hT t d hd).und
        rw [hk] at hku
        obtain rfl := kOk_str hku
        have hx := hg x
        rw [hs] at hx
        refine yes_does (s := Instr.range t (ρ x)) rfl ?_
        rw [hx.str_inv]; exact range_ok hu hI s
      · cases h
  case next it isStr =>
    unfold nextE at h
    split at h
    · split at h <;> cases h
    · cases h
  case call cl =>
    obtain ⟨callee, args, ts⟩ := cl
    simp only at h
    split at h
    · unfold callE at h
      split at h <;> cases h
    · split at h
      · rename_i t u s x hts hargs
        obtain ⟨xs, xx, hl, hs, hx⟩ := two_args hg hargs
        have hta : ts = #[t, u] := by apply Array.ext'; exact hts
        have haa : args.map ρ = #[xs, xx] := by apply Array.ext'; exact hl
        subst hta
        refine yes_does (s := Builtin.append_ #[t, u] ty (args.map ρ)) rfl ?_
        rw [haa]
        exact append_ok hT hI hs hx mu ty h hc
      · cases h
    · split at h
      · rename_i t ts' d x hts hargs
        obtain ⟨yv, xv, hl, hy, hx⟩ := two_args hg hargs
        have hta : ts = (t :: ts').toArray := by apply Array.ext'; exact hts
        have haa : args.map ρ = #[yv, xv] := by apply Array.ext'; exact hl
        subst hta
        unfold copyE at h
        split at h
        · rename_i e de i ver off len m tip het
          obtain ⟨hut, hTe⟩ := elemTy_ok hT het
          split at h
          · rename_i c' xs cs hel ho
            simp only [R.val.injEq] at h
            obtain ⟨rfl, rfl, rfl⟩ := h
            simp only [Bool.and_eq_true, decide_eq_true_eq, List.all_eq_true] at hc
            refine yes_does (s := Builtin.copy_ (t :: ts').toArray ty (args.map ρ)) rfl ?_
            rw [haa]
            exact copy_ok hT hI hut hTe hy hx hel hc.1 (obj_some ho) hc.2.1 hc.2.2.1 (fun x hx => (hc.2.2.2 x hx).1) (fun x hx => List.all_eq_true.mpr (hc.2.2.2 x hx).2) ts' ty
          · cases h
        · cases h
      · cases h
    · cases h
  case makeSlice t l cp =>
    unfold makeSliceE at h
    split at h
    · rename_i e de k n k' n' het hl hcp
      obtain ⟨hut, hTe⟩ := elemTy_ok hT het
      have hcc := newSlice_val h
      rw [hcc] at hc
      simp only [Bool.and_eq_true, decide_eq_true_eq] at hc
      obtain ⟨h1, h2, h3, h4, h5, h6, h7⟩ := hc
      subst h1
      obtain ⟨v', H'', e1, e2⟩ := makeSlice_ok (P := P) hut hTe hI (k := k) (k' := k') h2 h3 h4 h5 h6 h7 mu h
      simp only [R.val.injEq] at e1
      obtain ⟨_, rfl, rfl⟩ := e1
      have hx1 := hg l
      have hx2 := hg cp
      rw [hl] at hx1
      rw [hcp] at hx2
      refine yes_does (s := Instr.makeSlice t (ρ l) (ρ cp)) rfl ?_
      rw [hx1.int_inv, hx2.int_inv]; exact e2
    · cases h

end Go.Proofs.SL
