/-
  SL: 'pureOp' is sound. No claim by itself.
-/
import Derived.Test.YtdgikagnkbphoaaDoorSlPure
namespace Go.Proofs.SL
open Go
set_option linter.unusedSimpArgs false
set_option linter.unusedVariables false
variable {P : Program} {T : Nat → Option TD} {β : Nat → Option Nat} {H : Heap} {w : World}

theorem flat_cons (x : PV) (xs : List PV) : flat (x :: xs) = x.cells ++ flat xs := rfl
theorem flat_append (xs ys : List PV) : flat (xs ++ ys) = flat xs ++ flat ys := by simp [flat]

theorem flat_length {m : Nat} : ∀ {xs : List PV}, (∀ x ∈ xs, x.cells.length = m) → (flat xs).length = xs.length * m
  | [], _ => by simp [flat]
  | x :: xs, h => by
    rw [flat_cons, List.length_append, h x (by simp), flat_length (fun y hy => h y (by simp [hy])), List.length_cons, Nat.succ_mul]; omega

theorem flat_drop {m : Nat} : ∀ {xs : List PV} (l : Nat), (∀ x ∈ xs, x.cells.length = m) → flat (xs.drop l) = (flat xs).drop (l * m)
  | _, 0, _ => by simp
  | [], _ + 1, _ => by simp [flat]
  | x :: xs, l + 1, h => by
    have hx := h x (by simp)
    rw [List.drop_succ_cons, flat_drop l (fun y hy => h y (by simp [hy])), flat_cons, Nat.succ_mul, ← hx, Nat.add_comm, ← List.drop_drop, List.drop_left]

theorem flat_take {m : Nat} : ∀ {xs : List PV} (l : Nat), (∀ x ∈ xs, x.cells.length = m) → flat (xs.take l) = (flat xs).take (l * m)
  | _, 0, _ => by simp [flat]
  | [], _ + 1, _ => by simp [flat]
  | x :: xs, l + 1, h => by
    have hx := h x (by simp)
    have e1 : x.cells.length ≤ (l + 1) * m := by rw [Nat.succ_mul]; omega
    have e2 : (l + 1) * m - x.cells.length = l * m := by rw [Nat.succ_mul]; omega
    rw [List.take_succ_cons, flat_cons, flat_take l (fun y hy => h y (by simp [hy])), flat_cons, List.take_append, List.take_of_length_le e1, e2]

theorem flat_at {m : Nat} {xs : List PV} (h : ∀ x ∈ xs, x.cells.length = m) {i k : Nat} (hi : i < xs.length) (hk : k < m) : (flat xs)[i * m + k]? = (xs[i]).cells[k]? := by
  have e : flat (xs.drop i) = (flat xs).drop (i * m) := flat_drop i h
  rw [← List.getElem?_drop, ← e, List.drop_eq_getElem_cons hi, flat_cons, List.getElem?_append_left (by rw [h _ (List.getElem_mem hi)]; exact hk)]

theorem idx_spec {i : Int} {n : Nat} (h : idx i n = true) : 0 ≤ i ∧ i < n := by
  unfold idx at h
  simp only [Bool.and_eq_true, decide_eq_true_eq] at h
  exact h

theorem addr_add (b off n : Nat) : (⟨b, off, none⟩ : Addr).add n = ⟨b, off + n, none⟩ := by
  unfold Addr.add; split
  · subst_vars; rfl
  · rfl

theorem map_args {ρ : Operand → Value} {g : Operand → PV} (hg : ∀ x, V β H w (ρ x) (g x)) (l : Array Operand) :
    (l.map ρ).size = (l.toList.map g).length ∧ ∀ (i : Nat) (v : Value) (p : PV), (l.map ρ)[i]? = some v → (l.toList.map g)[i]? = some p → V β H w v p := by
  refine ⟨by simp, fun i v p hv hp => ?_⟩
  simp only [Array.getElem?_map, List.getElem?_map, Array.getElem?_toList] at hv hp
  cases ho : l[i]? with
  | none => rw [ho] at hv; cases hv
  | some o =>
    rw [ho] at hv hp
    simp only [Option.map_some, Option.some.injEq] at hv hp
    subst hv; subst hp
    exact hg o

theorem lim_ok {ρ : Operand → Value} {g : Operand → PV} (hg : ∀ x, V β H w (ρ x) (g x)) {d : Nat} {o : Option Operand} {n : Int} (h : lim d (o.map g) = some n) :
    (o = none ∧ n = d) ∨ ∃ x k, o = some x ∧ ρ x = .int k n := by
  cases o with
  | none => simp only [Option.map_none, lim, Option.some.injEq] at h; exact .inl ⟨rfl, h.symm⟩
  | some x =>
    right
    simp only [Option.map_some] at h
    have := hg x
    unfold lim at h
    split at h
    · rename_i e; cases e
    · rename_i k n' e
      simp only [Option.some.injEq] at e h
      subst h
      rw [e] at this
      exact ⟨x, k, rfl, this.int_inv⟩
    · cases h

/-- The bounds of a slice expression, as the machine works them out. -/
theorem run_bounds {w2 : World} {ρ : Operand → Value} {g : Operand → PV} (hg : ∀ x, V β H w (ρ x) (g x)) (isSlice : Bool) (len cap : Nat) (hcap : len ≤ cap) {lo hi : Option Operand} {l h : Int}
    (hl : lim 0 (lo.map g) = some l) (hh : lim len (hi.map g) = some h) (h1 : 0 ≤ l) (h2 : l ≤ h) (h3 : h ≤ len) :
    (Instr.sliceBounds isSlice len cap (lo.map ρ) (hi.map ρ) none).run P w2 = .ok (l.toNat, h.toNat, cap) w2 := by
  unfold Instr.sliceBounds
  rcases lim_ok hg hh with ⟨rfl, rfl⟩ | ⟨y, ky, rfl, ey⟩ <;> rcases lim_ok hg hl with ⟨rfl, rfl⟩ | ⟨x, kx, rfl, ex⟩
  · simp
  · simp only [Option.map_none, Option.map_some, Sem.run_bind, Sem.run_pure, Result.andThen_ok, ex]
    have : ((Instr.sliceBound (.int kx l) len .sliceB).run P w2) = .ok l.toNat w2 := by
      unfold Instr.sliceBound asIntOf
      simp only [Sem.run_bind, Sem.run_pure, Result.andThen_ok]
      rw [if_pos ⟨h1, by omega⟩]; rfl
    simp [this]
  · simp only [Option.map_none, Option.map_some, Sem.run_bind, Sem.run_pure, Result.andThen_ok, ey]
    have : ∀ c, ((Instr.sliceBound (.int ky h) cap c).run P w2) = .ok h.toNat w2 := by
      intro c
      unfold Instr.sliceBound asIntOf
      simp only [Sem.run_bind, Sem.run_pure, Result.andThen_ok]
      rw [if_pos ⟨by omega, by omega⟩]; rfl
    simp [this]
  · simp only [Option.map_none, Option.map_some, Sem.run_bind, Sem.run_pure, Result.andThen_ok, ey, ex]
    have e1 : ∀ c, ((Instr.sliceBound (.int ky h) cap c).run P w2) = .ok h.toNat w2 := by
      intro c
      unfold Instr.sliceBound asIntOf
      simp only [Sem.run_bind, Sem.run_pure, Result.andThen_ok]
      rw [if_pos ⟨by omega, by omega⟩]; rfl
    have e2 : ((Instr.sliceBound (.int kx l) h.toNat .sliceB).run P w2) = .ok l.toNat w2 := by
      unfold Instr.sliceBound asIntOf
      simp only [Sem.run_bind, Sem.run_pure, Result.andThen_ok]
      rw [if_pos ⟨h1, by omega⟩]; rfl
    simp [e1, e2]

theorem V.sl_slice {a : Option Addr} {cap m : Nat} {xs : List PV} (hv : V β H w (.slice a xs.length cap) (.sl m xs)) {l h : Nat} (h1 : l ≤ h) (h2 : h ≤ xs.length) :
    V β H w (.slice (if cap = l then a else a.map (·.add (l * m))) (h - l) (cap - l)) (.sl m ((xs.take h).drop l)) := by
  have hlen : ((xs.take h).drop l).length = h - l := by simp; omega
  obtain ⟨a', cap', e, hc, hs⟩ := hv.sl_inv
  simp only [Value.slice.injEq] at e
  obtain ⟨rfl, _, rfl⟩ := e
  by_cases hz : h - l = 0
  · have : (xs.take h).drop l = [] := List.eq_nil_of_length_eq_zero (by omega)
    rw [this, hz]; exact .sl0 ..
  · have hne : xs ≠ [] := by rintro rfl; simp at h2; omega
    obtain ⟨b, off, rfl, hb, hm, f, f1, f2, f3⟩ := hs hne
    have hcl : ¬ cap = l := by omega
    rw [if_neg hcl, ← hlen, Option.map_some, addr_add]
    have hm' : ∀ x ∈ xs.take h, x.cells.length = m := fun x hx => hm x (List.mem_of_mem_take hx)
    have ef : flat ((xs.take h).drop l) = ((flat xs).take (h * m)).drop (l * m) := by rw [flat_drop l hm', flat_take h hm]
    refine .sl b (off + l * m) (cap - l) m _ (fun k => f (l * m + k)) hb (fun x hx => hm' x (List.mem_of_mem_drop hx)) (by rw [hlen]; omega) (fun k hk => ?_) (fun k p hp => ?_) fun k hk => ?_
    · rw [ef] at hk
      simp only [List.length_drop, List.length_take] at hk
      rw [Nat.add_assoc]
      exact f1 _ (by omega)
    · rw [ef, List.getElem?_drop, List.getElem?_take] at hp
      split at hp
      · exact f2 _ p hp
      · cases hp
    · rw [ef] at hk
      simp only [List.length_drop, List.length_take] at hk
      exact f3 _ (by omega)

theorem V.sl_elem {a : Option Addr} {cap m : Nat} {xs : List PV} (hv : V β H w (.slice a xs.length cap) (.sl m xs)) {i : Nat} (hi : i < xs.length) :
    ∃ b off, a = some ⟨b, off, none⟩ ∧ V β H w (.pointer (some ⟨b, off + i * m, none⟩)) (.cptr (xs.getD i .any)) := by
  obtain ⟨a', cap', e, hc, hs⟩ := hv.sl_inv
  simp only [Value.slice.injEq] at e
  obtain ⟨rfl, _, rfl⟩ := e
  have hne : xs ≠ [] := by rintro rfl; simp at hi
  obtain ⟨b, off, rfl, hb, hm, f, f1, f2, f3⟩ := hs hne
  have eg : xs.getD i .any = xs[i] := by simp [List.getD, hi]
  have hmi : (xs[i]).cells.length = m := hm _ (List.getElem_mem hi)
  refine ⟨b, off, rfl, ?_⟩
  rw [eg]
  have hin : ∀ k, k < (xs[i]).cells.length → i * m + k < (flat xs).length := fun k hk => by
    rw [flat_length hm]
    have : (i + 1) * m ≤ xs.length * m := Nat.mul_le_mul_right m hi
    rw [Nat.succ_mul] at this
    omega
  refine .cptr b (off + i * m) _ (fun k => f (i * m + k)) hb (fun k hk => ?_) (fun k q hq => ?_) fun k hk => f3 _ (hin k hk)
  · rw [Nat.add_assoc]
    exact f1 _ (hin k hk)
  · refine f2 _ q ?_
    have hk : k < m := by
      rcases Nat.lt_or_ge k m with h | h
      · exact h
      · rw [List.getElem?_eq_none (by omega)] at hq; cases hq
    rw [flat_at hm hi hk]; exact hq

theorem V.buf_inv {v : Value} {i ver off len m : Nat} {tip : Bool} (h : V β H w v (.buf i ver off len m tip)) : ∃ a cap, v = .slice a len cap ∧ len ≤ cap ∧ (len ≠ 0 → ∃ b, a = some ⟨b, off, none⟩) ∧ Ref H i ver ∧
    (Live H i ver → (β i = none → cap = 0 ∧ (tip = true → off = 0)) ∧ ∀ b, β i = some b →
        (len = 0 ∧ tip = false) ∨ (a = some ⟨b, off, none⟩ ∧ off + cap * m ≤ bsize w b ∧ (tip = true → off = 0 ∧ olen H i ≤ cap * m))) := by
  cases h with | buf a cap _ _ _ _ _ _ hc ha hi h => exact ⟨a, cap, rfl, hc, ha, hi, h⟩

theorem V.ptr_inv {v : Value} {i ver off : Nat} (h : V β H w v (.ptr i ver off)) : ∃ b, v = .pointer (some ⟨b, off, none⟩) ∧ Ref H i ver ∧ (Live H i ver → β i = some b) := by
  cases h with | ptr b _ _ _ hi h => exact ⟨b, rfl, hi, h⟩

theorem V.buf_slice {a : Option Addr} {cap i ver off len m : Nat} {tip : Bool} (hv : V β H w (.slice a len cap) (.buf i ver off len m tip)) {l h : Nat} (h1 : l ≤ h) (h2 : h ≤ len) {t : Bool}
    (ht : t = true → tip = true ∧ l = 0) :
    V β H w (.slice (if cap = l then a else a.map (·.add (l * m))) (h - l) (cap - l)) (.buf i ver (off + l * m) (h - l) m t) := by
  obtain ⟨a', cap', e, hc, ha, hi, hs⟩ := hv.buf_inv
  simp only [Value.slice.injEq] at e
  obtain ⟨rfl, _, rfl⟩ := e
  refine .buf _ _ i ver _ _ m t (by omega) (fun hne => by
    obtain ⟨b, rfl⟩ := ha (by omega)
    exact ⟨b, by rw [if_neg (by omega), Option.map_some, addr_add]⟩) hi fun hl => ?_
  obtain ⟨h0, h3⟩ := hs hl
  refine ⟨fun hn => ?_, fun b hb => ?_⟩
  · obtain ⟨rfl, ho⟩ := h0 hn
    exact ⟨by omega, fun htt => by obtain ⟨h5, rfl⟩ := ht htt; rw [ho h5]; omega⟩
  · by_cases hz : h - l = 0 ∧ t = false
    · exact .inl hz
    · right
      rcases h3 b hb with ⟨rfl, htf⟩ | ⟨rfl, hsz, htp⟩
      · exact absurd ⟨by omega, by cases t with | false => rfl | true => obtain ⟨h5, _⟩ := ht rfl; rw [htf] at h5; cases h5⟩ hz
      · by_cases hcl : cap = l
        · have hl0 : t = true := by cases t with | true => rfl | false => exact absurd ⟨by omega, rfl⟩ hz
          obtain ⟨h5, rfl⟩ := ht hl0
          exact ⟨by simp [hcl], by simpa [hcl] using hsz, fun _ => by simpa [hcl] using htp h5⟩
        · rw [if_neg hcl, Option.map_some, addr_add]
          refine ⟨rfl, ?_, fun htt => ?_⟩
          · have : l * m + (cap - l) * m = cap * m := by rw [← Nat.add_mul]; congr 1; omega
            omega
          · obtain ⟨h5, rfl⟩ := ht htt
            obtain ⟨h6, h7⟩ := htp h5
            exact ⟨by omega, by simpa using h7⟩

theorem V.cptr_inv {v : Value} {p : PV} (h : V β H w v (.cptr p)) : ∃ b off, ∃ f : Nat → Value, v = .pointer (some ⟨b, off, none⟩) ∧ Imm β H w b ∧
    (∀ k, k < p.cells.length → w.cell? ⟨b, off + k, none⟩ = some (f k)) ∧ (∀ (k : Nat) (q : PV), p.cells[k]? = some q → V β H w (f k) q) ∧ ∀ k, k < p.cells.length → (f k).oneCell' = true := by
  cases h with | cptr b off _ f hb h1 h2 h3 => exact ⟨b, off, f, rfl, hb, h1, h2, h3⟩


theorem run_underlying' {t : Nat} {d : TD} (hT : TdOk P t d) : ∃ u, (∀ w, (underlying t).run P w = .ok u w) ∧ kOk u d.k ∧ (d.k = .other → ifaceOf u = false) := by
  obtain ⟨u, hu, hk, _, ho⟩ := hT.und
  exact ⟨u, run_underlying hu, hk, ho⟩

theorem kOk_slice {u : TypeDesc} {e : Nat} (h : kOk u (.slice e)) : u = .slice e := by
  cases u <;> simp only [kOk] at h; subst h; rfl
theorem kOk_arr {u : TypeDesc} {n e : Nat} (h : kOk u (.arr n e)) : u = .array n e := by
  cases u <;> simp only [kOk] at h; obtain ⟨rfl, rfl⟩ := h; rfl
theorem kOk_str {u : TypeDesc} (h : kOk u .str) : u = .string := by
  cases u <;> simp only [kOk] at h; rfl
theorem kOk_int {u : TypeDesc} {k : IntKind} (h : kOk u (.int k)) : u = .int k := by
  cases u <;> simp only [kOk] at h; subst h; rfl
theorem kOk_struct {u : TypeDesc} {l : List (Nat × Nat)} (h : kOk u (.struct l)) : ∃ fs, u = .struct fs ∧ l = fs.toList.map fun f => (f.offset, f.type) := by
  cases u <;> simp only [kOk] at h; exact ⟨_, rfl, h⟩
theorem kOk_ptr {u : TypeDesc} {e : Nat} (h : kOk u (.ptr e)) : u = .pointer e := by
  cases u <;> simp only [kOk] at h; subst h; rfl

theorem field_at {fs : Array Field} {f off ft : Nat} (h : (fs.toList.map fun f => (f.offset, f.type))[f]? = some (off, ft)) : ∃ fd, fs[f]? = some fd ∧ fd.offset = off ∧ fd.type = ft := by
  rw [List.getElem?_map, Array.getElem?_toList] at h
  cases hf : fs[f]? with
  | none => rw [hf] at h; cases h
  | some fd =>
    rw [hf] at h
    simp only [Option.map_some, Option.some.injEq, Prod.mk.injEq] at h
    exact ⟨fd, rfl, h.1, h.2⟩

theorem run_fieldPlace {w : World} {b off : Nat} {f : Field} {d : TD} (hT : TdOk P f.type d) (hd : ¬ d.size = 0) : (fieldPlace ⟨b, off, none⟩ f).run P w = .ok ⟨b, off + f.offset, none⟩ w := by
  unfold fieldPlace
  simp only [Sem.run_bind, run_sizeOf' hT, Result.andThen_ok, if_neg hd, addr_add]
  rfl

/-- The frame of an operation that yields a value and leaves the world. -/
def Yes (P : Program) (ρ : Operand → Value) (o : Oper) (β : Nat → Option Nat) (H : Heap) (w : World) (v : PV) : Prop :=
  ∃ x, (∀ w2, (execOp ρ o).run P w2 = .ok (.value x) w2) ∧ V β H w x v

/-- The same, for as long as the heap is as it is. -/
def YesR (P : Program) (ρ : Operand → Value) (o : Oper) (β : Nat → Option Nat) (H : Heap) (w : World) (v : PV) : Prop :=
  ∃ x, (∀ w2 : World, w2.heap = w.heap → (execOp ρ o).run P w2 = .ok (.value x) w2) ∧ V β H w x v

theorem yes_of {ρ : Operand → Value} {o : Oper} {v : PV} {s : Sem Value} (e : execOp ρ o = (do pure (.value (← s)))) (h : ∃ x, (∀ w2, s.run P w2 = .ok x w2) ∧ V β H w x v) : Yes P ρ o β H w v := by
  obtain ⟨x, hx, hv⟩ := h
  refine ⟨x, fun w2 => ?_, hv⟩
  rw [e]
  simp only [Sem.run_bind, hx, Result.andThen_ok]
  rfl

theorem yesR_of {ρ : Operand → Value} {o : Oper} {v : PV} {s : Sem Value} (e : execOp ρ o = (do pure (.value (← s)))) (h : ∃ x, (∀ w2 : World, w2.heap = w.heap → s.run P w2 = .ok x w2) ∧ V β H w x v) : YesR P ρ o β H w v := by
  obtain ⟨x, hx, hv⟩ := h
  refine ⟨x, fun w2 h2 => ?_, hv⟩
  rw [e]
  simp only [Sem.run_bind, hx w2 h2, Result.andThen_ok]
  rfl

theorem elemAddr_ok (hT : TOk P T) {t : Nat} {x i : Value} {p q : PV} (hx : V β H w x p) (hi : V β H w i q) {c : Bool} {v : PV} (h : elemAddr T t p q = (c, v)) (hc : c = true) :
    ∃ r, (∀ w2, (Instr.indexAt t x i).run P w2 = .ok r w2) ∧ V β H w r v := by
  subst hc
  unfold elemAddr at h
  split at h
  · rename_i d j ver off k n hd
    obtain rfl := hi.int_inv
    split at h
    · rename_i l e hk
      split at h
      · rename_i de hde
        simp only [Prod.mk.injEq, Bool.and_eq_true, decide_eq_true_eq] at h
        obtain ⟨⟨hix, h2⟩, rfl⟩ := h
        obtain ⟨i0, i1⟩ := idx_spec hix
        obtain ⟨b, rfl, hl, hb⟩ := hx.ptr_inv
        obtain ⟨u, hu, hku, _⟩ := run_underlying' (hT t d hd)
        rw [hk] at hku
        obtain rfl := kOk_arr hku
        refine ⟨.pointer (some ⟨b, off + n.toNat * de.size, none⟩), fun w2 => ?_, .ptr _ _ _ _ hl hb⟩
        unfold Instr.indexAt asIntOf
        have ht : ¬ l ≤ 1 := by omega
        simp only [Sem.run_bind, Sem.run_pure, Result.andThen_ok, hu, Instr.sureAddr, ht, decide_false, Bool.false_and, i0, i1, and_self, if_true, run_sizeOf' (hT e de hde), addr_add]
      · simp [no] at h
    · simp [no] at h
  · rename_i d m xs k n hd
    obtain rfl := hi.int_inv
    split at h
    · rename_i e hk
      split at h
      · rename_i de hde
        simp only [Prod.mk.injEq, Bool.and_eq_true, decide_eq_true_eq] at h
        obtain ⟨⟨hix, h2⟩, rfl⟩ := h
        obtain ⟨i0, i1⟩ := idx_spec hix
        obtain ⟨a, cap, rfl, hcc, _⟩ := hx.sl_inv
        obtain ⟨b, off, rfl, hv⟩ := hx.sl_elem (i := n.toNat) (by omega)
        obtain ⟨u, hu, hku, _⟩ := run_underlying' (hT t d hd)
        rw [hk] at hku
        obtain rfl := kOk_slice hku
        refine ⟨_, fun w2 => ?_, hv⟩
        unfold Instr.indexAt asIntOf
        simp only [Sem.run_bind, Sem.run_pure, Result.andThen_ok, hu, i0, i1, and_self, if_true, run_sizeOf' (hT e de hde), addr_add, h2, Bool.and_false]
      · simp [no] at h
    · simp [no] at h
  · rename_i d j ver off len m tip k n hd
    obtain rfl := hi.int_inv
    split at h
    · rename_i e hk
      split at h
      · rename_i de hde
        simp only [Prod.mk.injEq, Bool.and_eq_true, decide_eq_true_eq] at h
        obtain ⟨⟨hix, h2⟩, rfl⟩ := h
        obtain ⟨i0, i1⟩ := idx_spec hix
        obtain ⟨a, cap, rfl, hcc, ha, hl, hb⟩ := hx.buf_inv
        obtain ⟨b, rfl⟩ := ha (by omega)
        obtain ⟨u, hu, hku, _⟩ := run_underlying' (hT t d hd)
        rw [hk] at hku
        obtain rfl := kOk_slice hku
        refine ⟨.pointer (some ⟨b, off + n.toNat * m, none⟩), fun w2 => ?_, .ptr _ _ _ _ hl fun hlv => ?_⟩
        · unfold Instr.indexAt asIntOf
          simp only [Sem.run_bind, Sem.run_pure, Result.andThen_ok, hu, i0, i1, and_self, if_true, run_sizeOf' (hT e de hde), addr_add, h2, Bool.and_false]
        · obtain ⟨h3, h4⟩ := hb hlv
          cases hbj : β j with
          | none => have := (h3 hbj).1; omega
          | some b' =>
            rcases h4 b' hbj with ⟨h5, _⟩ | ⟨h5, _⟩
            · omega
            · simp only [Option.some.injEq, Addr.mk.injEq] at h5; rw [h5.1]
      · simp [no] at h
    · simp [no] at h
  · simp [no] at h


theorem fill_ok (place : Nat → Option (Nat × Nat)) : ∀ (parts : List (Nat × Value)) (qs : List (Nat × PV)) (vs : Array Value) (ps : List PV),
    parts.length = qs.length → (∀ (i : Nat) (x : Nat × Value) (y : Nat × PV), parts[i]? = some x → qs[i]? = some y → x.1 = y.1 ∧ V β H w x.2 y.2) →
    vs.size = ps.length → (∀ (i : Nat) (v : Value) (p : PV), vs[i]? = some v → ps[i]? = some p → V β H w v p) →
    ∀ {v : PV} {c : Bool}, fillV place ps qs = (c, v) → c = true → ∃ r, Instr.fill place vs parts = some r ∧ V β H w (.agg r) v := by
  intro parts
  induction parts with
  | nil =>
    intro qs vs ps hl hp hs hv v c h hc
    cases qs with
    | cons _ _ => simp at hl
    | nil =>
      simp only [fillV, Prod.mk.injEq] at h
      obtain ⟨_, rfl⟩ := h
      exact ⟨vs, rfl, .agg vs ps hs hv⟩
  | cons x rest ih =>
    intro qs vs ps hl hp hs hv v c h hc
    cases qs with
    | nil => simp at hl
    | cons y qrest =>
      obtain ⟨i, x⟩ := x
      obtain ⟨j, y⟩ := y
      obtain ⟨e, hxy⟩ := hp 0 _ _ rfl rfl
      simp only at e hxy
      subst e
      subst hc
      unfold fillV at h
      split at h
      · simp [no] at h
      · simp [no] at h
      · rename_i q _ _ off n hpl hany
        obtain ⟨hc1, hc2⟩ := hxy.cellsOf hany
        simp only [Prod.mk.injEq, Bool.and_eq_true, decide_eq_true_eq] at h
        obtain ⟨⟨h1, h2, h3⟩, h4⟩ := h
        have hsz : x.cells.size = n := by rw [hc1, h1]
        -- the fold lays the cells in
        have hfold : ∀ (l : List Value) (k : Nat) (cs : Array Value), off + k + l.length ≤ cs.size →
            (l.zipIdx k).foldl (fun cs (c, j) => cs.setIfInBounds (off + j) c) cs = (cs.toList.take (off + k) ++ l ++ cs.toList.drop (off + k + l.length)).toArray := by
          intro l
          induction l with
          | nil => intro k cs _; simp
          | cons a l ihl =>
            intro k cs hk
            simp only [List.zipIdx_cons, List.foldl_cons]
            rw [ihl (k + 1) _ (by simp at hk ⊢; omega)]
            apply Array.ext'
            simp only [Array.toList_setIfInBounds, List.length_cons]
            have hlt : off + k < cs.toList.length := by simp at hk ⊢; omega
            have e1 : (cs.toList.set (off + k) a).take (off + (k + 1)) = cs.toList.take (off + k) ++ [a] := by
              rw [← Nat.add_assoc, List.take_add_one, List.take_set_of_le (Nat.le_refl _)]
              congr 1
              rw [List.getElem?_set_self hlt]; rfl
            have e2 : (cs.toList.set (off + k) a).drop (off + (k + 1) + l.length) = cs.toList.drop (off + k + (l.length + 1)) := by
              rw [List.drop_set_of_lt (by omega)]
              congr 1; omega
            rw [e1, e2]
            simp
        have hle : off + n ≤ vs.size := by rw [hs]; exact h2
        have hz : (x.cells.zipIdx.foldl (fun cs (c, j) => cs.setIfInBounds (off + j) c) vs) = (vs.toList.take off ++ x.cells.toList ++ vs.toList.drop (off + n)).toArray := by
          rw [← Array.foldl_toList, Array.toList_zipIdx]
          have := hfold x.cells.toList 0 vs (by simp [hsz]; omega)
          simp only [Nat.add_zero] at this
          rw [this, Array.length_toList, hsz]
        obtain ⟨r, hr, hV⟩ := ih qrest (vs.toList.take off ++ x.cells.toList ++ vs.toList.drop (off + n)).toArray (ps.take off ++ q.cells ++ ps.drop (off + n)) (by simpa using hl)
          (fun i a b ha hb => hp (i + 1) a b (by simpa using ha) (by simpa using hb))
          (by simp [hs, hc1, h1])
          (by
            intro k a b ha hb
            simp only [List.getElem?_toArray, List.append_assoc, List.getElem?_append, List.length_take, Array.length_toList, List.getElem?_take, List.getElem?_drop, Array.getElem?_toList] at ha hb
            have e1 : min off vs.size = off := by omega
            have e2 : min off ps.length = off := by omega
            rw [e1] at ha
            rw [e2] at hb
            rw [hsz] at ha
            rw [h1] at hb
            by_cases k1 : k < off
            · simp only [k1, if_true] at ha hb; exact hv k a b ha hb
            · simp only [k1, if_false] at ha hb
              by_cases k2 : k - off < n
              · simp only [k2, if_true] at ha hb; exact hc2 _ a b ha hb
              · simp only [k2, if_false] at ha hb; exact hv _ a b ha hb)
          (c := true) (v := v) (by rw [← h4, ← h3]) rfl
        refine ⟨r, ?_, hV⟩
        unfold Instr.fill
        simp only [hpl]
        rw [if_neg (by simp only [Bool.or_eq_true, decide_eq_true_eq, ne_eq, not_or, Decidable.not_not, Nat.not_lt]; omega), hz]
        exact hr

end Go.Proofs.SL
