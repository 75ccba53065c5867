/-
  SL: 'pureOp' is sound: the main theorem. No claim by itself.
-/
import Derived.Test.YtdgikagnkbphoaaDoorSlPure2
namespace Go.Proofs.SL
open Go
set_option linter.unusedSimpArgs false
set_option linter.unusedVariables false
variable {P : Program} {T : Nat → Option TD} {β : Nat → Option Nat} {H : Heap} {w : World}

theorem no_ne {c : Bool} {v : PV} {Q : Prop} (h : no = (c, v)) (hc : c = true) : Q := by subst hc; simp [no] at h

/-- What is to be shown of an operation that yields a value and leaves the world. -/
def Gives (P : Program) (β : Nat → Option Nat) (H : Heap) (w : World) (s : Sem Value) (v : PV) : Prop := ∃ r, (∀ w2, s.run P w2 = .ok r w2) ∧ V β H w r v

theorem index_ok (hT : TOk P T) {t : Nat} {x i : Value} {p q : PV} {c : Bool} {v : PV} (hx : V β H w x p) (hi : V β H w i q)
    (h : indexV T t p q = (c, v)) (hc : c = true) : Gives P β H w (Instr.index t x i) v := by
  unfold indexV at h
  split at h
  · exact no_ne h hc
  rename_i d hd
  split at h
  · rename_i s k n
    obtain rfl := hx.str_inv
    obtain rfl := hi.int_inv
    split at h
    · rename_i hk
      simp only [Prod.mk.injEq] at h
      obtain ⟨rfl, rfl⟩ := h
      obtain ⟨h0, h1⟩ := idx_spec hc
      obtain ⟨u, hu, hku, _⟩ := run_underlying' (hT t d hd)
      rw [hk] at hku
      obtain rfl := kOk_str hku
      have hlt : n.toNat < s.size := by omega
      refine ⟨.int .u8 (s.get! n.toNat).toNat, fun w2 => ?_, .int ..⟩
      have e : s[n.toNat]? = some (s.get! n.toNat) := by
        rw [getElem?_pos s n.toNat hlt]
        congr 1
        show s.data[n.toNat] = s.data[n.toNat]!
        rw [getElem!_pos s.data n.toNat hlt]
      unfold Instr.index asIntOf
      simp only [Sem.run_bind, Sem.run_pure, Result.andThen_ok, hu, h0, if_true, e]
    · exact no_ne h hc
  · rename_i cs k n
    obtain ⟨vs, rfl, hs, hv⟩ := hx.agg_inv
    obtain rfl := hi.int_inv
    split at h
    · rename_i l e hk
      split at h
      · rename_i de hde
        simp only [Prod.mk.injEq] at h
        obtain ⟨rfl, rfl⟩ := h
        simp only [Bool.and_eq_true] at hc
        obtain ⟨h0, h1⟩ := idx_spec hc.1
        obtain ⟨u, hu, hku, _⟩ := run_underlying' (hT t d hd)
        rw [hk] at hku
        obtain rfl := kOk_arr hku
        obtain ⟨r, hr, hV⟩ := run_partV (hT e de hde) (w := w) hs hv (off := n.toNat * de.size) (c := (partV de cs (n.toNat * de.size)).1) rfl hc.2
        refine ⟨r, fun w2 => ?_, hV⟩
        unfold Instr.index asIntOf
        simp only [Sem.run_bind, Sem.run_pure, Result.andThen_ok, hu, h0, h1, and_self, if_true, run_sizeOf' (hT e de hde), hr]
      · exact no_ne h hc
    · exact no_ne h hc
  · exact no_ne h hc

theorem un_ok {op : UnOp} {x : Value} {p : PV} {c : Bool} {v : PV} (hx : V β H w x p) (h : unV op p = (c, v)) (hc : c = true) : Gives P β H w (Op.unary op x) v := by
  unfold unV at h
  split at h
  · simp only [Prod.mk.injEq] at h; obtain ⟨_, rfl⟩ := h
    exact ⟨_, fun w2 => by rw [hx.bool_inv]; rfl, .bool _⟩
  · simp only [Prod.mk.injEq] at h; obtain ⟨_, rfl⟩ := h
    exact ⟨_, fun w2 => by rw [hx.int_inv]; rfl, .int ..⟩
  · simp only [Prod.mk.injEq] at h; obtain ⟨_, rfl⟩ := h
    exact ⟨_, fun w2 => by rw [hx.int_inv]; rfl, .int ..⟩
  · exact no_ne h hc

theorem extract_ok {x : Value} {i : Nat} {p : PV} {c : Bool} {v : PV} (hx : V β H w x p) (h : extractV p i = (c, v)) (hc : c = true) : Gives P β H w (Instr.extract x i) v := by
  unfold extractV at h
  split at h
  · rename_i vs
    simp only [Prod.mk.injEq] at h; obtain ⟨rfl, rfl⟩ := h
    obtain ⟨ws, rfl, hs, hv⟩ := hx.tup_inv
    have hlt : i < vs.length := of_decide_eq_true hc
    obtain ⟨r, hr⟩ : ∃ r, ws[i]? = some r := ⟨ws[i]'(hs ▸ hlt), by simp [hs ▸ hlt]⟩
    exact ⟨r, fun w2 => by simp only [Instr.extract, hr]; rfl, hv i r _ hr (by simp [List.getElem?_eq_getElem hlt])⟩
  · exact no_ne h hc

theorem fieldOf_ok (hT : TOk P T) {t f off : Nat} {df : TD} (h : fieldOf T t f = some (off, df)) :
    ∃ fs fd, (∀ w, (underlying t).run P w = .ok (.struct fs) w) ∧ fs[f]? = some fd ∧ fd.offset = off ∧ TdOk P fd.type df := by
  unfold fieldOf at h
  split at h
  · cases h
  rename_i d hd
  split at h
  · rename_i fs hk
    split at h
    · rename_i off' ft hf
      split at h
      · rename_i df' hdf
        simp only [Option.some.injEq, Prod.mk.injEq] at h
        obtain ⟨rfl, rfl⟩ := h
        obtain ⟨u, hu, hku, _⟩ := run_underlying' (hT t d hd)
        rw [hk] at hku
        obtain ⟨fds, rfl, rfl⟩ := kOk_struct hku
        obtain ⟨fd, hfd, rfl, rfl⟩ := field_at hf
        exact ⟨fds, fd, hu, hfd, rfl, hT _ _ hdf⟩
      · cases h
    · cases h
  · cases h

theorem field_ok (hT : TOk P T) {t f : Nat} {x : Value} {p : PV} {c : Bool} {v : PV} (hx : V β H w x p) (h : fieldV T t f p = (c, v)) (hc : c = true) : Gives P β H w (Instr.field t x f) v := by
  unfold fieldV at h
  split at h
  · exact no_ne h hc
  rename_i off df hf
  obtain ⟨fs, fd, hu, hfd, rfl, hdf⟩ := fieldOf_ok hT hf
  split at h
  · rename_i cs
    obtain ⟨ws, rfl, hs, hv⟩ := hx.agg_inv
    obtain ⟨r, hr, hV⟩ := run_partV hdf (w := w) hs hv h hc
    exact ⟨r, fun w2 => by simp only [Instr.field, Sem.run_bind, hu, Result.andThen_ok, hfd, asAgg, Sem.run_pure, hr], hV⟩
  · exact no_ne h hc

theorem cptr_part {b off fo : Nat} {cs : List PV} {f' : Nat → Value} {df : TD} (him : Imm β H w b) (h1 : ∀ k, k < cs.length → w.cell? ⟨b, off + k, none⟩ = some (f' k))
    (h2 : ∀ (k : Nat) (q : PV), cs[k]? = some q → V β H w (f' k) q) (h4 : ∀ k, k < cs.length → (f' k).oneCell' = true) (hp : (partV df cs fo).1 = true) (h3 : (df.agg || (partV df cs fo).2.one) = true) :
    V β H w (.pointer (some ⟨b, off + fo, none⟩)) (.cptr (partV df cs fo).2) := by
  unfold partV at hp h3 ⊢
  split at hp
  · rename_i ha
    have hle : fo + df.size ≤ cs.length := of_decide_eq_true hp
    rw [if_pos ha]
    refine .cptr b _ _ (fun k => f' (fo + k)) him (fun k hk => ?_) (fun k q hq => ?_) fun k hk => h4 _ (by simp only [PV.cells, subCells, List.length_take, List.length_drop] at hk; omega)
    · rw [Nat.add_assoc]
      exact h1 _ (by simp only [PV.cells, subCells, List.length_take, List.length_drop] at hk; omega)
    · simp only [PV.cells, subCells, List.getElem?_take, List.getElem?_drop] at hq
      split at hq
      · exact h2 _ q hq
      · cases hq
  · rename_i ha
    have hlt : fo < cs.length := of_decide_eq_true hp
    rw [if_neg ha] at h3 ⊢
    simp only [show df.agg = false by simpa using ha, Bool.false_or] at h3
    have e : cs.getD fo .any = cs[fo] := by simp [hlt]
    simp only [e] at h3 ⊢
    have ec : (cs[fo]).cells = [cs[fo]] := by
      cases hcs : cs[fo] <;> rw [hcs] at h3 <;> first | rfl | simp [PV.one] at h3
    refine .cptr b _ _ (fun k => f' (fo + k)) him (fun k hk => ?_) (fun k q hq => ?_) fun k hk => h4 _ (by rw [ec] at hk; simp only [List.length_singleton] at hk; omega)
    · rw [ec] at hk
      simp only [List.length_singleton] at hk
      rw [Nat.add_assoc]
      exact h1 _ (by omega)
    · rw [ec] at hq
      cases k with
      | zero =>
        simp only [List.getElem?_cons_zero, Option.some.injEq] at hq
        subst hq
        exact h2 _ _ (by simp [hlt])
      | succ k => simp at hq

theorem fieldAddr_ok (hT : TOk P T) {t f : Nat} {x : Value} {p : PV} {c : Bool} {v : PV} (hx : V β H w x p) (h : fieldAddrV T t f p = (c, v)) (hc : c = true) : Gives P β H w (Instr.fieldAt t x f) v := by
  unfold fieldAddrV at h
  split at h
  · exact no_ne h hc
  rename_i fo df hf
  obtain ⟨fs, fd, hu, hfd, rfl, hdf⟩ := fieldOf_ok hT hf
  split at h
  · rename_i i ver off
    simp only [Prod.mk.injEq] at h; obtain ⟨rfl, rfl⟩ := h
    obtain ⟨b, rfl, hl, hlv⟩ := hx.ptr_inv
    exact ⟨_, fun w2 => by simp only [Instr.fieldAt, Sem.run_bind, hu, Result.andThen_ok, hfd, Instr.sureAddr, Sem.run_pure, run_fieldPlace hdf (by simpa using hc)], .ptr b i ver (off + fd.offset) hl hlv⟩
  · rename_i cs
    simp only [Prod.mk.injEq] at h; obtain ⟨rfl, rfl⟩ := h
    simp only [Bool.and_eq_true] at hc
    obtain ⟨b, off, f', rfl, him, h1, h2, h4⟩ := hx.cptr_inv
    exact ⟨_, fun w2 => by simp only [Instr.fieldAt, Sem.run_bind, hu, Result.andThen_ok, hfd, Instr.sureAddr, Sem.run_pure, run_fieldPlace hdf (by simpa using hc.1)],
      cptr_part him h1 h2 h4 hc.2.1 hc.2.2⟩
  · exact no_ne h hc

theorem conv_ok (hT : TOk P T) {s t : Nat} {ds dt : TD} (hs : T s = some ds) (ht : T t = some dt) {x : Value} {p : PV} {c : Bool} {v : PV} (hx : V β H w x p)
    (h : convV ds.k dt.k p = some (c, v)) (hc : c = true) : Gives P β H w (convert s t x) v := by
  obtain ⟨us, hus, hks, hos⟩ := run_underlying' (hT s ds hs)
  obtain ⟨ut, hut, hkt, _⟩ := run_underlying' (hT t dt ht)
  unfold convV at h
  split at h
  · rename_i k k' n e
    simp only [Option.some.injEq, Prod.mk.injEq] at h; obtain ⟨_, rfl⟩ := h
    rw [e] at hkt
    obtain rfl := kOk_int hkt
    obtain rfl := hx.int_inv
    refine ⟨.int k (k.wrap n), fun w2 => ?_, .int ..⟩
    unfold convert
    simp only [Sem.run_bind, hus, hut, Result.andThen_ok]
    cases us <;> rfl
  · rename_i s' e
    simp only [Option.some.injEq, Prod.mk.injEq] at h; obtain ⟨_, rfl⟩ := h
    rw [e] at hkt
    obtain rfl := kOk_str hkt
    obtain rfl := hx.str_inv
    refine ⟨.string s', fun w2 => ?_, .str _⟩
    unfold convert
    simp only [Sem.run_bind, hus, hut, Result.andThen_ok]
    cases us <;> rfl
  · rename_i k n e
    simp only [Option.some.injEq, Prod.mk.injEq] at h; obtain ⟨_, rfl⟩ := h
    rw [e] at hkt
    obtain rfl := kOk_str hkt
    obtain rfl := hx.int_inv
    refine ⟨.string (Utf8.encode n), fun w2 => ?_, .str _⟩
    unfold convert
    simp only [Sem.run_bind, hus, hut, Result.andThen_ok]
    cases us <;> rfl
  · cases h
  · split at h
    · cases h
    · exact no_ne (Option.some.inj h) hc
  · exact no_ne (Option.some.inj h) hc

theorem makeIface_ok (hT : TOk P T) {t : Nat} {x : Value} {p : PV} {c : Bool} {v : PV} (hx : V β H w x p) (h : makeIfaceV T t p = (c, v)) (hc : c = true) : Gives P β H w (Instr.makeInterface t x) v := by
  unfold makeIfaceV at h
  split at h
  · exact no_ne h hc
  rename_i d hd
  obtain ⟨u, hu, hku, ho⟩ := run_underlying' (hT t d hd)
  split at h
  · exact no_ne h hc
  · rename_i hk
    simp only [Prod.mk.injEq] at h; obtain ⟨_, rfl⟩ := h
    refine ⟨.iface t x, fun w2 => ?_, .iface _ _ _ hx⟩
    unfold Instr.makeInterface
    simp only [Sem.run_bind, hu, Result.andThen_ok]
    cases u with
    | interface ms =>
      exfalso
      cases hdk : d.k <;> rw [hdk] at hku hk ho <;> simp only [kOk] at hku
      · exact hk rfl
      · simp [ifaceOf] at ho
    | _ => rfl

theorem zeroLit_ok {ρ : Operand → Value} {g : Operand → PV} (hg : ∀ x, V β H w (ρ x) (g x)) {o : Option Operand} (h : zeroLit (o.map g) = true) : ∃ x k, o = some x ∧ ρ x = .int k 0 := by
  cases o with
  | none => simp [zeroLit] at h
  | some x =>
    have := hg x
    simp only [Option.map_some] at h
    unfold zeroLit at h
    split at h
    · rename_i k n e
      simp only [Option.some.injEq] at e
      rw [e] at this
      have hn : n = 0 := of_decide_eq_true h
      subst hn
      exact ⟨x, k, rfl, this.int_inv⟩
    · cases h

theorem bounds0 {w2 : World} {ρ : Operand → Value} {g : Operand → PV} (hg : ∀ x, V β H w (ρ x) (g x)) {lo hi : Option Operand} {m : Operand}
    (h : (zeroLit (lo.map g) && (zeroLit (hi.map g) && zeroLit (some (g m)))) = true) (b : Bool) (len cap : Nat) :
    (Instr.sliceBounds b len cap (lo.map ρ) (hi.map ρ) ((some m).map ρ)).run P w2 = .ok (0, 0, 0) w2 := by
  simp only [Bool.and_eq_true] at h
  obtain ⟨x, kx, rfl, ex⟩ := zeroLit_ok hg h.1
  obtain ⟨y, ky, rfl, ey⟩ := zeroLit_ok hg h.2.1
  obtain ⟨z, kz, e, ez⟩ := zeroLit_ok (o := some m) hg h.2.2
  cases e
  have hb : ∀ (k : IntKind) (n : Nat) (c : BoundsCode), (Instr.sliceBound (.int k 0) n c).run P w2 = .ok 0 w2 := by
    intro k n c
    unfold Instr.sliceBound asIntOf
    simp
  simp [Instr.sliceBounds, ex, ey, ez, hb]


/-- 's[0:0:0]'. -/
theorem slice_zero {ρ : Operand → Value} {g : Operand → PV} (hg : ∀ x, V β H w (ρ x) (g x)) {t e : Nat} {lo hi : Option Operand} {m : Operand} {d : TD}
    (hu : ∀ w, (underlying t).run P w = .ok (.slice e) w) (he : ∃ n, ∀ w, (sizeOf e).run P w = .ok n w) {a : Option Addr} {len cap : Nat}
    (h : (zeroLit (lo.map g) && (zeroLit (hi.map g) && zeroLit (some (g m)))) = true) :
    Gives P β H w (Instr.sliceAt t (.slice a len cap) (lo.map ρ) (hi.map ρ) ((some m).map ρ)) .empt := by
  obtain ⟨n, hn⟩ := he
  refine ⟨.slice a 0 0, fun w2 => ?_, .empt _⟩
  unfold Instr.sliceAt
  simp only [Sem.run_bind, hu, Result.andThen_ok]
  unfold Instr.slice
  simp only [Sem.run_bind, hu, Result.andThen_ok, bounds0 hg h, hn]
  simp

theorem slice_ok (hT : TOk P T) {ρ : Operand → Value} {g : Operand → PV} (hg : ∀ x, V β H w (ρ x) (g x)) {t : Nat} {x : Operand} {lo hi mx : Option Operand} {c : Bool} {v : PV}
    (h : sliceV T t (g x) (lo.map g) (hi.map g) (mx.map g) = (c, v)) (hc : c = true) (hk : ∀ d, T t = some d → (∀ n e, d.k ≠ .arr n e) ∧ ∀ e, d.k ≠ .ptr e) :
    Gives P β H w (Instr.sliceAt t (ρ x) (lo.map ρ) (hi.map ρ) (mx.map ρ)) v := by
  have hx := hg x
  unfold sliceV at h
  split at h
  · exact no_ne h hc
  rename_i d hd
  obtain ⟨u, hu, hku, _⟩ := run_underlying' (hT t d hd)
  split at h
  · rename_i m hm
    obtain ⟨mo, rfl, rfl⟩ : ∃ mo, mx = some mo ∧ g mo = m := by
      cases mx with
      | none => simp at hm
      | some mo => simp at hm; exact ⟨mo, rfl, hm⟩
    split at h
    · rename_i e hke
      rw [hke] at hku
      obtain rfl := kOk_slice hku
      split at h
      · exact no_ne h hc
      · rename_i de hde
        have key : ∀ (a : Option Addr) (len cap : Nat), ρ x = .slice a len cap → (zeroLit (lo.map g) && (zeroLit (hi.map g) && zeroLit (some (g mo)))) = true →
            Gives P β H w (Instr.sliceAt t (ρ x) (lo.map ρ) (hi.map ρ) ((some mo).map ρ)) .empt := fun a len cap e1 e2 => by
          rw [e1]; exact slice_zero hg (d := de) hu ⟨_, fun w => run_sizeOf' (hT e de hde)⟩ e2
        split at h
        · rename_i hp
          simp only [Prod.mk.injEq] at h; obtain ⟨rfl, rfl⟩ := h
          rw [hp] at hx
          exact key _ _ _ hx.nils_inv hc
        · rename_i hp
          simp only [Prod.mk.injEq] at h; obtain ⟨rfl, rfl⟩ := h
          rw [hp] at hx
          obtain ⟨a, ha⟩ := hx.empt_inv
          exact key _ _ _ ha hc
        · rename_i hp
          simp only [Prod.mk.injEq] at h; obtain ⟨rfl, rfl⟩ := h
          rw [hp] at hx
          obtain ⟨a, cap, ha, _⟩ := hx.sl_inv
          exact key _ _ _ ha hc
        · rename_i hp
          simp only [Prod.mk.injEq] at h; obtain ⟨rfl, rfl⟩ := h
          rw [hp] at hx
          obtain ⟨a, cap, ha, _⟩ := hx.buf_inv
          exact key _ _ _ ha hc
        · exact no_ne h hc
    · exact no_ne h hc
  · rename_i hm
    obtain rfl : mx = none := by cases mx with | none => rfl | some _ => simp at hm
    split at h
    · rename_i s hs
      rw [hs] at hx
      split at h
      · rename_i l' h' hkd hl hh
        rw [hkd] at hku
        obtain rfl := kOk_str hku
        simp only [Prod.mk.injEq] at h; obtain ⟨rfl, rfl⟩ := h
        simp only [Bool.and_eq_true, decide_eq_true_eq] at hc
        refine ⟨_, fun w2 => ?_, .str _⟩
        rw [hx.str_inv]
        unfold Instr.sliceAt
        simp only [Sem.run_bind, hu, Result.andThen_ok]
        unfold Instr.slice
        simp only [Sem.run_bind, hu, Result.andThen_ok, run_bounds hg false s.size s.size (Nat.le_refl _) hl hh hc.1 hc.2.1 hc.2.2, Option.map_none, Option.isSome_none, Bool.false_eq_true, if_false]
        rfl
      · exact no_ne h hc
    · rename_i m xs hs
      rw [hs] at hx
      split at h
      · rename_i e l' h' hkd hl hh
        rw [hkd] at hku
        obtain rfl := kOk_slice hku
        split at h
        · rename_i de hde
          simp only [Prod.mk.injEq] at h; obtain ⟨rfl, rfl⟩ := h
          simp only [Bool.and_eq_true, decide_eq_true_eq] at hc
          obtain ⟨a, cap, hv, hcap, _⟩ := hx.sl_inv
          rw [hv] at hx ⊢
          refine ⟨_, fun w2 => ?_, hx.sl_slice (l := l'.toNat) (h := h'.toNat) (by omega) (by omega)⟩
          unfold Instr.sliceAt
          simp only [Sem.run_bind, hu, Result.andThen_ok]
          unfold Instr.slice
          simp only [Sem.run_bind, hu, Result.andThen_ok, run_bounds hg true xs.length cap hcap hl hh hc.1 hc.2.1 hc.2.2.1, Option.map_none, run_sizeOf' (hT e de hde), hc.2.2.2]
          rfl
        · exact no_ne h hc
      · exact no_ne h hc
    · rename_i i ver off len m tip hs
      rw [hs] at hx
      split at h
      · rename_i e l' h' hkd hl hh
        rw [hkd] at hku
        obtain rfl := kOk_slice hku
        split at h
        · rename_i de hde
          simp only [Prod.mk.injEq] at h; obtain ⟨rfl, rfl⟩ := h
          simp only [Bool.and_eq_true, decide_eq_true_eq] at hc
          obtain ⟨a, cap, hv, hcap, _⟩ := hx.buf_inv
          rw [hv] at hx ⊢
          refine ⟨_, fun w2 => ?_, hx.buf_slice (l := l'.toNat) (h := h'.toNat) (by omega) (by omega) (fun ht => ?_)⟩
          · unfold Instr.sliceAt
            simp only [Sem.run_bind, hu, Result.andThen_ok]
            unfold Instr.slice
            simp only [Sem.run_bind, hu, Result.andThen_ok, run_bounds hg true len cap hcap hl hh hc.1 hc.2.1 hc.2.2.1, Option.map_none, run_sizeOf' (hT e de hde), hc.2.2.2]
            rfl
          · simp only [Bool.and_eq_true] at ht
            refine ⟨ht.1, ?_⟩
            cases lo with
            | some _ => simp at ht
            | none => simp only [Option.map_none, lim, Option.some.injEq] at hl; omega
        · exact no_ne h hc
      · exact no_ne h hc
    · exact no_ne h hc


theorem len_ok (hT : TOk P T) {ρ : Operand → Value} {g : Operand → PV} (hg : ∀ x, V β H w (ρ x) (g x)) {ts : Array TypeId} {ty : TypeId} {args : Array Operand} {c : Bool} {v : PV}
    (h : lenV T ts.toList (args.toList.map g) = (c, v)) (hc : c = true) : Gives P β H w (Builtin.len_ ts ty (args.map ρ)) v := by
  unfold lenV at h
  split at h
  · rename_i t ts' p ps ht hp
    have h0 : ts[0]? = some t := by rw [← Array.getElem?_toList, ht]; rfl
    obtain ⟨o, ho, rfl⟩ : ∃ o, args[0]? = some o ∧ g o = p := by
      rw [← Array.getElem?_toList]
      cases ha : args.toList with
      | nil => rw [ha] at hp; simp at hp
      | cons o l => rw [ha] at hp; simp only [List.map_cons, List.cons.injEq] at hp; exact ⟨o, rfl, hp.1⟩
    have h1 : (args.map ρ)[0]? = some (ρ o) := by simp [ho]
    have hx := hg o
    split at h
    · exact no_ne h hc
    rename_i d hd
    obtain ⟨u, hu, hku, _⟩ := run_underlying' (hT t d hd)
    unfold Builtin.len_
    split at h
    · rename_i s hk hs
      simp only [Prod.mk.injEq] at h; obtain ⟨_, rfl⟩ := h
      rw [hk] at hku; obtain rfl := kOk_str hku
      rw [hs] at hx
      exact ⟨_, fun w2 => by simp only [h0, h1, Sem.run_bind, hu, Result.andThen_ok, hx.str_inv]; rfl, .int ..⟩
    · rename_i e m xs hk hs
      simp only [Prod.mk.injEq] at h; obtain ⟨_, rfl⟩ := h
      rw [hk] at hku; obtain rfl := kOk_slice hku
      rw [hs] at hx
      obtain ⟨a, cap, ha, _⟩ := hx.sl_inv
      exact ⟨_, fun w2 => by simp only [h0, h1, Sem.run_bind, hu, Result.andThen_ok, ha]; rfl, .int ..⟩
    · rename_i e i ver off n m tip hk hs
      simp only [Prod.mk.injEq] at h; obtain ⟨_, rfl⟩ := h
      rw [hk] at hku; obtain rfl := kOk_slice hku
      rw [hs] at hx
      obtain ⟨a, cap, ha, _⟩ := hx.buf_inv
      exact ⟨_, fun w2 => by simp only [h0, h1, Sem.run_bind, hu, Result.andThen_ok, ha]; rfl, .int ..⟩
    · rename_i e hk hs
      simp only [Prod.mk.injEq] at h; obtain ⟨_, rfl⟩ := h
      rw [hk] at hku; obtain rfl := kOk_slice hku
      rw [hs] at hx
      exact ⟨_, fun w2 => by simp only [h0, h1, Sem.run_bind, hu, Result.andThen_ok, hx.nils_inv]; rfl, .int ..⟩
    · rename_i e hk hs
      simp only [Prod.mk.injEq] at h; obtain ⟨_, rfl⟩ := h
      rw [hk] at hku; obtain rfl := kOk_slice hku
      rw [hs] at hx
      obtain ⟨a, ha⟩ := hx.empt_inv
      exact ⟨_, fun w2 => by simp only [h0, h1, Sem.run_bind, hu, Result.andThen_ok, ha]; rfl, .int ..⟩
    · rename_i n e hk
      simp only [Prod.mk.injEq] at h; obtain ⟨_, rfl⟩ := h
      rw [hk] at hku; obtain rfl := kOk_arr hku
      exact ⟨_, fun w2 => by simp only [h0, h1, Sem.run_bind, hu, Result.andThen_ok]; rfl, .int ..⟩
    · exact no_ne h hc
  · exact no_ne h hc

theorem two_args {ρ : Operand → Value} {g : Operand → PV} (hg : ∀ x, V β H w (ρ x) (g x)) {args : Array Operand} {p q : PV} (h : args.toList.map g = [p, q]) :
    ∃ x y, (args.map ρ).toList = [x, y] ∧ V β H w x p ∧ V β H w y q := by
  cases ha : args.toList with
  | nil => rw [ha] at h; simp at h
  | cons a l =>
    rw [ha] at h
    cases l with
    | nil => simp at h
    | cons b l =>
      cases l with
      | nil =>
        simp only [List.map_cons, List.map_nil, List.cons.injEq, and_true] at h
        exact ⟨ρ a, ρ b, by simp [ha], h.1 ▸ hg a, h.2 ▸ hg b⟩
      | cons _ _ => simp at h

theorem min_ok {ρ : Operand → Value} {g : Operand → PV} (hg : ∀ x, V β H w (ρ x) (g x)) {ts : Array TypeId} {ty : TypeId} {args : Array Operand} {c : Bool} {v : PV}
    (h : minV (args.toList.map g) = (c, v)) (hc : c = true) : Gives P β H w (Builtin.min_ ts ty (args.map ρ)) v := by
  unfold minV at h
  split at h
  · rename_i k a k' b hp
    simp only [Prod.mk.injEq] at h; obtain ⟨_, rfl⟩ := h
    obtain ⟨x, y, hl, hx, hy⟩ := two_args hg hp
    obtain rfl := hx.int_inv
    obtain rfl := hy.int_inv
    exact ⟨_, fun w2 => by unfold Builtin.min_; rw [hl]; rfl, .int ..⟩
  · exact no_ne h hc

theorem max_ok {ρ : Operand → Value} {g : Operand → PV} (hg : ∀ x, V β H w (ρ x) (g x)) {ts : Array TypeId} {ty : TypeId} {args : Array Operand} {c : Bool} {v : PV}
    (h : maxV (args.toList.map g) = (c, v)) (hc : c = true) : Gives P β H w (Builtin.max_ ts ty (args.map ρ)) v := by
  unfold maxV at h
  split at h
  · rename_i k a k' b hp
    simp only [Prod.mk.injEq] at h; obtain ⟨_, rfl⟩ := h
    obtain ⟨x, y, hl, hx, hy⟩ := two_args hg hp
    obtain rfl := hx.int_inv
    obtain rfl := hy.int_inv
    exact ⟨_, fun w2 => by unfold Builtin.max_; rw [hl]; rfl, .int ..⟩
  · exact no_ne h hc

theorem run_mapM {α γ : Type} (f : α → Sem γ) (gf : α → γ) (xs : Array α) (h : ∀ x ∈ xs.toList, (f x).run P w = .ok (gf x) w) : (xs.mapM f).run P w = .ok (xs.map gf) w := by
  rw [Array.mapM_eq_mapM_toList, Sem.run_map]
  have key : ∀ l : List α, (∀ x ∈ l, (f x).run P w = .ok (gf x) w) → (l.mapM f).run P w = .ok (l.map gf) w := by
    intro l
    induction l with
    | nil => intro _; rfl
    | cons a l ih =>
      intro hl
      simp only [List.mapM_cons, Sem.run_bind, hl a (by simp), Result.andThen_ok, ih (fun x hx => hl x (by simp [hx]))]
      rfl
  rw [key _ h, Result.andThen_ok, ← Array.toList_map, Array.toArray_toList]

theorem build_ok (hT : TOk P T) {ρ : Operand → Value} {g : Operand → PV} (hg : ∀ x, V β H w (ρ x) (g x)) {t : Nat} {parts : Array (Nat × Operand)} {c : Bool} {v : PV}
    (h : buildV T t (parts.toList.map fun p => (p.1, g p.2)) = (c, v)) (hc : c = true) : Gives P β H w (Instr.build t (parts.map fun (i, x) => (i, ρ x))) v := by
  unfold buildV at h
  split at h
  · exact no_ne h hc
  rename_i d hd
  obtain ⟨z, hz, hzV⟩ := run_zeroValue' (w := w) (β := β) (H := H) (hT t d hd)
  obtain ⟨u, hu, hku, _⟩ := run_underlying' (hT t d hd)
  have hrel : ∀ (i : Nat) (x : Nat × Value) (y : Nat × PV), (parts.map fun (i, x) => (i, ρ x)).toList[i]? = some x → (parts.toList.map fun p => (p.1, g p.2))[i]? = some y → x.1 = y.1 ∧ V β H w x.2 y.2 := by
    intro i x y hx hy
    simp only [Array.toList_map, List.getElem?_map, Array.getElem?_toList] at hx hy
    cases ho : parts[i]? with
    | none => rw [ho] at hx; cases hx
    | some o =>
      rw [ho] at hx hy
      simp only [Option.map_some, Option.some.injEq] at hx hy
      subst hx; subst hy
      exact ⟨rfl, hg _⟩
  split at h
  · rename_i cs hzero
    rw [hzero] at hzV
    obtain ⟨vs, rfl, hs, hv⟩ := hzV.agg_inv
    split at h
    · rename_i fl hk
      rw [hk] at hku
      obtain ⟨fds, rfl, hfl⟩ := kOk_struct hku
      split at h
      · rename_i hall
        have hsz : ∀ f ∈ fds.toList, ∃ df, T f.type = some df := fun f hf => by
          have := List.all_eq_true.mp hall (f.offset, f.type) (by rw [hfl]; exact List.mem_map.2 ⟨f, hf, rfl⟩)
          exact Option.isSome_iff_exists.mp this
        obtain ⟨r, hr, hV⟩ := fill_ok _ _ _ vs cs (by simp) hrel hs hv h hc
        refine ⟨.agg r, fun w2 => ?_, hV⟩
        unfold Instr.build
        have hm : (fds.mapM fun f => (do pure (f.offset, ← sizeOf f.type) : Sem (Nat × Nat))).run P w2 = .ok (fds.map fun f => (f.offset, ((T f.type).map (·.size)).getD 0)) w2 := by
          refine run_mapM _ _ fds fun f hf => ?_
          obtain ⟨df, hdf⟩ := hsz f hf
          simp only [Sem.run_bind, run_sizeOf' (hT _ df hdf), Result.andThen_ok, hdf, Option.map_some, Option.getD_some]
          rfl
        simp only [Sem.run_bind, hz, hu, Result.andThen_ok, Value.cells, hm]
        have hpl : (fun x => (fds.map fun f => (f.offset, ((T f.type).map (·.size)).getD 0))[x]?) = fun i => (fieldOf T t i).map fun x => (x.1, x.2.size) := by
          funext i
          unfold fieldOf
          simp only [hd, hk, hfl, List.getElem?_map, Array.getElem?_map, Array.getElem?_toList]
          cases hi : fds[i]? with
          | none => rfl
          | some f =>
            obtain ⟨df, hdf⟩ := hsz f (by
              have := Array.mem_of_getElem? hi
              simpa using this)
            simp [hdf]
        rw [hpl, hr]
        rfl
      · exact no_ne h hc
    · rename_i n e hk
      rw [hk] at hku
      obtain rfl := kOk_arr hku
      split at h
      · rename_i de hde
        obtain ⟨r, hr, hV⟩ := fill_ok _ _ _ vs cs (by simp) hrel hs hv h hc
        refine ⟨.agg r, fun w2 => ?_, hV⟩
        unfold Instr.build
        simp only [Sem.run_bind, hz, hu, Result.andThen_ok, run_sizeOf' (hT e de hde), Value.cells, hr]
        rfl
      · exact no_ne h hc
    · exact no_ne h hc
  · exact no_ne h hc


theorem arrayAt_ok (hT : TOk P T) {t : Nat} {x : Value} {p : PV} {c : Bool} {v : PV} (hx : V β H w x p) (h : arrayAtV T t p = (c, v)) (hc : c = true) : Gives P β H w (Instr.arrayAt t x) v := by
  unfold arrayAtV at h
  split at h
  · rename_i d hd
    obtain ⟨u, hu, hku, _⟩ := run_underlying' (hT t d hd)
    split at h
    · rename_i n e i ver off len m tip hk
      simp only [Prod.mk.injEq] at h
      obtain ⟨h1, rfl⟩ := h
      rw [hc] at h1
      simp only [Bool.and_eq_true, decide_eq_true_eq, Bool.not_eq_true', decide_eq_false_iff_not] at h1
      rw [hk] at hku; obtain rfl := kOk_arr hku
      obtain ⟨a, cap, rfl, hlc, ha, hi, hl⟩ := hx.buf_inv
      obtain ⟨b, rfl⟩ := ha h1.2
      refine ⟨.pointer (some ⟨b, off, none⟩), fun w2 => ?_, .ptr b i ver off hi fun hlv => ?_⟩
      · simp only [Instr.arrayAt, Sem.run_bind, hu, Result.andThen_ok]
        rw [if_neg (by omega)]
        rfl
      · obtain ⟨hn, hs⟩ := hl hlv
        cases hb : β i with
        | none => have := (hn hb).1; omega
        | some b' =>
          rcases hs b' hb with ⟨h0, _⟩ | ⟨he, _⟩
          · exact absurd h0 h1.2
          · cases he; rfl
    · exact no_ne h hc
  · exact no_ne h hc

theorem yes_gives {ρ : Operand → Value} {o : Oper} {v : PV} {s : Sem Value} (e : execOp ρ o = (do pure (.value (← s)))) (h : Gives P β H w s v) : Yes P ρ o β H w v := yes_of e h

theorem pure_ok (hT : TOk P T) {ρ : Operand → Value} {g : Operand → PV} (hg : ∀ x, V β H w (ρ x) (g x)) {o : Oper} {c : Bool} {v : PV}
    (h : pureOp T g o.op = some (c, v)) (hc : c = true) : Yes P ρ o β H w v := by
  obtain ⟨dst, op, ty, pos, after, guard⟩ := o
  cases op <;> simp only [pureOp, Option.some.injEq] at h <;> try (cases h; done)
  case move x => simp only [Prod.mk.injEq] at h; obtain ⟨_, rfl⟩ := h; exact ⟨ρ x, fun _ => rfl, hg x⟩
  case assign x => simp only [Prod.mk.injEq] at h; obtain ⟨_, rfl⟩ := h; exact ⟨ρ x, fun _ => rfl, hg x⟩
  case pick c' a b =>
    have hcv := hg c'
    unfold pickV at h
    split at h
    · rename_i e
      simp only [Prod.mk.injEq] at h; obtain ⟨_, rfl⟩ := h
      rw [e] at hcv
      exact ⟨ρ a, fun w2 => by simp only [execOp, hcv.bool_inv, asBool]; rfl, hg a⟩
    · rename_i e
      simp only [Prod.mk.injEq] at h; obtain ⟨_, rfl⟩ := h
      rw [e] at hcv
      exact ⟨ρ b, fun w2 => by simp only [execOp, hcv.bool_inv, asBool]; rfl, hg b⟩
    · exact no_ne h hc
  case binOp op t x y yt => exact yes_of rfl (binV_ok hT op t x y (hg x) (hg y) h hc)
  case unOp op t x => exact yes_gives rfl (un_ok (hg x) h hc)
  case nilCheck x =>
    have hx := hg x
    unfold nilCheckV at h
    split at h
    · rename_i e
      simp only [Prod.mk.injEq] at h; obtain ⟨_, rfl⟩ := h
      rw [e] at hx
      obtain ⟨b, hb, _⟩ := hx.ptr_inv
      exact ⟨ρ x, fun w2 => by simp only [execOp, hb]; rfl, hx⟩
    · rename_i e
      simp only [Prod.mk.injEq] at h; obtain ⟨_, rfl⟩ := h
      rw [e] at hx
      obtain ⟨b, off, f, hb, _⟩ := hx.cptr_inv
      exact ⟨ρ x, fun w2 => by simp only [execOp, hb]; rfl, hx⟩
    · exact no_ne h hc
  case convert s d x =>
    split at h
    · rename_i ds dd hs hd
      exact yes_gives rfl (conv_ok hT hs hd (hg x) h hc)
    · exact no_ne (Option.some.inj h) hc
  case index t x i => exact yes_gives rfl (index_ok hT (hg x) (hg i) h hc)
  case extract x i => exact yes_gives rfl (extract_ok (hg x) h hc)
  case field t x f => exact yes_gives rfl (field_ok hT (hg x) h hc)
  case fieldAddr t x f => exact yes_gives rfl (fieldAddr_ok hT (hg x) h hc)
  case indexAddr t x i => exact yes_gives rfl (elemAddr_ok hT (hg x) (hg i) h hc)
  case build t parts => exact yes_gives rfl (build_ok hT hg h hc)
  case makeFunc fn a b =>
    simp only [Prod.mk.injEq] at h; obtain ⟨_, rfl⟩ := h
    obtain ⟨h1, h2⟩ := map_args hg a
    obtain ⟨h3, h4⟩ := map_args hg b
    exact yes_gives (s := Instr.makeFunc fn (a.map ρ) (b.map ρ)) rfl ⟨_, fun _ => rfl, .func _ _ _ _ _ h1 h3 h2 h4⟩
  case makeInterface t x => exact yes_gives rfl (makeIface_ok hT (hg x) h hc)
  case sliceToArrayPointer t x => exact yes_gives (s := Instr.arrayAt t (ρ x)) rfl (arrayAt_ok hT (hg x) h hc)
  case slice t x lo hi mx =>
    split at h
    · exact no_ne (Option.some.inj h) hc
    · rename_i d hd
      split at h
      · cases h
      · cases h
      · rename_i h1 h2
        exact yes_gives rfl (slice_ok hT hg (Option.some.inj h) hc fun d' hd' => by
          rw [hd] at hd'; cases hd'; exact ⟨h1, h2⟩)
  case call cl =>
    obtain ⟨callee, args, ts⟩ := cl
    simp only at h
    split at h
    · exact yes_gives (s := Builtin.len_ ts ty (args.map ρ)) rfl (len_ok hT hg (Option.some.inj h) hc)
    · exact yes_gives (s := Builtin.min_ ts ty (args.map ρ)) rfl (min_ok hg (Option.some.inj h) hc)
    · exact yes_gives (s := Builtin.max_ ts ty (args.map ρ)) rfl (max_ok hg (Option.some.inj h) hc)
    · cases h

end Go.Proofs.SL
