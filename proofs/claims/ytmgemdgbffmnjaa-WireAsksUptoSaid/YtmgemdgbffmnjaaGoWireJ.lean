/-
  What the functions compute: the document's example; the first twelve bytes. No claim by itself.
-/
import Derived.Test.YtmgemdgbffmnjaaGoWireG
import Derived.Test.YtmgemdgbffmnjaaGoWireI
namespace Go.Proofs.GoC
open Go Go.Proofs.SL
set_option linter.unusedSimpArgs false
set_option linter.unusedVariables false
set_option maxRecDepth 10000
set_option maxHeartbeats 4000000

theorem write_no (m : Ms) (hm : MsOk m) (hmay : mayM m = false) : PCall Try.prog 13 [msV m] (.tup [.nils, .int .i64 1]) := by
  intro H
  have hMay := c_wire_May m hm
  rw [hmay] at hMay
  refine scall_of (ord := fun _ => []) (rs := [2, 3]) Try.func13 rfl (by kernel_rfl) (by kernel_rfl) (by kernel_rfl) Try.ntmps13 fun hb hargs => go 200 (fun _ => false) mixed ?_
  simp (disch := omega) only [↓reduceIte, go_sem, msV, msC] <;> repeat with_reducible refine And.intro (by first | omega | decide) ?_
  refine hMay.on (go 200 (fun _ => false) mixed ?_)
  simp (disch := omega) only [↓reduceIte, go_sem] <;> repeat with_reducible refine And.intro (by first | omega | decide) ?_
  exact fin_drop (.inr rfl) hb rfl (by simp)

/-! Lists that are nil, as empty ones. -/
def fixM : PV → PV
  | .agg [a, b, c, d, e, f] => .agg [a, b, noNil 3 c, noNil 23 d, noNil 23 e, noNil 23 f]
  | p => p
theorem V.fixM {β : Nat → Option Nat} {H : Heap} {w : World} {v : Value} {p : PV} (h : V β H w v p) : V β H w v (fixM p) := by
  cases h with
  | agg vs ps hs h =>
    match ps, hs, h with
    | [a, b, c, d, e, f], hs, h =>
      refine .agg vs _ hs fun i v p h1 h2 => ?_
      match i, h2 with
      | 0, h2 => exact h 0 v p h1 h2
      | 1, h2 => exact h 1 v p h1 h2
      | 2, h2 => cases h2; exact (h 2 v c h1 rfl).noNil 3
      | 3, h2 => cases h2; exact (h 3 v d h1 rfl).noNil 23
      | 4, h2 => cases h2; exact (h 4 v e h1 rfl).noNil 23
      | 5, h2 => cases h2; exact (h 5 v f h1 rfl).noNil 23
      | i + 6, h2 => simp at h2
    | [], hs, h => exact .agg vs _ hs h
    | [_], hs, h => exact .agg vs _ hs h
    | [_, _], hs, h => exact .agg vs _ hs h
    | [_, _, _], hs, h => exact .agg vs _ hs h
    | [_, _, _, _], hs, h => exact .agg vs _ hs h
    | [_, _, _, _, _], hs, h => exact .agg vs _ hs h
    | _ :: _ :: _ :: _ :: _ :: _ :: _ :: _, hs, h => exact .agg vs _ hs h
  | _ => first | exact h | (constructor <;> assumption)
theorem PCall.fixM {P : Program} {f : FuncId} {args : List PV} {r : PV} (h : PCall P f args r) : PCall P f args (fixM r) := fun H =>
  SCall.mono (SCall.res (g := GoC.fixM) (fun _ _ _ _ _ h => V.fixM h) (h H)) fun r' H' ⟨r0, h1, h2, h3⟩ => ⟨by rw [h1, h2], h3⟩

def askM (id : Int) (name : List UInt8) (kind : Int) : Ms := ⟨id, 256, [⟨name, kind, 1⟩], [], [], []⟩
theorem c_wire_Ask (id : Int) (name : List UInt8) (kind : Int) : PCall Try.prog 18 [.int .i64 id, .str (bs name), .int .i64 kind] (msV (askM id name kind)) := by
  have key : PCall Try.prog 18 [.int .i64 id, .str (bs name), .int .i64 kind] (.agg [.int .i64 id, .int .i64 256, .sl 3 [quV ⟨name, kind, 1⟩], .nils, .nils, .nils]) := by
    intro H
    refine scall_ofc (ord := fun _ => []) (tdOf_ok _) (rs := [.cell 6 25]) Try.func18 rfl (by kernel_rfl) (by kernel_rfl) (by kernel_rfl) Try.ntmps18 fun hb hargs => go 200 (fun _ => false) mixed ?_
    simp (disch := omega) only [↓reduceIte, go_sem] <;> repeat with_reducible refine And.intro (by first | omega | decide) ?_
    exact fin_c (.inr rfl) hb (by (simp (disch := omega) only [↓reduceIte, go_sem] <;> repeat with_reducible refine And.intro (by first | omega | decide) ?_) <;> rfl) (by simp [quV, quC])
  exact PCall.fixM key

theorem ask_bytes : bytesM (askM 1 [97] 1) = some [0, 1, 1, 0, 0, 1, 0, 0, 0, 0, 0, 0, 1, 97, 0, 0, 1, 0, 1] := by decide +kernel
theorem ask_may : mayM (askM 1 [97] 1) = true := by decide +kernel
theorem c_abatislaw09_lives : GCall 9 [] (.bool true) := by
  intro H hG
  have hA := c_wire_Ask 1 [97] 1
  have hW := c_wire_Write (askM 1 [97] 1) (by simp [MsOk, askM, I64, QuOk]) (by decide) (by decide) (by decide) (by decide) ask_may hG
  rw [ask_bytes] at hW
  have hS := c_abatisref08_SameBytes [0, 1, 1, 0, 0, 1, 0, 0, 0, 0, 0, 0, 1, 97, 0, 0, 1, 0, 1] [0, 1, 1, 0, 0, 1, 0, 0, 0, 0, 0, 0, 1, 97, 0, 0, 1, 0, 1]
  rw [decide_eq_true rfl] at hS
  refine scall_of (ord := fun _ => []) (rs := [0]) Try.func9 rfl (by kernel_rfl) (by kernel_rfl) (by kernel_rfl) Try.ntmps9 fun hb hargs => go 200 (fun _ => false) mixed ?_
  simp (disch := omega) only [↓reduceIte, go_sem] <;> repeat with_reducible refine And.intro (by first | omega | decide) ?_
  refine hA.on (go 200 (fun _ => false) mixed ?_)
  simp (disch := omega) only [↓reduceIte, go_sem] <;> repeat with_reducible refine And.intro (by first | omega | decide) ?_
  refine hW.mono fun r H' ⟨e1, e2⟩ => ?_
  rw [e1, e2]
  refine go 200 (fun _ => false) mixed ?_
  simp (disch := omega) only [↓reduceIte, go_sem] <;> repeat with_reducible refine And.intro (by first | omega | decide) ?_
  refine hS.on (go 200 (fun _ => false) mixed ?_)
  simp (disch := omega) only [↓reduceIte, go_sem] <;> repeat with_reducible refine And.intro (by first | omega | decide) ?_
  exact fin rfl rfl

/-! What was written stays ahead. -/
theorem recP_ext (r : Rc) (s : WSt) : ∃ X hn, (recP r s).1 = s.1 ++ X ∧ (recP r s).2.2 = s.2.2 ++ hn ∧ ∀ e ∈ hn, s.1.length ≤ e.1 := by
  obtain ⟨X1, es1, _, h1⟩ := wrN_ext _ r.name s.1 s.2.1 rfl
  have h1 := h1 s.1 rfl
  unfold recP hdR
  rw [h1]
  split
  · obtain ⟨X2, es2, _, h2⟩ := wrN_ext _ r.tgt (s.1 ++ X1 ++ twos [r.ty.toNat, r.cl.toNat, r.ttl.toNat / 65536, r.ttl.toNat] ++ twos [0]) es1 rfl
    have h2 := h2 _ rfl
    refine ⟨X1 ++ twos [r.ty.toNat, r.cl.toNat, r.ttl.toNat / 65536, r.ttl.toNat] ++ twos [0] ++ X2, _, ?_, rfl, fun e he => ?_⟩
    · show (wrN r.tgt (s.1 ++ X1 ++ twos [r.ty.toNat, r.cl.toNat, r.ttl.toNat / 65536, r.ttl.toNat] ++ twos [0]) es1).1 = _
      rw [h2]; simp only [List.append_assoc]
    · simp only [List.mem_singleton] at he
      subst he
      simp only [List.length_append]; omega
  · exact ⟨X1 ++ twos [r.ty.toNat, r.cl.toNat, r.ttl.toNat / 65536, r.ttl.toNat] ++ datR r, [], by simp only [List.append_assoc], by simp, by simp⟩
theorem recsP_ext : ∀ (l : List Rc) (s s' : WSt), recsP l s = some s' → ∃ X hn, s'.1 = s.1 ++ X ∧ s'.2.2 = s.2.2 ++ hn ∧ ∀ e ∈ hn, s.1.length ≤ e.1
  | [], s, s', h => by cases h; exact ⟨[], [], by simp, by simp, by simp⟩
  | r :: l, s, s', h => by
    rw [recsP] at h
    split at h
    · cases h
    · obtain ⟨X1, h1, a1, a2, a3⟩ := recP_ext r s
      obtain ⟨X2, h2, b1, b2, b3⟩ := recsP_ext l _ _ h
      refine ⟨X1 ++ X2, h1 ++ h2, by rw [b1, a1, List.append_assoc], by rw [b2, a2, List.append_assoc], fun e he => ?_⟩
      rcases List.mem_append.mp he with he | he
      · exact a3 e he
      · have := b3 e he
        rw [a1, List.length_append] at this; omega
theorem queP_ext (q : Qu) (s : List UInt8 × Names) : ∃ X, (queP q s).1 = s.1 ++ X := by
  obtain ⟨X1, es1, _, h1⟩ := wrN_ext _ q.name s.1 s.2 rfl
  unfold queP
  rw [h1 s.1 rfl]
  exact ⟨X1 ++ twos [q.ty.toNat, q.cl.toNat], by simp only [List.append_assoc]⟩
theorem quesP_ext : ∀ (l : List Qu) (s : List UInt8 × Names), ∃ X, (quesP l s).1 = s.1 ++ X
  | [], s => ⟨[], by simp [quesP]⟩
  | q :: l, s => by
    obtain ⟨X1, h1⟩ := queP_ext q s
    obtain ⟨X2, h2⟩ := quesP_ext l (queP q s)
    exact ⟨X1 ++ X2, by rw [quesP, h2, h1, List.append_assoc]⟩
theorem fillP_take : ∀ (hs : Holes) (B : List UInt8) (n : Nat), (∀ e ∈ hs, n ≤ e.1) → (fillP hs B).take n = B.take n
  | [], _, _, _ => rfl
  | e :: l, B, n, h => by
    rw [fillP, fillP_take l _ n fun x hx => h x (List.mem_cons_of_mem _ hx), fill1]
    have := h e (by simp)
    rw [List.take_set_of_le (by omega), List.take_set_of_le (by omega)]
theorem bytesM_head {m : Ms} {b : List UInt8} (h : bytesM m = some b) : b.take 12 = headM m ∧ 12 ≤ b.length ∧ b.length ≤ 1232 := by
  unfold bytesM at h
  split at h
  · cases h
  · rename_i s hs
    split at h
    · cases h
    · rename_i hl
      cases h
      unfold writeM at hs
      obtain ⟨X, hn, a1, a2, a3⟩ := recsP_ext _ _ _ hs
      obtain ⟨Y, hY⟩ := quesP_ext m.qs (headM m, [])
      have hst : (startM m).1 = headM m ++ Y := hY
      have h12 : (headM m).length = 12 := by simp [headM, twos_len]
      refine ⟨?_, ?_, ?_⟩
      · rw [fillP_take]
        · rw [a1, hst, List.append_assoc, List.take_append_of_le_length (by omega), List.take_of_length_le (by omega)]
        · intro e he
          rw [a2] at he
          have : e ∈ hn := by simpa [startM] using he
          have := a3 e this
          rw [hst, List.length_append] at this; omega
      · rw [fillP_len, a1, hst, List.length_append, List.length_append]; omega
      · rw [fillP_len]; omega
theorem twos_at : ∀ (l : List Nat) (k : Nat), k < l.length → (∀ n ∈ l, n ≤ 65535) → ((twos l).getD (2 * k) 0).toNat * 256 + ((twos l).getD (2 * k + 1) 0).toNat = l.getD k 0
  | [], k, h, _ => by simp at h
  | a :: l, 0, _, hn => by
    have := hn a (by simp)
    simp only [twos, List.flatMap_cons, two2, List.cons_append, Nat.mul_zero, List.getD_cons_zero, Nat.zero_add, List.getD_cons_succ, UInt8.toNat_ofNat']
    omega
  | a :: l, k + 1, h, hn => by
    have ih := twos_at l k (by simpa using h) fun n hm => hn n (List.mem_cons_of_mem _ hm)
    rw [show 2 * (k + 1) + 1 = 2 * k + 1 + 1 + 1 by omega, show 2 * (k + 1) = 2 * k + 1 + 1 by omega]
    simpa only [twos, List.flatMap_cons, two2, List.cons_append, List.nil_append, List.getD_cons_succ] using ih

/-! A message that was made such as may be. -/
theorem goodRc_ok {r : Rc} (hr : RcOk r) : RcOk (goodRc r) ∧ mayR (goodRc r) = true := by
  obtain ⟨hty, hcl, httl, hfam, hab, hle, hname, htgt, hdat⟩ := hr
  have e1 := Int.emod_nonneg r.cl (show (65536 : Int) ≠ 0 by decide)
  have e2 := Int.emod_lt_of_pos r.cl (show (0 : Int) < 65536 by decide)
  have e3 := Int.emod_nonneg r.ttl (show (2147483648 : Int) ≠ 0 by decide)
  have e4 := Int.emod_lt_of_pos r.ttl (show (0 : Int) < 2147483648 by decide)
  have n1 := good_may r.name
  have n2 := good_may r.tgt
  have l1 := may_len n1
  have l2 := may_len n2
  have hab2 := goodRc_ab hab
  have w1 : ∀ ty n : Int, 0 ≤ ty → ty ≤ 65535 → 0 ≤ n → n ≤ 65535 → inAll 65535 [ty, r.cl % 65536, n] = true := fun ty n h1 h2 h3 h4 => by
    rw [inAll_iff]
    intro x hx
    simp only [List.mem_cons, List.not_mem_nil, or_false] at hx
    omega
  have w2 : inAll 2147483647 [r.ttl % 2147483648] = true := by
    rw [inAll_iff]
    intro x hx
    simp only [List.mem_cons, List.not_mem_nil, or_false] at hx
    omega
  have h4 : ∀ b ∈ r.ab.take 4 ++ z12, b ≤ 255 := fun b hb => by
    rcases List.mem_append.mp hb with h | h
    · exact hle b (List.mem_of_mem_take h)
    · simp only [z12, List.mem_cons, List.not_mem_nil, or_false] at h; omega
  have h6 : ∀ b ∈ (if r.fam.tmod 2 = 0 then pre12 ++ r.ab.take 4 else r.ab), b ≤ 255 := fun b hb => by
    split at hb
    · rcases List.mem_append.mp hb with h | h
      · simp only [pre12, List.mem_cons, List.not_mem_nil, or_false] at h; omega
      · exact hle b (List.mem_of_mem_take h)
    · exact hle b hb
  have z0 : ∀ b ∈ z16, b ≤ 255 := fun b hb => by simp only [z16, List.mem_cons, List.not_mem_nil, or_false] at hb; omega
  have h44 : (r.ab.take 4 ++ z12).take 4 = r.ab.take 4 := by rw [List.take_append_of_le_length (by rw [List.length_take]; omega), List.take_take]; rfl
  have ic : I64 (r.cl % 65536) := ⟨by omega, by omega⟩
  have it : I64 (r.ttl % 2147483648) := ⟨by omega, by omega⟩
  have i1 : I64 1 := ⟨by decide, by decide⟩
  have i28 : I64 28 := ⟨by decide, by decide⟩
  have i5 : I64 5 := ⟨by decide, by decide⟩
  have i41 : I64 41 := ⟨by decide, by decide⟩
  have i4 : I64 4 := ⟨by decide, by decide⟩
  have i6 : I64 6 := ⟨by decide, by decide⟩
  have i0 : I64 0 := ⟨by decide, by decide⟩
  have zl : ([] : List UInt8).length < 1100000 := by decide
  unfold goodRc at hab2 ⊢
  split
  · rename_i t0
    rw [if_pos t0] at hab2
    refine ⟨⟨(by first | exact i1 | exact i28 | exact i5 | exact i41 | exact i4 | exact i6 | exact i0), ic, it, (by first | exact i1 | exact i28 | exact i5 | exact i41 | exact i4 | exact i6 | exact i0), hab2, h4, by show (goodN r.name).length < _; omega, zl, zl⟩, ?_⟩
    simp only [mayR, n1, w1 1 0 (by decide) (by decide) (by decide) (by decide), w2, List.length_nil, Int.natCast_zero, Bool.true_and, if_true, mayA]
    simp [h44]
  · rename_i t0
    rw [if_neg t0] at hab2
    split
    · rename_i t1
      rw [if_pos t1] at hab2
      refine ⟨⟨(by first | exact i1 | exact i28 | exact i5 | exact i41 | exact i4 | exact i6 | exact i0), ic, it, (by first | exact i1 | exact i28 | exact i5 | exact i41 | exact i4 | exact i6 | exact i0), hab2, h6, by show (goodN r.name).length < _; omega, zl, zl⟩, ?_⟩
      simp only [mayR, n1, w1 28 0 (by decide) (by decide) (by decide) (by decide), w2, List.length_nil, Int.natCast_zero, Bool.true_and, mayA]
      simp
    · split
      · refine ⟨⟨(by first | exact i1 | exact i28 | exact i5 | exact i41 | exact i4 | exact i6 | exact i0), ic, it, (by first | exact i1 | exact i28 | exact i5 | exact i41 | exact i4 | exact i6 | exact i0), rfl, z0, by show (goodN r.name).length < _; omega, by show (goodN r.tgt).length < _; omega, zl⟩, ?_⟩
        simp only [mayR, n1, n2, w1 5 0 (by decide) (by decide) (by decide) (by decide), w2, List.length_nil, Int.natCast_zero, Bool.true_and, addr0]
        simp
      · have hd : (r.dat.take 20).length ≤ 20 := by rw [List.length_take]; omega
        refine ⟨⟨(by first | exact i1 | exact i28 | exact i5 | exact i41 | exact i4 | exact i6 | exact i0), ic, it, (by first | exact i1 | exact i28 | exact i5 | exact i41 | exact i4 | exact i6 | exact i0), rfl, z0, by show (goodN r.name).length < _; omega, zl, by show (r.dat.take 20).length < _; omega⟩, ?_⟩
        simp only [mayR, n1, w1 41 ((r.dat.take 20).length : Nat) (by decide) (by decide) (by omega) (by omega), w2, Bool.true_and, addr0]
        simp
theorem goodMs_ok {m : Ms} (hm : MsOk m) : MsOk (goodMs m) ∧ mayM (goodMs m) = true ∧ (goodMs m).qs.length ≤ 3 ∧ (goodMs m).an.length ≤ 3 ∧ (goodMs m).au.length ≤ 3 ∧ (goodMs m).mo.length ≤ 3 := by
  obtain ⟨hid, hfl, hq, h1, h2, h3, l0, l1, l2, l3⟩ := hm
  have e1 := Int.emod_nonneg m.id (show (65536 : Int) ≠ 0 by decide)
  have e2 := Int.emod_lt_of_pos m.id (show (0 : Int) < 65536 by decide)
  have e3 := Int.emod_nonneg m.fl (show (65536 : Int) ≠ 0 by decide)
  have e4 := Int.emod_lt_of_pos m.fl (show (0 : Int) < 65536 by decide)
  have hr : ∀ l : List Rc, (∀ r ∈ l, RcOk r) → (∀ r ∈ goodRcs l, RcOk r ∧ mayR r = true) ∧ (goodRcs l).length ≤ 3 := fun l hl => ⟨fun r hr => by
    obtain ⟨x, hx, rfl⟩ := List.mem_map.mp hr
    exact goodRc_ok (hl x (List.mem_of_mem_take hx)), by unfold goodRcs; rw [List.length_map, List.length_take]; omega⟩
  have hqs : ∀ q ∈ (goodMs m).qs, QuOk q ∧ mayQ q = true := fun q h => by
    obtain ⟨x, hx, rfl⟩ := List.mem_map.mp h
    have f1 := Int.emod_nonneg x.ty (show (65536 : Int) ≠ 0 by decide)
    have f2 := Int.emod_lt_of_pos x.ty (show (0 : Int) < 65536 by decide)
    have f3 := Int.emod_nonneg x.cl (show (65536 : Int) ≠ 0 by decide)
    have f4 := Int.emod_lt_of_pos x.cl (show (0 : Int) < 65536 by decide)
    have n1 := good_may x.name
    have l1 := may_len n1
    refine ⟨⟨(⟨by omega, by omega⟩ : I64 (x.ty % 65536)), (⟨by omega, by omega⟩ : I64 (x.cl % 65536)), by show (goodN x.name).length < _; omega⟩, ?_⟩
    unfold mayQ goodQu
    rw [n1, Bool.true_and, inAll_iff]
    intro y hy
    simp only [List.mem_cons, List.not_mem_nil, or_false] at hy
    omega
  have hql : (goodMs m).qs.length ≤ 3 := by
    show ((m.qs.take 3).map goodQu).length ≤ 3
    rw [List.length_map, List.length_take]; omega
  obtain ⟨a1, b1⟩ := hr m.an h1
  obtain ⟨a2, b2⟩ := hr m.au h2
  obtain ⟨a3, b3⟩ := hr m.mo h3
  refine ⟨⟨(⟨by omega, by omega⟩ : I64 (m.id % 65536)), (⟨by omega, by omega⟩ : I64 (m.fl % 65536)), fun q h => (hqs q h).1, fun r h => (a1 r h).1, fun r h => (a2 r h).1, fun r h => (a3 r h).1, by omega, by show (goodRcs m.an).length < _; omega, by show (goodRcs m.au).length < _; omega, by show (goodRcs m.mo).length < _; omega⟩, ?_, hql, b1, b2, b3⟩
  unfold mayM
  simp only [Bool.and_eq_true, List.all_eq_true]
  refine ⟨fun r h => (a1 r h).2, fun r h => (a2 r h).2, fun r h => (a3 r h).2, ?_, fun q h => (hqs q h).2⟩
  rw [inAll_iff]
  intro x hx
  simp only [goodMs, List.mem_cons, List.not_mem_nil, or_false] at hx
  omega
end Go.Proofs.GoC
