/-
  What the functions compute: which grant is let go. No claim by itself.
-/
import Derived.Test.YtjjkidldccebjaaGoGrantP
import Derived.Test.YtjjkidldccebjaaGoGrantL
namespace Go.Proofs.GoC
open Go Go.Proofs.SL
set_option linter.unusedSimpArgs false
set_option linter.unusedVariables false
set_option maxRecDepth 10000
set_option maxHeartbeats 4000000

theorem flatW_len {d : List GKey} (h : ∀ k ∈ d, KeyOk k) : (flat (ksW d)).length = d.length * 24 := (flat_length (m := 24) fun x hx => by
  obtain ⟨q, hq, rfl⟩ := List.mem_map.mp hx
  exact keyC_len (h q hq)).trans (by simp [ksW])
theorem flatW_at {d : List GKey} (h : ∀ k ∈ d, KeyOk k) {i : Nat} (hi : i < d.length) : List.take 24 (List.drop (i * 24) (flat (ksW d))) = keyC (d.getD i key0) := by
  have e1 : d.getD i key0 = d[i] := by simp [List.getD_eq_getElem?_getD, hi]
  have e : d = d.take i ++ d[i] :: d.drop (i + 1) := by rw [← List.drop_eq_getElem_cons hi, List.take_append_drop]
  have hk : KeyOk d[i] := h _ (List.getElem_mem hi)
  have ht : ∀ k ∈ d.take i, KeyOk k := fun k hk => h k (List.mem_of_mem_take hk)
  have hl := flatW_len ht
  rw [List.length_take, Nat.min_eq_left (by omega)] at hl
  rw [e1]
  generalize d[i] = x at *
  rw [e]
  have ef : flat (ksW (d.take i ++ x :: d.drop (i + 1))) = flat (ksW (d.take i)) ++ (keyC x ++ flat (ksW (d.drop (i + 1)))) := by simp [ksW, flat, keyV, PV.cells]
  rw [ef, List.drop_append_of_le_length (by omega), List.drop_eq_nil_of_le (by omega), List.nil_append, List.take_append_of_le_length (by rw [keyC_len hk]; omega), keyC_take hk]

theorem c_slices_MinFunc_grant_Key_grant_Key {H : Heap} {ob ver : Nat} {d : List GKey} (hd : ∀ k ∈ d, KeyOk k) (h0 : 0 < d.length) (hl : d.length < 1000000) (ho : H[ob]? = some (some (.cells ver (flat (ksW d)))))
    (f : Nat) (caps : List PV) (c : GKey → GKey → Int)
    (hcall : ∀ L x y, KeyOk x → KeyOk y → SCall Try.prog f ([] ++ [.agg (keyC x), .agg (keyC y)] ++ caps) (H ++ L) fun r H' => r = .int .i64 (c x y) ∧ H' = H ++ L) :
    SCall Try.prog 44 [.buf ob ver 0 d.length 24 true, .func (.func f) [] caps] H fun r H' => r = .agg (keyC (mnC c d (d.length - 1))) ∧ ∃ L, H' = H ++ L := by
  have hbl := lt_of_get ho
  have oo := obj_of ho
  have hfl := flatW_len hd
  have h01 : ¬ d.length < 1 := by omega
  have h01i : ¬ (d.length : Int) < 1 := by omega
  have g0 := flatW_at hd h0
  rw [Nat.zero_mul, List.drop_zero] at g0
  have hk0 : KeyOk (d.getD 0 key0) := hd _ (by rw [List.getD_eq_getElem?_getD, List.getElem?_eq_getElem h0]; exact List.getElem_mem _)
  have kl0 := keyC_len hk0
  have kt0 := keyC_take hk0
  have z0 := keyC_0
  refine scall_ofd (ord := ordQ) (tdOf_ok _) (rs := [.cell 4 30]) Try.func44 rfl (by kernel_rfl) (by kernel_rfl) (by kernel_rfl) Try.ntmps44 fun hb hargs => go 200 (fun _ => false) mixed ?_
  simp (disch := omega) only [↓reduceIte, go_sem, oo, hfl, h01, h01i, g0, kl0, kt0, h0, keyC_one] <;> repeat with_reducible refine And.intro (by first | omega | decide) ?_
  refine runs_loopA (fun n : Nat => n + 1 ≤ d.length) (fun n => d.length - n) [true, true, false, false, true, true, true]
    (fun n => slots 33 [.buf ob ver 0 d.length 24 true, .func (.func f) [] caps, .any, .any, .ptr H.length 0 0, .ptr (H.length + 1) 0 0, .int .i64 (n + 1 : Nat)])
    (fun n => H ++ [some (.cells 0 (keyC key0)), some (.cells 0 (keyC (mnC c d n)))]) (by rfl) 0 (by show 0 + 1 ≤ d.length; omega) rfl (by rw [keyC_0]; rfl) ?_
  intro n hn
  have hmk : ∀ n, n < d.length → KeyOk (mnC c d n) := fun n => by
    induction n with
    | zero => exact fun _ => hk0
    | succ n ih =>
      intro hlt
      unfold mnC
      split
      · exact hd _ (by rw [List.getD_eq_getElem?_getD, List.getElem?_eq_getElem hlt]; exact List.getElem_mem _)
      · exact ih (by omega)
  have hm := hmk n (by omega)
  have ml := keyC_len hm
  have mt := keyC_take hm
  have k0l := keyC_len key0_ok
  have k0d : List.drop 24 (keyC key0) = [] := List.drop_eq_nil_of_le (by omega)
  have md : List.drop 24 (keyC (mnC c d n)) = [] := List.drop_eq_nil_of_le (by omega)
  refine go 200 (fun _ => false) mixed ?_
  by_cases hlt : n + 1 < d.length
  · have g := flatW_at hd hlt
    have hk : KeyOk (d.getD (n + 1) key0) := hd _ (by rw [List.getD_eq_getElem?_getD, List.getElem?_eq_getElem hlt]; exact List.getElem_mem _)
    have kl := keyC_len hk
    have kt := keyC_take hk
    have hst : mnC c d (n + 1) = if c (d.getD (n + 1) key0) (mnC c d n) < 0 then d.getD (n + 1) key0 else mnC c d n := rfl
    have hc := hcall [some (.cells 0 (keyC key0)), some (.cells 0 (keyC (mnC c d n)))] _ _ hk hm
    have hw : IntKind.i64.wrap (((n + 1 : Nat) : Int) + 1) = ((n + 1 + 1 : Nat) : Int) := by rw [w64 (by omega) (by omega)]; omega
    generalize d.getD (n + 1) key0 = x at *
    simp (disch := omega) only [↓reduceIte, go_sem, hlt, oo, hfl, g, ml, mt, kl, kt, k0l, keyC_one] <;> repeat with_reducible refine And.intro (by first | omega | decide) ?_
    refine hc.onq (go 200 (fun _ => false) mixed ?_)
    by_cases hx : c x (mnC c d n) < 0
    · rw [if_pos hx] at hst
      simp (disch := omega) only [↓reduceIte, go_sem, hx, hlt, oo, hfl, g, ml, mt, md, kl, kt, k0l, keyC_one, hw] <;> repeat with_reducible refine And.intro (by first | omega | decide) ?_
      exact rnd_next (n + 1) (by omega) (by show d.length - (n + 1) < d.length - n; omega) rfl (by rw [hst])
    · rw [if_neg hx] at hst
      simp (disch := omega) only [↓reduceIte, go_sem, hx, hlt, oo, hfl, g, ml, mt, md, kl, kt, k0l, keyC_one, hw] <;> repeat with_reducible refine And.intro (by first | omega | decide) ?_
      exact rnd_next (n + 1) (by omega) (by show d.length - (n + 1) < d.length - n; omega) rfl (by rw [hst])
  · have hn2 : n = d.length - 1 := by omega
    simp (disch := omega) only [↓reduceIte, go_sem, hlt] <;> repeat with_reducible refine And.intro (by first | omega | decide) ?_
    refine go 200 (fun _ => false) mixed ?_
    simp (disch := omega) only [↓reduceIte, go_sem, ml, mt, k0l, k0d, keyC_one] <;> repeat with_reducible refine And.intro (by first | omega | decide) ?_
    refine EndsD.same (r := .agg (keyC (mnC c d n))) (.inr rfl) (by simp (disch := omega) only [↓reduceIte, go_sem, ml, mt] <;> repeat with_reducible refine And.intro (by first | omega | decide) ?_) ⟨by rw [hn2], _, rfl⟩

theorem c_grant_Book_makeRoom_1 {H : Heap} {a : Nat} {now : Int} (ha : H[a]? = some (some (.cells 0 [.int .i64 now]))) (k : GKey) (hk : KeyOk k) (x : Int) :
    SCall Try.prog 43 ([] ++ [.agg (keyC k), .int .i64 x] ++ [.ptr a 0 0]) H fun r H' => r = .bool (decide (x ≤ now)) ∧ H' = H := by
  have hi := lt_of_get ha
  have oc := obj_of ha
  have kl := keyC_len hk
  refine scall_of (ord := fun _ => []) (rs := [5]) Try.func43 rfl (by kernel_rfl) (by kernel_rfl) (by kernel_rfl) Try.ntmps43 fun hb hargs => go 200 (fun _ => false) mixed ?_
  simp (disch := omega) only [↓reduceIte, go_sem, oc, kl, keyC_one] <;> repeat with_reducible refine And.intro (by first | omega | decide) ?_
  exact fin_drop (.inr rfl) hb rfl (by simp)

theorem look_until {es : Grants} {k : GKey} : lookM (.agg (keyC k)) (.int .i64 0) (mapV keyV untV es) = (.int .i64 (untilF k es).1, (untilF k es).2) := by
  unfold untilF
  cases hf : findA k es with
  | some u => exact look_has (vf := untV) key_rep _ hf
  | none => exact look_not (vf := untV) key_rep _ hf

theorem c_grant_Book_makeRoom_2 {H : Heap} {a i j : Nat} {room : Int} {es : Grants} (ha : H[a]? = some (some (.cells 0 [.ptr i 0 0]))) (h : BkAt H i j room es) (x y : GKey) (hx : KeyOk x) (hy : KeyOk y) :
    SCall Try.prog 45 ([] ++ [.agg (keyC x), .agg (keyC y)] ++ [.ptr a 0 0]) H fun r H' => r = .int .i64 (cmpI (untilF x es).1 (untilF y es).1) ∧ H' = H := by
  have hal := lt_of_get ha
  have hi := lt_of_get h.cell
  have hj := lt_of_get h.map
  have oa := obj_of ha
  have oc := obj_of h.cell
  have om := h.map
  have xl := keyC_len hx
  have xt := keyC_take hx
  have xg := keyC_tag hx
  have yl := keyC_len hy
  have yt := keyC_take hy
  have yg := keyC_tag hy
  have kb := keysB_ok h.ok
  have lx := look_until (es := es) (k := x)
  have ly := look_until (es := es) (k := y)
  refine scall_of (ord := ordQ) (rs := [5]) Try.func45 rfl (by kernel_rfl) (by kernel_rfl) (by kernel_rfl) Try.ntmps45 fun hb hargs => go 200 (fun _ => false) mixed ?_
  simp (disch := omega) only [↓reduceIte, go_sem, oa, oc, om, xl, xt, xg, yl, yt, yg, kb, lx, ly, keyC_one] <;> repeat with_reducible refine And.intro (by first | omega | decide) ?_
  refine (c_cmp_Compare_int (untilF x es).1 (untilF y es).1).onq (go 200 (fun _ => false) mixed ?_)
  simp (disch := omega) only [↓reduceIte, go_sem] <;> repeat with_reducible refine And.intro (by first | omega | decide) ?_
  exact fin_drop (.inr rfl) hb rfl (by simp)
end Go.Proofs.GoC
