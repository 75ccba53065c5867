/-
  What the functions compute: how a record's data is read. No claim by itself.
-/
import Derived.Test.YtmgemdgbffmnjaaGoReadA
import Derived.Test.YtmgemdgbffmnjaaGoWireE
import Derived.Test.YtmgemdgbffmnjaaSlFz
namespace Go.Proofs.GoC
open Go Go.Proofs.SL
set_option linter.unusedSimpArgs false
set_option linter.unusedVariables false
set_option maxRecDepth 10000
set_option maxHeartbeats 4000000

def addrS (B : List UInt8) (fam size n : Nat) (x : Rc) (s : RSt) : Rc × RSt :=
  if n ≠ size then (x, failS 2 s) else ({ x with fam := (fam : Nat), ab := (rawS B size s).1.map (·.toNat) ++ x.ab.drop size }, (rawS B size s).2)

theorem rcC_set4 {X : Rc} (n : Int) : (rcC X).set 4 (.int .i64 n) = rcC { X with fam := n } := rfl
theorem bys_one8 (l : List UInt8) : ((bys l).all fun x => decide ((match x with | .agg cs => cs | v => [v]).length = 1) && (match x with | .agg cs => cs | v => [v]).all PV.one) = true := by
  rw [List.all_eq_true]
  intro x hx
  obtain ⟨b, _, rfl⟩ := List.mem_map.mp hx
  rfl
theorem rcC_copy {X : Rc} {l : List UInt8} {N : Nat} (hab : X.ab.length = 16) (hN : N ≤ 16) (hl : l.length = N) :
    List.take 5 (rcC X) ++ flat (List.take N (bys l)) ++ List.drop (5 + N) (rcC X) = rcC { X with ab := l.map (·.toNat) ++ X.ab.drop N } := by
  have h1 : List.take N (bys l) = bys l := List.take_of_length_le (by rw [bys_len]; omega)
  have h2 : bys l = u8s (l.map (·.toNat)) := by simp [bys, u8s]
  rw [h1, flat_bys, h2, show 5 + N = N + 5 by omega]
  unfold rcC
  simp only [List.drop_succ_cons, List.take_succ_cons, List.take_zero]
  rw [List.drop_append_of_le_length (by rw [u8s_len, hab]; exact hN)]
  simp [u8s, List.map_drop]
theorem rcC_set21 {X : Rc} (hab : X.ab.length = 16) (t : List UInt8) : (rcC X).set 21 (.str (bs t)) = rcC { X with tgt := t } := by
  unfold rcC
  simp only [List.set_cons_succ]
  rw [List.set_append_right _ _ (by rw [u8s_len, hab]; decide), u8s_len, hab]
  rfl
theorem rcC_set22 {X : Rc} (hab : X.ab.length = 16) (t : List UInt8) : (rcC X).set 22 (.str (bs t)) = rcC { X with dat := t } := by
  unfold rcC
  simp only [List.set_cons_succ]
  rw [List.set_append_right _ _ (by rw [u8s_len, hab]; decide), u8s_len, hab]
  rfl
theorem c_wire_reader_record_1 {H : Heap} (fam size n r x : Nat) (hn : n < H.length) (hr : r < H.length) (hx : x < H.length) :
    SCall Try.prog 79 [.int .i64 (fam : Nat), .int .i64 (size : Nat), .ptr n 0 0, .ptr r 0 0, .ptr x 0 0] H fun q H' =>
      q = .func (.func 80) [] [.ptr n 0 0, .cptr (.int .i64 (size : Nat)), .ptr r 0 0, .cptr (.int .i64 (fam : Nat)), .ptr x 0 0] ∧ H' = H := by
  refine scall_of (ord := fun _ => []) (rs := [7]) Try.func79 rfl (by kernel_rfl) (by kernel_rfl) (by kernel_rfl) Try.ntmps79 fun hb hargs => go 10 (fun _ => false) mixed ?_
  simp (disch := omega) only [↓reduceIte, go_sem] <;> repeat with_reducible refine And.intro (by first | omega | decide) ?_
  refine Runs.ghost (by rfl) (Ghost.freezePtr (t := 5) (.int .i64 (fam : Nat)) rfl (by rw [get_tail0]; rfl) rfl) ?_
  refine Runs.ghost (by rfl) (Ghost.freezePtr (t := 6) (.int .i64 (size : Nat)) rfl (by rw [set_tail0, get_tail]; rfl) rfl) ?_
  refine go 200 (fun _ => false) mixed ?_
  simp (disch := omega) only [↓reduceIte, go_sem] <;> repeat with_reducible refine And.intro (by first | omega | decide) ?_
  exact fin_drop (.inr rfl) hb rfl (by simp [hn, hr, hx])

def ord80 : Nat → List Nat
  | 3 => [0, 1, 3, 4, 7, 3, 2, 5, 6, 5, 2, 6]
  | _ => []
theorem ord80_3 : ord80 3 = [0, 1, 3, 4, 7, 3, 2, 5, 6, 5, 2, 6] := rfl

theorem c_wire_reader_record_1_1 {H : Heap} {i n r x N : Nat} {B : List UInt8} {s : RSt} {X : Rc} (fam size : Nat) (hsz : size ≤ 16) (hi : H[i]? = some (rdO B s)) (hr : H[r]? = some (some (.cells 0 [.ptr i 0 0]))) (hn : H[n]? = some (some (.cells 0 [.int .i64 (N : Nat)])))
    (hx : H[x]? = some (some (.cells 0 (rcC X)))) (hab : X.ab.length = 16) (hix : i ≠ x) (hxr : x ≠ r) (hxn : x ≠ n) (hat : s.1 ≤ B.length) (hB : B.length < 1100000) :
    SCall Try.prog 80 [.ptr n 0 0, .cptr (.int .i64 (size : Nat)), .ptr r 0 0, .cptr (.int .i64 (fam : Nat)), .ptr x 0 0] H fun _ H' =>
      H' = (H.set i (rdO B (addrS B fam size N X s).2)).set x (some (.cells 0 (rcC (addrS B fam size N X s).1))) := by
  have o1 := obj_of hi
  have o2 := obj_of hr
  have o3 := obj_of hn
  have o4 := obj_of hx
  have l1 := lt_of_get hi
  have l4 := lt_of_get hx
  have hlen := rcC_len hab
  unfold addrS
  refine scall_of (ord := ord80) (rs := []) Try.func80 rfl (by kernel_rfl) (by kernel_rfl) (by kernel_rfl) Try.ntmps80 fun hb hargs => go 12 (fun _ => false) mixed ?_
  by_cases hne : N = size
  · subst hne
    rw [if_neg (by simp)]
    simp (disch := omega) only [↓reduceIte, go_sem, o3, o4, hlen] <;> repeat with_reducible refine And.intro (by first | omega | decide) ?_
    refine go 10 (fun _ => false) mixed ?_
    simp (disch := omega) only [↓reduceIte, go_sem, o4, hlen, rcC_set4] <;> repeat with_reducible refine And.intro (by first | omega | decide) ?_
    have hi1 : (H.set x (some (.cells 0 (rcC { X with fam := (fam : Nat) }))))[i]? = some (rdO B s) := by rw [get_set_ne (Ne.symm hix)]; exact hi
    have hr1 : (H.set x (some (.cells 0 (rcC { X with fam := (fam : Nat) }))))[r]? = some (some (.cells 0 [.ptr i 0 0])) := by rw [get_set_ne hxr]; exact hr
    have hx1 : (H.set x (some (.cells 0 (rcC { X with fam := (fam : Nat) }))))[x]? = some (some (.cells 0 (rcC { X with fam := (fam : Nat) }))) := get_set_self l4
    have hset : ∀ y z q, ((H.set x y).set i z).set x q = (H.set i z).set x q := fun y z q => by
      rw [List.set_comm _ _ (Ne.symm hix), List.set_set]
    have hR := c_wire_reader_raw N (by omega) hi1 hat hB
    have hRl := rawS_len (n := N) hat
    have hlen1 : (rcC { X with fam := (fam : Nat) }).length = 23 := hlen
    have hx2 : ((H.set x (some (.cells 0 (rcC { X with fam := (fam : Nat) })))).set i (rdO B (rawS B N s).2))[x]? = some (some (.cells 0 (rcC { X with fam := (fam : Nat) }))) := by rw [get_set_ne hix]; exact hx1
    generalize rawS B N s = R at *
    obtain ⟨l, s'⟩ := R
    change l.length = N at hRl
    generalize hH1 : H.set x (some (.cells 0 (rcC { X with fam := (fam : Nat) }))) = H1 at *
    have o21 := obj_of hr1
    have o41 := obj_of hx1
    have o42 := obj_of hx2
    refine go 200 (fun _ => false) mixed ?_
    simp (disch := omega) only [↓reduceIte, go_sem, o21, ord80_3] <;> repeat with_reducible refine And.intro (by first | omega | decide) ?_
    refine runs_fork (l1 := [2, 5, 6]) (l2 := [5, 2, 6]) rfl rfl (go 200 (fun _ => false) mixed ?_) (go 200 (fun _ => false) mixed ?_)
    · simp (disch := omega) only [↓reduceIte, go_sem, o41, hlen1] <;> repeat with_reducible refine And.intro (by first | omega | decide) ?_
      refine hR.mono fun q H' ⟨e1, e2⟩ => ?_
      rw [e1, e2]
      refine go 200 (fun _ => false) mixed ?_
      simp (disch := omega) only [↓reduceIte, go_sem, o42, hlen1, hRl] <;> repeat with_reducible refine And.intro (by first | omega | decide) ?_
      refine ⟨bys_one8 l, SL.Ends.same (.inl rfl) ?_⟩
      rw [rcC_copy (X := { X with fam := (fam : Nat) }) hab hsz hRl, ← hH1, hset]
    · simp (disch := omega) only [↓reduceIte, go_sem] <;> repeat with_reducible refine And.intro (by first | omega | decide) ?_
      refine hR.mono fun q H' ⟨e1, e2⟩ => ?_
      rw [e1, e2]
      refine go 200 (fun _ => false) mixed ?_
      simp (disch := omega) only [↓reduceIte, go_sem, o42, hlen1, hRl] <;> repeat with_reducible refine And.intro (by first | omega | decide) ?_
      refine ⟨bys_one8 l, SL.Ends.same (.inl rfl) ?_⟩
      rw [rcC_copy (X := { X with fam := (fam : Nat) }) hab hsz hRl, ← hH1, hset]
  · rw [if_pos hne]
    have hF : SCall Try.prog 59 [.ptr i 0 0, .int .i64 2] H fun _ H' => H' = H.set i (rdO B (failS 2 s)) := c_wire_reader_fail 2 hi
    simp (disch := omega) only [↓reduceIte, go_sem, o2, o3, hne] <;> repeat with_reducible refine And.intro (by first | omega | decide) ?_
    refine go 200 (fun _ => false) mixed ?_
    simp (disch := omega) only [↓reduceIte, go_sem, o2] <;> repeat with_reducible refine And.intro (by first | omega | decide) ?_
    refine hF.mono fun q H' e1 => ?_
    subst e1
    refine go 200 (fun _ => false) mixed ?_
    simp (disch := omega) only [↓reduceIte, go_sem] <;> repeat with_reducible refine And.intro (by first | omega | decide) ?_
    refine SL.Ends.same (.inr rfl) ?_
    exact (set_same (by rw [get_set_ne hix]; exact hx)).symm

theorem c_wire_reader_record_2 {H : Heap} {i r x : Nat} {B : List UInt8} {s : RSt} {X : Rc} (hi : H[i]? = some (rdO B s)) (hr : H[r]? = some (some (.cells 0 [.ptr i 0 0])))
    (hx : H[x]? = some (some (.cells 0 (rcC X)))) (hab : X.ab.length = 16) (hix : i ≠ x) (hat : s.1 ≤ B.length) (hB : B.length < 1100000) :
    SCall Try.prog 81 [.ptr r 0 0, .ptr x 0 0] H fun _ H' =>
      H' = (H.set i (rdO B (nameS B s).2)).set x (some (.cells 0 (rcC { X with tgt := (nameS B s).1 }))) := by
  have o2 := obj_of hr
  have o4 := obj_of hx
  have l1 := lt_of_get hi
  have l4 := lt_of_get hx
  have hlen := rcC_len hab
  have hN := c_wire_reader_name hi hat hB
  refine scall_of (ord := fun _ => []) (rs := []) Try.func81 rfl (by kernel_rfl) (by kernel_rfl) (by kernel_rfl) Try.ntmps81 fun hb hargs => go 200 (fun _ => false) mixed ?_
  simp (disch := omega) only [↓reduceIte, go_sem, o2] <;> repeat with_reducible refine And.intro (by first | omega | decide) ?_
  refine hN.mono fun q H' ⟨e1, e2⟩ => ?_
  subst e1 e2
  refine go 200 (fun _ => false) mixed ?_
  simp (disch := omega) only [↓reduceIte, go_sem, o4, hlen] <;> repeat with_reducible refine And.intro (by first | omega | decide) ?_
  exact SL.Ends.same (.inl rfl) (by rw [rcC_set21 hab])

theorem c_wire_reader_record_3 {H : Heap} {i n r x N : Nat} {B : List UInt8} {s : RSt} {X : Rc} (hi : H[i]? = some (rdO B s)) (hr : H[r]? = some (some (.cells 0 [.ptr i 0 0]))) (hn : H[n]? = some (some (.cells 0 [.int .i64 (N : Nat)])))
    (hx : H[x]? = some (some (.cells 0 (rcC X)))) (hab : X.ab.length = 16) (hix : i ≠ x) (hN : N ≤ 65535) (hat : s.1 ≤ B.length) (hB : B.length < 1100000) :
    SCall Try.prog 82 [.ptr r 0 0, .ptr n 0 0, .ptr x 0 0] H fun _ H' =>
      H' = (H.set i (rdO B (rawS B N s).2)).set x (some (.cells 0 (rcC { X with dat := (rawS B N s).1 }))) := by
  have o2 := obj_of hr
  have o3 := obj_of hn
  have o4 := obj_of hx
  have l1 := lt_of_get hi
  have l4 := lt_of_get hx
  have hlen := rcC_len hab
  have hR := c_wire_reader_raw N hN hi hat hB
  refine scall_of (ord := fun _ => []) (rs := []) Try.func82 rfl (by kernel_rfl) (by kernel_rfl) (by kernel_rfl) Try.ntmps82 fun hb hargs => go 200 (fun _ => false) mixed ?_
  simp (disch := omega) only [↓reduceIte, go_sem, o2, o3] <;> repeat with_reducible refine And.intro (by first | omega | decide) ?_
  refine hR.mono fun q H' ⟨e1, e2⟩ => ?_
  subst e1 e2
  refine go 200 (fun _ => false) mixed ?_
  simp (disch := omega) only [↓reduceIte, go_sem, o4, hlen] <;> repeat with_reducible refine And.intro (by first | omega | decide) ?_
  exact SL.Ends.same (.inl rfl) (by rw [rcC_set22 hab])
end Go.Proofs.GoC
