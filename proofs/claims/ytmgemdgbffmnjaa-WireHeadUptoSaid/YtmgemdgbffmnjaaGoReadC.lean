/-
  What the functions compute: a record, read. No claim by itself.
-/
import Derived.Test.YtmgemdgbffmnjaaGoReadB
import Derived.Test.YtmgemdgbffmnjaaGoWireF
import Derived.Test.YtmgemdgbffmnjaaGoMapL
namespace Go.Proofs.GoC
open Go Go.Proofs.SL
set_option linter.unusedSimpArgs false
set_option linter.unusedVariables false
set_option maxRecDepth 10000
set_option maxHeartbeats 4000000

/-- A record's data, of so many bytes. -/
def readsS (B : List UInt8) (ty n : Nat) (x : Rc) (s : RSt) : Rc × RSt :=
  if ty = 1 then addrS B 4 4 n x s else if ty = 28 then addrS B 6 16 n x s
  else if ty = 5 then ({ x with tgt := (nameS B s).1 }, (nameS B s).2) else ({ x with dat := (rawS B n s).1 }, (rawS B n s).2)
/-- What stands ahead of a record's data. -/
def x0S (nm : List UInt8) (ty cl ttl : Nat) : Rc := ⟨nm, (ty : Nat), (cl : Nat), ((if 2147483647 < ttl then 0 else ttl : Nat) : Nat), 0, z16, [], []⟩
/-- A record, of its name and numbers. -/
def lastS (B : List UInt8) (ty : Nat) (x : Rc) (e : Nat × RSt) : Rc × RSt :=
  if B.length - e.2.1 < e.1 then (x, failS 2 e.2)
  else ((readsS B ty e.1 x e.2).1, if (readsS B ty e.1 x e.2).2.1 = e.2.1 + e.1 then (readsS B ty e.1 x e.2).2 else failS 2 (readsS B ty e.1 x e.2).2)
def recS (B : List UInt8) (s : RSt) : Rc × RSt :=
  let na := nameS B s
  let nb := numS B 2 na.2
  let nc := numS B 2 nb.2
  let nd := numS B 4 nc.2
  lastS B nb.1 (x0S na.1 nb.1 nc.1 nd.1) (numS B 2 nd.2)

theorem with_dr {P : Program} {T : Nat → Option TD} {ord : Nat → List Nat} {H0 : Heap} {all : List Oper} {l : List Nat} {k : List It} {σ : Env} {H : Heap} {Φ : AEx → Env → Heap → Prop}
    (h : ∀ all' k' Φ', all' = all → k' = k → Φ' = Φ → Runs P T ord H0 (.dr all' l :: k') σ H Φ') : Runs P T ord H0 (.dr all l :: k) σ H Φ := h all k Φ rfl rfl rfl

theorem with_k {P : Program} {T : Nat → Option TD} {ord : Nat → List Nat} {H0 : Heap} {c : Code} {k : List It} {σ : Env} {H : Heap} {Φ : AEx → Env → Heap → Prop}
    (h : ∀ k' Φ', k' = k → Φ' = Φ → Runs P T ord H0 (.code c :: k') σ H Φ') : Runs P T ord H0 (.code c :: k) σ H Φ := h k Φ rfl rfl
def o58_b_0 : List Nat := [6, 7, 8, 9, 10, 11]
def o58_b_1 : List Nat := 5 :: o58_b_0
def o58_b_2 : List Nat := 4 :: o58_b_1
def o58_b_3 : List Nat := 3 :: o58_b_1
def o58_b_4 : List Nat := 12 :: (3 :: o58_b_2).length :: ((3 :: o58_b_2) ++ (4 :: o58_b_3))
def o58_b_5 : List Nat := 2 :: o58_b_3
def o58_b_6 : List Nat := 12 :: (2 :: o58_b_4).length :: ((2 :: o58_b_4) ++ (4 :: o58_b_5))
def o58_b_7 : List Nat := 1 :: o58_b_3
def o58_b_8 : List Nat := 12 :: (1 :: o58_b_4).length :: ((1 :: o58_b_4) ++ (4 :: o58_b_7))
def o58_b_9 : List Nat := 12 :: (1 :: o58_b_5).length :: ((1 :: o58_b_5) ++ (2 :: o58_b_7))
def o58_b_10 : List Nat := 12 :: (1 :: o58_b_6).length :: ((1 :: o58_b_6) ++ (12 :: (2 :: o58_b_8).length :: ((2 :: o58_b_8) ++ (4 :: o58_b_9))))
def o58_m_0 : List Nat := [9, 11, 12, 13]
def o58_m_1 : List Nat := [9, 12, 13]
def o58_m_2 : List Nat := 8 :: o58_m_1
def o58_m_3 : List Nat := 14 :: (8 :: o58_m_0).length :: ((8 :: o58_m_0) ++ (11 :: o58_m_2))
def o58_m_4 : List Nat := 6 :: o58_m_1
def o58_m_5 : List Nat := 14 :: (6 :: o58_m_0).length :: ((6 :: o58_m_0) ++ (11 :: o58_m_4))
def o58_m_6 : List Nat := 14 :: (6 :: o58_m_2).length :: ((6 :: o58_m_2) ++ (8 :: o58_m_4))
def o58_m_7 : List Nat := 14 :: (6 :: o58_m_3).length :: ((6 :: o58_m_3) ++ (14 :: (8 :: o58_m_5).length :: ((8 :: o58_m_5) ++ (11 :: o58_m_6))))
def o58_m_8 : List Nat := 5 :: o58_m_4
def o58_m_9 : List Nat := 14 :: (5 :: o58_m_5).length :: ((5 :: o58_m_5) ++ (11 :: o58_m_8))
def o58_m_10 : List Nat := 14 :: (5 :: o58_m_6).length :: ((5 :: o58_m_6) ++ (8 :: o58_m_8))
def o58_m_11 : List Nat := 14 :: (5 :: o58_m_7).length :: ((5 :: o58_m_7) ++ (14 :: (8 :: o58_m_9).length :: ((8 :: o58_m_9) ++ (11 :: o58_m_10))))
def o58_m_12 : List Nat := 3 :: o58_m_1
def o58_m_13 : List Nat := 14 :: (3 :: o58_m_0).length :: ((3 :: o58_m_0) ++ (11 :: o58_m_12))
def o58_m_14 : List Nat := 14 :: (3 :: o58_m_2).length :: ((3 :: o58_m_2) ++ (8 :: o58_m_12))
def o58_m_15 : List Nat := 14 :: (3 :: o58_m_3).length :: ((3 :: o58_m_3) ++ (14 :: (8 :: o58_m_13).length :: ((8 :: o58_m_13) ++ (11 :: o58_m_14))))
def o58_m_16 : List Nat := 14 :: (3 :: o58_m_4).length :: ((3 :: o58_m_4) ++ (6 :: o58_m_12))
def o58_m_17 : List Nat := 14 :: (3 :: o58_m_5).length :: ((3 :: o58_m_5) ++ (14 :: (6 :: o58_m_13).length :: ((6 :: o58_m_13) ++ (11 :: o58_m_16))))
def o58_m_18 : List Nat := 14 :: (3 :: o58_m_6).length :: ((3 :: o58_m_6) ++ (14 :: (6 :: o58_m_14).length :: ((6 :: o58_m_14) ++ (8 :: o58_m_16))))
def o58_m_19 : List Nat := 14 :: (3 :: o58_m_7).length :: ((3 :: o58_m_7) ++ (14 :: (6 :: o58_m_15).length :: ((6 :: o58_m_15) ++ (14 :: (8 :: o58_m_17).length :: ((8 :: o58_m_17) ++ (11 :: o58_m_18))))))
def o58_m_20 : List Nat := 14 :: (3 :: o58_m_8).length :: ((3 :: o58_m_8) ++ (5 :: o58_m_16))
def o58_m_21 : List Nat := 14 :: (3 :: o58_m_9).length :: ((3 :: o58_m_9) ++ (14 :: (5 :: o58_m_17).length :: ((5 :: o58_m_17) ++ (11 :: o58_m_20))))
def o58_m_22 : List Nat := 14 :: (3 :: o58_m_10).length :: ((3 :: o58_m_10) ++ (14 :: (5 :: o58_m_18).length :: ((5 :: o58_m_18) ++ (8 :: o58_m_20))))
def o58_m_23 : List Nat := 14 :: (3 :: o58_m_11).length :: ((3 :: o58_m_11) ++ (14 :: (5 :: o58_m_19).length :: ((5 :: o58_m_19) ++ (14 :: (8 :: o58_m_21).length :: ((8 :: o58_m_21) ++ (11 :: o58_m_22))))))
def o58_m_24 : List Nat := 2 :: o58_m_20
def o58_m_25 : List Nat := 14 :: (2 :: o58_m_21).length :: ((2 :: o58_m_21) ++ (11 :: o58_m_24))
def o58_m_26 : List Nat := 14 :: (2 :: o58_m_22).length :: ((2 :: o58_m_22) ++ (8 :: o58_m_24))
def o58_m_27 : List Nat := 14 :: (2 :: o58_m_23).length :: ((2 :: o58_m_23) ++ (14 :: (8 :: o58_m_25).length :: ((8 :: o58_m_25) ++ (11 :: o58_m_26))))
def o58_m_28 : List Nat := 0 :: o58_m_18
def o58_m_29 : List Nat := 14 :: (0 :: o58_m_19).length :: ((0 :: o58_m_19) ++ (11 :: o58_m_28))
def o58_m_30 : List Nat := 14 :: (0 :: o58_m_22).length :: ((0 :: o58_m_22) ++ (5 :: o58_m_28))
def o58_m_31 : List Nat := 14 :: (0 :: o58_m_23).length :: ((0 :: o58_m_23) ++ (14 :: (5 :: o58_m_29).length :: ((5 :: o58_m_29) ++ (11 :: o58_m_30))))
def o58_m_32 : List Nat := 14 :: (0 :: o58_m_26).length :: ((0 :: o58_m_26) ++ (2 :: o58_m_30))
def o58_m_33 : List Nat := 14 :: (0 :: o58_m_27).length :: ((0 :: o58_m_27) ++ (14 :: (2 :: o58_m_31).length :: ((2 :: o58_m_31) ++ (11 :: o58_m_32))))
def ord58 : Nat → List Nat
  | 2 => 0 :: o58_b_10
  | 11 => 1 :: 4 :: 7 :: 10 :: o58_m_33
  | _ => []
theorem ord58_2 : ord58 2 = 0 :: o58_b_10 := rfl
theorem ord58_11 : ord58 11 = 1 :: 4 :: 7 :: 10 :: o58_m_33 := rfl
theorem ord58_6 : ord58 6 = [] := rfl
theorem ord58_7 : ord58 7 = [] := rfl
theorem rcz (nm : List UInt8) : [PV.str (bs nm), .int .i64 0, .int .i64 0, .int .i64 0, .int .i64 0, .int .u8 0, .int .u8 0, .int .u8 0, .int .u8 0, .int .u8 0, .int .u8 0, .int .u8 0, .int .u8 0, .int .u8 0, .int .u8 0, .int .u8 0, .int .u8 0, .int .u8 0, .int .u8 0, .int .u8 0, .int .u8 0, .str (bs []), .str (bs [])] = rcC ⟨nm, 0, 0, 0, 0, z16, [], []⟩ := rfl
def hpX (H : Heap) (i : Nat) (B : List UInt8) (s : RSt) (l : List (Option OB)) : Heap := H.set i (rdO B s) ++ (some (.cells 0 [.ptr i 0 0]) :: some (.cells 0 (rcC rc0)) :: l)
theorem hpX_at {H : Heap} {i : Nat} {B : List UInt8} {s : RSt} {l : List (Option OB)} (h : i < H.length) : (hpX H i B s l)[i]? = some (rdO B s) := by
  unfold hpX; rw [get_app_lt (by simpa using h), get_set_self h]
theorem hpX_set {H : Heap} {i : Nat} {B : List UInt8} {s s' : RSt} {l : List (Option OB)} (h : i < H.length) : (hpX H i B s l).set i (rdO B s') = hpX H i B s' l := by
  unfold hpX; rw [set_app_lt (by simpa using h), set_twice]
theorem hpX_box {H : Heap} {i : Nat} {B : List UInt8} {s : RSt} {l : List (Option OB)} : (hpX H i B s l)[H.length]? = some (some (.cells 0 [.ptr i 0 0])) := by
  unfold hpX; rw [get_tail0s]; rfl
theorem hpX_l {H : Heap} {i k : Nat} {B : List UInt8} {s : RSt} {l : List (Option OB)} : (hpX H i B s l)[H.length + (k + 2)]? = l[k]? := by
  unfold hpX; rw [get_tails]; rfl
theorem hpX_setl {H : Heap} {i k : Nat} {B : List UInt8} {s : RSt} {l : List (Option OB)} {x : Option OB} : (hpX H i B s l).set (H.length + (k + 2)) x = hpX H i B s (l.set k x) := by
  unfold hpX; rw [set_tails]; rfl
theorem hpX_len {H : Heap} {i : Nat} {B : List UInt8} {s : RSt} {l : List (Option OB)} : (hpX H i B s l).length = H.length + 2 + l.length := by
  unfold hpX; simp; omega
theorem rcC_set1 {X : Rc} (n : Int) : (rcC X).set 1 (.int .i64 n) = rcC { X with ty := n } := rfl
theorem rcC_set2 {X : Rc} (n : Int) : (rcC X).set 2 (.int .i64 n) = rcC { X with cl := n } := rfl
theorem rcC_set3 {X : Rc} (n : Int) : (rcC X).set 3 (.int .i64 n) = rcC { X with ttl := n } := rfl
theorem addrS_len {B : List UInt8} {fam size n : Nat} {x : Rc} {s : RSt} (hx : x.ab.length = 16) (hs : size ≤ 16) (h : s.1 ≤ B.length) : (addrS B fam size n x s).1.ab.length = 16 := by
  unfold addrS
  split
  · exact hx
  · show ((rawS B size s).1.map (·.toNat) ++ x.ab.drop size).length = 16
    rw [List.length_append, List.length_map, rawS_len h, List.length_drop]; omega
theorem number_at {H : Heap} {i : Nat} {B : List UInt8} {s : RSt} {l : List (Option OB)} (n : Nat) (hn : n ≤ 4) (hi : i < H.length) (hat : s.1 ≤ B.length) (hB : B.length < 1100000) :
    SCall Try.prog 56 [.ptr i 0 0, .int .i64 (n : Nat)] (hpX H i B s l) fun r H' => r = .int .i64 (numS B n s).1 ∧ H' = hpX H i B (numS B n s).2 l :=
  (c_wire_reader_number n hn (hpX_at hi) hat hB).mono fun r H' ⟨e1, e2⟩ => ⟨e1, by rw [e2, hpX_set hi]⟩

/-! Functions in a map. -/
def fa (L : Nat) : PV := .func (.func 79) [] [.ptr (L + 3) 0 0, .ptr L 0 0, .ptr (L + 2) 0 0]
def clo (L fam size : Nat) : PV := .func (.func 80) [] [.ptr (L + 3) 0 0, .cptr (.int .i64 (size : Nat)), .ptr L 0 0, .cptr (.int .i64 (fam : Nat)), .ptr (L + 2) 0 0]
def cn (L : Nat) : PV := .func (.func 81) [] [.ptr L 0 0, .ptr (L + 2) 0 0]
theorem lit_put {k : Nat} {v : PV} {es : List (Nat × PV)} (h : k ∉ es.map (·.1)) : putM (.int .i64 (k : Nat)) v (mapV natK id es) = mapV natK id (es ++ [(k, v)]) := by
  have := put_map (vf := id) nat_rep k v es
  rw [putA_new h] at this
  exact this
theorem lit_keys (es : List (Nat × PV)) (a : Nat) (b : Bool) (c : Nat) (d : PV) (e : Option (List Tag)) : keysB ⟨.int .i64, a, b, c, d, e⟩ (mapV natK id es) = true := keys_map fun _ _ => rfl
def three (L : Nat) : List (Nat × PV) := [(1, clo L 4 4), (28, clo L 6 16), (5, cn L)]
theorem lit_look {L : Nat} {es : List (Nat × PV)} (h : es.Perm (three L)) (k : Nat) (z : PV) : lookM (.int .i64 (k : Nat)) z (mapV natK id es) =
    if k = 1 then (clo L 4 4, true) else if k = 28 then (clo L 6 16, true) else if k = 5 then (cn L, true) else (z, false) := by
  have h1 := look_map (kf := natK) (vf := id) nat_rep k z es
  have hn : (es.map (·.1)).Nodup := (h.map (·.1)).nodup_iff.mpr (by show [1, 28, 5].Nodup; decide)
  have key : ∀ x, (k, x) ∈ three L → findA k es = some x := fun x hx => (find_mem hn).mpr (h.mem_iff.mpr hx)
  refine h1.trans ?_
  by_cases e1 : k = 1
  · subst e1; rw [key (clo L 4 4) (by simp [three])]; rfl
  by_cases e2 : k = 28
  · subst e2; rw [key (clo L 6 16) (by simp [three])]; rfl
  by_cases e3 : k = 5
  · subst e3; rw [key (cn L) (by simp [three])]; rfl
  rw [find_none.mpr (fun hm => by
    have := (h.map (·.1)).mem_iff.mp hm
    simp only [three, List.map_cons, List.map_nil, List.mem_cons, List.not_mem_nil, or_false] at this
    omega), if_neg e1, if_neg e2, if_neg e3]
def pickF (L k : Nat) : PV := if k = 1 then clo L 4 4 else if k = 28 then clo L 6 16 else if k = 5 then cn L else .nilf
theorem lit_look' {L : Nat} {es : List (Nat × PV)} (h : es.Perm (three L)) (k : Nat) : lookM (.int .i64 (k : Nat)) .nilf (mapV natK id es) = (pickF L k, decide (k = 1 ∨ k = 28 ∨ k = 5)) := by
  rw [lit_look h]
  unfold pickF
  by_cases e1 : k = 1
  · simp [e1]
  by_cases e2 : k = 28
  · simp [e2]
  by_cases e3 : k = 5
  · simp [e3]
  simp [e1, e2, e3]
theorem lit_p368 {L : Nat} : List.Perm [(1, clo L 4 4), (28, clo L 6 16), (5, cn L)] (three L) := .refl _
theorem lit_p386 {L : Nat} : List.Perm [(1, clo L 4 4), (5, cn L), (28, clo L 6 16)] (three L) := (List.Perm.swap _ _ []).cons _
theorem lit_p638 {L : Nat} : List.Perm [(28, clo L 6 16), (1, clo L 4 4), (5, cn L)] (three L) := .swap _ _ _
theorem lit_p683 {L : Nat} : List.Perm [(28, clo L 6 16), (5, cn L), (1, clo L 4 4)] (three L) := ((List.Perm.swap _ _ []).cons _).trans lit_p638
theorem lit_p836 {L : Nat} : List.Perm [(5, cn L), (1, clo L 4 4), (28, clo L 6 16)] (three L) := (List.Perm.swap _ _ _).trans lit_p386
theorem lit_p863 {L : Nat} : List.Perm [(5, cn L), (28, clo L 6 16), (1, clo L 4 4)] (three L) := (List.Perm.swap _ _ _).trans lit_p683

theorem c_wire_reader_record {H : Heap} {i : Nat} {B : List UInt8} {s : RSt} (hi : H[i]? = some (rdO B s)) (hat : s.1 ≤ B.length) (hB : B.length < 1100000) :
    SCall Try.prog 58 [.ptr i 0 0] H fun r H' => ∃ L, r = rcV (recS B s).1 ∧ H' = H.set i (rdO B (recS B s).2) ++ L := by
  have l1 := lt_of_get hi
  have hi0 : ∀ L, (H ++ L)[i]? = some (rdO B s) := fun L => by rw [get_app_lt l1]; exact hi
  have hN := c_wire_reader_name (hi0 [some (.cells 0 [.ptr i 0 0]), some (.cells 0 (rcC rc0))]) hat hB
  show SCall Try.prog 58 [.ptr i 0 0] H fun r H' => ∃ L, r = rcV (lastS B (numS B 2 (nameS B s).2).1 (x0S (nameS B s).1 (numS B 2 (nameS B s).2).1 (numS B 2 (numS B 2 (nameS B s).2).2).1 (numS B 4 (numS B 2 (numS B 2 (nameS B s).2).2).2).1) (numS B 2 (numS B 4 (numS B 2 (numS B 2 (nameS B s).2).2).2).2)).1 ∧
    H' = H.set i (rdO B (lastS B (numS B 2 (nameS B s).2).1 (x0S (nameS B s).1 (numS B 2 (nameS B s).2).1 (numS B 2 (numS B 2 (nameS B s).2).2).1 (numS B 4 (numS B 2 (numS B 2 (nameS B s).2).2).2).1) (numS B 2 (numS B 4 (numS B 2 (numS B 2 (nameS B s).2).2).2).2)).2) ++ L
  have wa := nameS_at hat
  generalize hna : nameS B s = na at *
  have wb := numS_at (n := 2) wa
  have hb2 := number_at (H := H) (i := i) (l := [some (.cells 0 (rcC ⟨na.1, 0, 0, 0, 0, z16, [], []⟩))]) 2 (by omega) l1 wa hB
  have vb := numS_lt (n := 2) wa
  generalize hnb : numS B 2 na.2 = nb at *
  have wc := numS_at (n := 2) wb
  have hc2 := number_at (H := H) (i := i) (l := [some (.cells 0 (rcC ⟨na.1, 0, 0, 0, 0, z16, [], []⟩))]) 2 (by omega) l1 wb hB
  have vc := numS_lt (n := 2) wb
  generalize hnc : numS B 2 nb.2 = nc at *
  have wd := numS_at (n := 4) wc
  have hd2 := number_at (H := H) (i := i) (l := [some (.cells 0 (rcC ⟨na.1, 0, 0, 0, 0, z16, [], []⟩))]) 4 (by omega) l1 wc hB
  have vd := numS_lt (n := 4) wc
  generalize hnd : numS B 4 nc.2 = nd at *
  have we := numS_at (n := 2) wd
  have ve := numS_lt (n := 2) wd
  generalize hne : numS B 2 nd.2 = ne at *
  refine scall_ofd (ord := ord58) (tdOf_ok _) (rs := [.cell 2 32]) Try.func58 rfl (by kernel_rfl) (by kernel_rfl) (by kernel_rfl) Try.ntmps58 fun hb hargs => go 6 (fun _ => false) mixed ?_
  simp (disch := omega) only [↓reduceIte, go_sem] <;> repeat with_reducible refine And.intro (by first | omega | decide) ?_
  rw [rcz]
  refine go 200 (fun _ => false) mixed ?_
  simp (disch := omega) only [↓reduceIte, go_sem] <;> repeat with_reducible refine And.intro (by first | omega | decide) ?_
  refine hN.mono fun r1 H1 ⟨e1, e2⟩ => ?_
  rw [e1, e2]
  refine go 7 (fun _ => false) mixed ?_
  simp (disch := omega) only [↓reduceIte, go_sem] <;> repeat with_reducible refine And.intro (by first | omega | decide) ?_
  refine Runs.ghost (by rfl) (Ghost.keep [true, true, true, true]) ?_
  refine go 4 (fun _ => false) mixed ?_
  simp (disch := omega) only [↓reduceIte, go_sem, ord58_2] <;> repeat with_reducible refine And.intro (by first | omega | decide) ?_
  refine with_dr fun all k Φ hall hk hΦ => ?_
  have tl2 : Runs Try.prog (tdOf Try.prog) ord58 H (.dr all [6, 7, 8, 9, 10, 11] :: k) (slots 72 [.ptr i 0 0, .ptr H.length 0 0, .ptr (H.length + 1) 0 0, .ptr (H.length + 2) 0 0, .any, .any, .any, .any, .any, .any, .any, .ptr i 0 0, .int .i64 (nb.1 : Nat), .ptr i 0 0, .int .i64 (nc.1 : Nat), .ptr i 0 0, .int .i64 (nd.1 : Nat)])
      (hpX H i B nd.2 [some (.cells 0 (rcC ⟨na.1, 0, 0, 0, 0, z16, [], []⟩))]) Φ := by
    rw [hall, hk, hΦ]
    clear hall hk hΦ
    have hG3 : ∀ a b c d e, (rcC ⟨na.1, a, b, c, d, z16, [], e⟩).getD 3 .any = .int .i64 c := fun _ _ _ _ _ => rfl
    have hlX : ∀ a b c d e, (rcC ⟨na.1, a, b, c, d, z16, [], e⟩).length = 23 := fun _ _ _ _ _ => rcC_len rfl
    refine go 13 (fun _ => false) mixed ?_
    simp (disch := omega) only [↓reduceIte, go_sem, hpX, obj_tails, set_tails, hlX, rcC_set1, rcC_set2, rcC_set3] <;> repeat with_reducible refine And.intro (by first | omega | decide) ?_
    refine go 1 (fun _ => false) mixed ?_
    simp (disch := omega) only [↓reduceIte, go_sem] <;> repeat with_reducible refine And.intro (by first | omega | decide) ?_
    refine with_k fun k Φ hk hΦ => ?_
    have hlXX : (rcC (x0S na.1 nb.1 nc.1 nd.1)).length = 23 := rcC_len rfl
    have hkc : k.all calmB = true := by rw [hk]; rfl
    have tl3 : Runs Try.prog (tdOf Try.prog) ord58 H k (slots 72 [.ptr i 0 0, .ptr H.length 0 0, .ptr (H.length + 1) 0 0, .ptr (H.length + 2) 0 0]) (hpX H i B nd.2 [some (.cells 0 (rcC (x0S na.1 nb.1 nc.1 nd.1)))]) Φ := by
      rw [hk, hΦ]
      clear hk hΦ
      have he2 := number_at (H := H) (i := i) (l := [some (.cells 0 (rcC (x0S na.1 nb.1 nc.1 nd.1)))]) 2 (by omega) l1 wd hB
      rw [hne] at he2
      refine go 200 (fun _ => false) mixed ?_
      simp (disch := omega) only [↓reduceIte, go_sem, hpX, obj_tail0s, obj_zero] <;> repeat with_reducible refine And.intro (by first | omega | decide) ?_
      refine he2.mono fun r5 H5 ⟨e1, e2⟩ => ?_
      rw [e1, e2]
      clear he2 hb2 hc2 hd2 hN
      have htk : List.take 23 (rcC (x0S na.1 nb.1 nc.1 nd.1)) = rcC (x0S na.1 nb.1 nc.1 nd.1) := List.take_of_length_le (by omega)
      have hone : (rcC (x0S na.1 nb.1 nc.1 nd.1)).all PV.one = true := by simp [rcC, u8s_one, PV.one]
      have hdr : List.drop 23 (rcC rc0) = [] := rfl
      have hl23 : (rcC rc0).length = 23 := rfl
      have hx0 : (x0S na.1 nb.1 nc.1 nd.1).ab.length = 16 := rfl
      have g1X : (rcC (x0S na.1 nb.1 nc.1 nd.1)).getD 1 .any = .int .i64 (nb.1 : Nat) := rfl
      generalize hX : x0S na.1 nb.1 nc.1 nd.1 = X at *
      have oi : ∀ L, obj (H.set i (rdO B ne.2) ++ L) i 0 = some (rdC B ne.2) := fun L => obj_of (by rw [get_app_lt (by simpa using l1), get_set_self l1]; rfl)
      refine go 5 (fun _ => false) mixed ?_
      simp (disch := omega) only [↓reduceIte, go_sem, hpX] <;> repeat with_reducible refine And.intro (by first | omega | decide) ?_
      refine Runs.ghost (by rfl) (Ghost.keep [true, true, true, true, true]) ?_
      refine go 4 (fun _ => false) mixed ?_
      simp (disch := omega) only [↓reduceIte, go_sem, ord58_6, ord58_7, oi, rdC, obj_tails, obj_tail0s, obj_zero, obj_succ] <;> repeat with_reducible refine And.intro (by first | omega | decide) ?_
      refine go 4 (fun _ => false) mixed ?_
      simp (disch := omega) only [↓reduceIte, go_sem, ord58_6, ord58_7, oi, rdC, obj_tails, obj_tail0s, obj_zero, obj_succ] <;> repeat with_reducible refine And.intro (by first | omega | decide) ?_
      refine go 2 (fun _ => false) mixed ?_
      simp (disch := omega) only [↓reduceIte, go_sem, ord58_6, ord58_7, oi, rdC, obj_tails, obj_tail0s, obj_zero, obj_succ] <;> repeat with_reducible refine And.intro (by first | omega | decide) ?_
      refine go 2 (fun _ => false) mixed ?_
      simp (disch := omega) only [↓reduceIte, go_sem, ord58_6, ord58_7, oi, rdC, obj_tails, obj_tail0s, obj_zero, obj_succ] <;> repeat with_reducible refine And.intro (by first | omega | decide) ?_
      refine go 2 (fun _ => false) mixed ?_
      simp (disch := omega) only [↓reduceIte, go_sem, ord58_6, ord58_7, oi, rdC, obj_tails, obj_tail0s, obj_zero, obj_succ] <;> repeat with_reducible refine And.intro (by first | omega | decide) ?_
      refine go 2 (fun _ => false) mixed ?_
      simp (disch := omega) only [↓reduceIte, go_sem, ord58_6, ord58_7, oi, rdC, obj_tails, obj_tail0s, obj_zero, obj_succ] <;> repeat with_reducible refine And.intro (by first | omega | decide) ?_
      refine go 4 (fun _ => false) mixed ?_
      simp (disch := omega) only [↓reduceIte, go_sem, ord58_6, ord58_7, oi, rdC, obj_tails, obj_tail0s, obj_zero, obj_succ] <;> repeat with_reducible refine And.intro (by first | omega | decide) ?_
      refine go 4 (fun _ => false) mixed ?_
      simp (disch := omega) only [↓reduceIte, go_sem, ord58_6, ord58_7, oi, rdC, obj_tails, obj_tail0s, obj_zero, obj_succ] <;> repeat with_reducible refine And.intro (by first | omega | decide) ?_
      refine go 4 (fun _ => false) mixed ?_
      simp (disch := omega) only [↓reduceIte, go_sem, ord58_6, ord58_7, oi, rdC, obj_tails, obj_tail0s, obj_zero, obj_succ] <;> repeat with_reducible refine And.intro (by first | omega | decide) ?_
      refine go 4 (fun _ => false) mixed ?_
      simp (disch := omega) only [↓reduceIte, go_sem, ord58_6, ord58_7, oi, rdC, obj_tails, obj_tail0s, obj_zero, obj_succ] <;> repeat with_reducible refine And.intro (by first | omega | decide) ?_
      refine go 4 (fun _ => false) mixed ?_
      simp (disch := omega) only [↓reduceIte, go_sem, ord58_6, ord58_7, oi, rdC, obj_tails, obj_tail0s, obj_zero, obj_succ] <;> repeat with_reducible refine And.intro (by first | omega | decide) ?_
      refine go 4 (fun _ => false) mixed ?_
      simp (disch := omega) only [↓reduceIte, go_sem, ord58_6, ord58_7, oi, rdC, obj_tails, obj_tail0s, obj_zero, obj_succ] <;> repeat with_reducible refine And.intro (by first | omega | decide) ?_
      refine go 4 (fun _ => false) mixed ?_
      simp (disch := omega) only [↓reduceIte, go_sem, ord58_6, ord58_7, oi, rdC, obj_tails, obj_tail0s, obj_zero, obj_succ] <;> repeat with_reducible refine And.intro (by first | omega | decide) ?_
      refine go 2 (fun _ => false) mixed ?_
      simp (disch := omega) only [↓reduceIte, go_sem, oi, rdC, obj_tails, obj_tail0s, obj_zero, obj_succ] <;> repeat with_reducible refine And.intro (by first | omega | decide) ?_
      have hF : SCall Try.prog 59 [.ptr i 0 0, .int .i64 2] (hpX H i B ne.2 [some (.cells 0 (rcC X)), some (.cells 0 [.int .i64 (ne.1 : Nat)])]) fun _ H' => H' = hpX H i B (failS 2 ne.2) [some (.cells 0 (rcC X)), some (.cells 0 [.int .i64 (ne.1 : Nat)])] :=
        (c_wire_reader_fail 2 (hpX_at l1)).mono fun r H' e => by rw [e, hpX_set l1]
      refine Runs.ghost (by rfl) (Ghost.keep [true, true, true, true, true, true, false, false, false, false, false, false, false, false, false, false, false, false, false, false, false, false, false, false, false, false, false, false, false, false, false, false, false, false, false, false, false, false, false, false, false, false, false, true]) ?_
      by_cases hlong : B.length - ne.2.1 < ne.1
      · have hlast : lastS B nb.1 X ne = (X, failS 2 ne.2) := by unfold lastS; rw [if_pos hlong]
        rw [hlast]
        refine go 200 (fun _ => false) mixed ?_
        simp (disch := omega) only [↓reduceIte, go_sem, hlong, hpX, obj_tail0s, obj_zero] <;> repeat with_reducible refine And.intro (by first | omega | decide) ?_
        refine hF.mono fun r6 H6 e1 => ?_
        rw [e1]
        refine go 200 (fun _ => false) mixed ?_
        simp (disch := omega) only [↓reduceIte, go_sem, hpX, obj_tails, obj_tail0s, hlXX, htk, hone, hl23] <;> repeat with_reducible refine And.intro (by first | omega | decide) ?_
        exact EndsD.same (r := rcV X) (.inr rfl) (by (simp (disch := omega) only [↓reduceIte, go_sem, hlXX, htk, hdr, List.append_nil] <;> repeat with_reducible refine And.intro (by first | omega | decide) ?_); rfl) ⟨_, rfl, rfl⟩
      refine go 9 (fun _ => false) mixed ?_
      simp (disch := omega) only [↓reduceIte, go_sem, hlong] <;> repeat with_reducible refine And.intro (by first | omega | decide) ?_
      refine Runs.ghost (by rfl) (Ghost.keep [true, true, true, true, true, true, true]) ?_
      refine go 1 (fun _ => false) mixed ?_
      simp (disch := omega) only [↓reduceIte, go_sem] <;> repeat with_reducible refine And.intro (by first | omega | decide) ?_
      refine with_k fun k Φ hk hΦ => ?_
      have hkc : k.all calmB = true := by rw [hk]; rfl
      refine go 9 (fun _ => false) mixed ?_
      simp (disch := omega) only [↓reduceIte, go_sem, ord58_11] <;> repeat with_reducible refine And.intro (by first | omega | decide) ?_
      refine with_dr fun all k2 Φ2 hall hk2 hΦ2 => ?_
      rw [hΦ2]
      have tl11 : ∀ es, es.Perm (three H.length) → Runs Try.prog (tdOf Try.prog) ord58 H (.dr all [12, 13] :: k2) (slots 72 [.ptr i 0 0, .ptr H.length 0 0, .ptr (H.length + 1) 0 0, .ptr (H.length + 2) 0 0, .ptr (H.length + 3) 0 0, .int .i64 ((ne.2.1 + ne.1 : Nat) : Int), fa H.length, .any, .any, .any, .any, .any, .any, .any, .any, .any, .any, .any, .any, .any, .any, .any, .any, .any, .any, .any, .any, .any, .any, .any, .any, .any, .any, .any, .any, .any, .any, .any, .any, .any, .any, .any, .any, .any, .any, .any, .any, .any, .mp (H.length + 4), fa H.length, clo H.length 4 4, fa H.length, clo H.length 6 16, cn H.length, .mp (H.length + 4), .ptr (H.length + 2) 0 1, .int .i64 (nb.1 : Nat)]) (hpX H i B ne.2 [some (.cells 0 (rcC X)), some (.cells 0 [.int .i64 (ne.1 : Nat)]), some (.map (mapV natK id es))]) Φ := by
        intro es hp
        rw [hall, hk2]
        clear hall hk2 hΦ2
        obtain ⟨bb, hlk⟩ : ∃ b, lookM (.int .i64 (nb.1 : Nat)) .nilf (mapV natK id es) = (pickF H.length nb.1, b) := ⟨_, lit_look' hp nb.1⟩
        have hkk := lit_keys es
        refine go 5 (fun _ => false) mixed ?_
        simp (disch := omega) only [↓reduceIte, go_sem, hpX, get_tails, hkk, hlk] <;> repeat with_reducible refine And.intro (by first | omega | decide) ?_
        refine Runs.ghost hkc (Ghost.keep [true, true, true, true, true, true, false, true]) ?_
        rw [hk, hΦ]
        clear hk hΦ hkc
        generalize hM : some (OB.map (mapV natK id es)) = M
        refine go 1 (fun _ => false) mixed ?_
        simp (disch := omega) only [↓reduceIte, go_sem] <;> repeat with_reducible refine And.intro (by first | omega | decide) ?_
        refine with_k fun k Φ hk hΦ => ?_
        have tl4 : ∀ (f : Nat) (cap : List PV) (Y : Rc) (s2 : RSt), SCall Try.prog f cap (hpX H i B ne.2 [some (.cells 0 (rcC X)), some (.cells 0 [.int .i64 (ne.1 : Nat)]), M]) (fun _ H' => H' = hpX H i B s2 [some (.cells 0 (rcC Y)), some (.cells 0 [.int .i64 (ne.1 : Nat)]), M]) → Y.ab.length = 16 →
            lastS B nb.1 X ne = (Y, if s2.1 = ne.2.1 + ne.1 then s2 else failS 2 s2) →
            Runs Try.prog (tdOf Try.prog) ord58 H k (slots 72 [.ptr i 0 0, .ptr H.length 0 0, .ptr (H.length + 1) 0 0, .ptr (H.length + 2) 0 0, .ptr (H.length + 3) 0 0, .int .i64 ((ne.2.1 + ne.1 : Nat) : Int), .any, .func (.func f) [] cap])
              (hpX H i B ne.2 [some (.cells 0 (rcC X)), some (.cells 0 [.int .i64 (ne.1 : Nat)]), M]) Φ := by
          intro f cap Y s2 hc hY hlast
          rw [hk, hΦ, hlast]
          clear hk hΦ
          have hYl : (rcC Y).length = 23 := rcC_len hY
          have htk : List.take 23 (rcC Y) = rcC Y := List.take_of_length_le (by omega)
          have hone : (rcC Y).all PV.one = true := by simp [rcC, u8s_one, PV.one]
          have oi2 : ∀ L, obj (H.set i (rdO B s2) ++ L) i 0 = some (rdC B s2) := fun L => obj_of (by rw [get_app_lt (by simpa using l1), get_set_self l1]; rfl)
          have hF : SCall Try.prog 59 [.ptr i 0 0, .int .i64 2] (hpX H i B s2 [some (.cells 0 (rcC Y)), some (.cells 0 [.int .i64 (ne.1 : Nat)]), M]) fun _ H' => H' = hpX H i B (failS 2 s2) [some (.cells 0 (rcC Y)), some (.cells 0 [.int .i64 (ne.1 : Nat)]), M] :=
            (c_wire_reader_fail 2 (hpX_at l1)).mono fun r H' e => by rw [e, hpX_set l1]
          refine go 8 (fun _ => false) mixed ?_
          simp (disch := omega) only [↓reduceIte, go_sem] <;> repeat with_reducible refine And.intro (by first | omega | decide) ?_
          refine hc.mono fun r7 H7 e1 => ?_
          rw [e1]
          refine go 10 (fun _ => false) mixed ?_
          simp (disch := omega) only [↓reduceIte, go_sem, hpX, oi2, rdC, obj_tail0s, obj_zero] <;> repeat with_reducible refine And.intro (by first | omega | decide) ?_
          by_cases heq : s2.1 = ne.2.1 + ne.1
          · have heqT : (s2.1 = ne.2.1 + ne.1) = True := eq_true heq
            refine go 200 (fun _ => false) mixed ?_
            simp (disch := omega) only [↓reduceIte, go_sem, oi2, rdC, heqT, obj_tails, obj_tail0s, obj_zero, hYl, htk, hone, hl23] <;> repeat with_reducible refine And.intro (by first | omega | decide) ?_
            exact EndsD.same (r := rcV Y) (.inr rfl) (by (simp (disch := omega) only [↓reduceIte, go_sem, hYl, htk, hdr, List.append_nil] <;> repeat with_reducible refine And.intro (by first | omega | decide) ?_); rfl) ⟨_, rfl, rfl⟩
          · refine go 200 (fun _ => false) mixed ?_
            simp (disch := omega) only [↓reduceIte, go_sem, oi2, rdC, heq, obj_tails, obj_tail0s, obj_zero] <;> repeat with_reducible refine And.intro (by first | omega | decide) ?_
            refine hF.mono fun r8 H8 e1 => ?_
            rw [e1]
            refine go 200 (fun _ => false) mixed ?_
            simp (disch := omega) only [↓reduceIte, go_sem, hpX, obj_tails, obj_tail0s, obj_zero, hYl, htk, hone, hl23] <;> repeat with_reducible refine And.intro (by first | omega | decide) ?_
            exact EndsD.same (r := rcV Y) (.inr rfl) (by (simp (disch := omega) only [↓reduceIte, go_sem, hYl, htk, hdr, List.append_nil] <;> repeat with_reducible refine And.intro (by first | omega | decide) ?_); rfl) ⟨_, rfl, rfl⟩
        have hkc : k.all calmB = true := by rw [hk]; rfl
        have hn3 : (hpX H i B ne.2 [some (.cells 0 (rcC X)), some (.cells 0 [.int .i64 (ne.1 : Nat)]), M])[H.length + 3]? = some (some (.cells 0 [.int .i64 (ne.1 : Nat)])) := hpX_l (k := 1)
        have hx3 : (hpX H i B ne.2 [some (.cells 0 (rcC X)), some (.cells 0 [.int .i64 (ne.1 : Nat)]), M])[H.length + 2]? = some (some (.cells 0 (rcC X))) := hpX_l (k := 0)
        have hst : ∀ (s2 : RSt) (Y : Rc), ((hpX H i B ne.2 [some (.cells 0 (rcC X)), some (.cells 0 [.int .i64 (ne.1 : Nat)]), M]).set i (rdO B s2)).set (H.length + 2) (some (.cells 0 (rcC Y))) = hpX H i B s2 [some (.cells 0 (rcC Y)), some (.cells 0 [.int .i64 (ne.1 : Nat)]), M] := fun s2 Y => by
          rw [hpX_set l1]; exact hpX_setl (k := 0)
        clear hk hΦ
        by_cases h1 : nb.1 = 1
        · have hp1 : pickF H.length nb.1 = clo H.length 4 4 := by unfold pickF; rw [if_pos h1]
          rw [hp1]
          refine go 9 (fun _ => false) mixed ?_
          simp (disch := omega) only [↓reduceIte, go_sem, clo] <;> repeat with_reducible refine And.intro (by first | omega | decide) ?_
          refine Runs.ghost hkc (Ghost.keep [true, true, true, true, true, true, false, true]) ?_
          refine tl4 _ _ (addrS B 4 4 ne.1 X ne.2).1 (addrS B 4 4 ne.1 X ne.2).2 ((c_wire_reader_record_1_1 4 4 (by omega) (hpX_at l1) hpX_box hn3 hx3 hx0 (by omega) (by omega) (by omega) we hB).mono fun r H' e => by rw [e, hst]) (addrS_len hx0 (by omega) we) ?_
          unfold lastS; rw [if_neg hlong]; unfold readsS; rw [if_pos h1]
        by_cases h2 : nb.1 = 28
        · have hp1 : pickF H.length nb.1 = clo H.length 6 16 := by unfold pickF; rw [if_neg h1, if_pos h2]
          rw [hp1]
          refine go 9 (fun _ => false) mixed ?_
          simp (disch := omega) only [↓reduceIte, go_sem, clo] <;> repeat with_reducible refine And.intro (by first | omega | decide) ?_
          refine Runs.ghost hkc (Ghost.keep [true, true, true, true, true, true, false, true]) ?_
          refine tl4 _ _ (addrS B 6 16 ne.1 X ne.2).1 (addrS B 6 16 ne.1 X ne.2).2 ((c_wire_reader_record_1_1 6 16 (by omega) (hpX_at l1) hpX_box hn3 hx3 hx0 (by omega) (by omega) (by omega) we hB).mono fun r H' e => by rw [e, hst]) (addrS_len hx0 (by omega) we) ?_
          unfold lastS; rw [if_neg hlong]; unfold readsS; rw [if_neg h1, if_pos h2]
        by_cases h3 : nb.1 = 5
        · have hp1 : pickF H.length nb.1 = cn H.length := by unfold pickF; rw [if_neg h1, if_neg h2, if_pos h3]
          rw [hp1]
          refine go 9 (fun _ => false) mixed ?_
          simp (disch := omega) only [↓reduceIte, go_sem, cn] <;> repeat with_reducible refine And.intro (by first | omega | decide) ?_
          refine Runs.ghost hkc (Ghost.keep [true, true, true, true, true, true, false, true]) ?_
          refine tl4 _ _ { X with tgt := (nameS B ne.2).1 } (nameS B ne.2).2 ((c_wire_reader_record_2 (hpX_at l1) hpX_box hx3 hx0 (by omega) we hB).mono fun r H' e => by rw [e, hst]) hx0 ?_
          unfold lastS; rw [if_neg hlong]; unfold readsS; rw [if_neg h1, if_neg h2, if_pos h3]
        · have hp1 : pickF H.length nb.1 = .nilf := by unfold pickF; rw [if_neg h1, if_neg h2, if_neg h3]
          rw [hp1]
          refine go 14 (fun _ => false) mixed ?_
          simp (disch := omega) only [↓reduceIte, go_sem] <;> repeat with_reducible refine And.intro (by first | omega | decide) ?_
          refine Runs.ghost hkc (Ghost.keep [true, true, true, true, true, true, false, true]) ?_
          refine tl4 _ _ { X with dat := (rawS B ne.1 ne.2).1 } (rawS B ne.1 ne.2).2 ((c_wire_reader_record_3 (hpX_at l1) hpX_box hn3 hx3 hx0 (by omega) (by omega) we hB).mono fun r H' e => by rw [e, hst]) hx0 ?_
          unfold lastS; rw [if_neg hlong]; unfold readsS; rw [if_neg h1, if_neg h2, if_neg h3]
      have gMm : all[14]? = none := by rw [hall]; rfl
      have g11_0 := congrArg (fun l : List Oper => l[0]?) hall
      have g11_2 := congrArg (fun l : List Oper => l[2]?) hall
      have g11_3 := congrArg (fun l : List Oper => l[3]?) hall
      have g11_5 := congrArg (fun l : List Oper => l[5]?) hall
      have g11_6 := congrArg (fun l : List Oper => l[6]?) hall
      have g11_8 := congrArg (fun l : List Oper => l[8]?) hall
      have g11_9 := congrArg (fun l : List Oper => l[9]?) hall
      have g11_11 := congrArg (fun l : List Oper => l[11]?) hall
      simp only [List.getElem?_cons_zero, List.getElem?_cons_succ] at g11_0 g11_2 g11_3 g11_5 g11_6 g11_8 g11_9 g11_11
      have ha4 : ∀ {K : Heap}, H.length + 3 < K.length → SCall Try.prog 79 [.int .i64 4, .int .i64 4, .ptr (H.length + 3) 0 0, .ptr H.length 0 0, .ptr (H.length + 2) 0 0] K fun q H' => q = clo H.length 4 4 ∧ H' = K := fun h => c_wire_reader_record_1 4 4 _ _ _ h (by omega) (by omega)
      have ha6 : ∀ {K : Heap}, H.length + 3 < K.length → SCall Try.prog 79 [.int .i64 6, .int .i64 16, .ptr (H.length + 3) 0 0, .ptr H.length 0 0, .ptr (H.length + 2) 0 0] K fun q H' => q = clo H.length 6 16 ∧ H' = K := fun h => c_wire_reader_record_1 6 16 _ _ _ h (by omega) (by omega)
      clear hall hk2 hΦ2 hk hΦ
      have stm_6 : Runs Try.prog (tdOf Try.prog) ord58 H (.dr all o58_m_0 :: k2) (slots 72 [.ptr i 0 0, .ptr H.length 0 0, .ptr (H.length + 1) 0 0, .ptr (H.length + 2) 0 0, .ptr (H.length + 3) 0 0, .int .i64 ((ne.2.1 + ne.1 : Nat) : Int), fa H.length, .any, .any, .any, .any, .any, .any, .any, .any, .any, .any, .any, .any, .any, .any, .any, .any, .any, .any, .any, .any, .any, .any, .any, .any, .any, .any, .any, .any, .any, .any, .any, .any, .any, .any, .any, .any, .any, .any, .any, .any, .any, .mp (H.length + 4), fa H.length, clo H.length 4 4, fa H.length, clo H.length 6 16, cn H.length, .any, .ptr (H.length + 2) 0 1, .any]) (hpX H i B ne.2 [some (.cells 0 (rcC X)), some (.cells 0 [.int .i64 (ne.1 : Nat)]), some (.map (mapV natK id [(1, clo H.length 4 4), (28, clo H.length 6 16), (5, cn H.length)]))]) Φ := by
        show Runs Try.prog (tdOf Try.prog) ord58 H (.dr all ([9, 11, 12, 13]) :: k2) _ _ Φ
        refine go 2 (fun _ => false) mixed ?_
        simp (disch := omega) only [↓reduceIte, go_sem, g11_9] <;> repeat with_reducible refine And.intro (by first | omega | decide) ?_
        refine go 2 (fun _ => false) mixed ?_
        simp (disch := omega) only [↓reduceIte, go_sem, g11_11, hpX, obj_tails, hlXX, g1X] <;> repeat with_reducible refine And.intro (by first | omega | decide) ?_
        exact tl11 [(1, clo H.length 4 4), (28, clo H.length 6 16), (5, cn H.length)] lit_p368
      have stm_8 : Runs Try.prog (tdOf Try.prog) ord58 H (.dr all o58_m_1 :: k2) (slots 72 [.ptr i 0 0, .ptr H.length 0 0, .ptr (H.length + 1) 0 0, .ptr (H.length + 2) 0 0, .ptr (H.length + 3) 0 0, .int .i64 ((ne.2.1 + ne.1 : Nat) : Int), fa H.length, .any, .any, .any, .any, .any, .any, .any, .any, .any, .any, .any, .any, .any, .any, .any, .any, .any, .any, .any, .any, .any, .any, .any, .any, .any, .any, .any, .any, .any, .any, .any, .any, .any, .any, .any, .any, .any, .any, .any, .any, .any, .mp (H.length + 4), fa H.length, clo H.length 4 4, fa H.length, clo H.length 6 16, cn H.length, .any, .ptr (H.length + 2) 0 1, .int .i64 (nb.1 : Nat)]) (hpX H i B ne.2 [some (.cells 0 (rcC X)), some (.cells 0 [.int .i64 (ne.1 : Nat)]), some (.map (mapV natK id [(1, clo H.length 4 4), (28, clo H.length 6 16), (5, cn H.length)]))]) Φ := by
        show Runs Try.prog (tdOf Try.prog) ord58 H (.dr all ([9, 12, 13]) :: k2) _ _ Φ
        refine go 2 (fun _ => false) mixed ?_
        simp (disch := omega) only [↓reduceIte, go_sem, g11_9] <;> repeat with_reducible refine And.intro (by first | omega | decide) ?_
        exact tl11 [(1, clo H.length 4 4), (28, clo H.length 6 16), (5, cn H.length)] lit_p368
      have stm_7 : Runs Try.prog (tdOf Try.prog) ord58 H (.dr all o58_m_2 :: k2) (slots 72 [.ptr i 0 0, .ptr H.length 0 0, .ptr (H.length + 1) 0 0, .ptr (H.length + 2) 0 0, .ptr (H.length + 3) 0 0, .int .i64 ((ne.2.1 + ne.1 : Nat) : Int), fa H.length, .any, .any, .any, .any, .any, .any, .any, .any, .any, .any, .any, .any, .any, .any, .any, .any, .any, .any, .any, .any, .any, .any, .any, .any, .any, .any, .any, .any, .any, .any, .any, .any, .any, .any, .any, .any, .any, .any, .any, .any, .any, .mp (H.length + 4), fa H.length, clo H.length 4 4, fa H.length, clo H.length 6 16, cn H.length, .any, .ptr (H.length + 2) 0 1, .int .i64 (nb.1 : Nat)]) (hpX H i B ne.2 [some (.cells 0 (rcC X)), some (.cells 0 [.int .i64 (ne.1 : Nat)]), some (.map (mapV natK id [(1, clo H.length 4 4), (28, clo H.length 6 16)]))]) Φ := by
        show Runs Try.prog (tdOf Try.prog) ord58 H (.dr all (8 :: o58_m_1) :: k2) _ _ Φ
        have hp := lit_put (k := 5) (v := cn H.length) (es := [(1, clo H.length 4 4), (28, clo H.length 6 16)]) (by show 5 ∉ [1, 28]; decide)
        have hk := lit_keys [(1, clo H.length 4 4), (28, clo H.length 6 16)]
        refine go 2 (fun _ => false) mixed ?_
        simp (disch := omega) only [↓reduceIte, go_sem, g11_8, hpX, set_tails, get_tails, hp, hk] <;> repeat with_reducible refine And.intro (by first | omega | decide) ?_
        exact stm_8
      have stm_5 : Runs Try.prog (tdOf Try.prog) ord58 H (.dr all o58_m_3 :: k2) (slots 72 [.ptr i 0 0, .ptr H.length 0 0, .ptr (H.length + 1) 0 0, .ptr (H.length + 2) 0 0, .ptr (H.length + 3) 0 0, .int .i64 ((ne.2.1 + ne.1 : Nat) : Int), fa H.length, .any, .any, .any, .any, .any, .any, .any, .any, .any, .any, .any, .any, .any, .any, .any, .any, .any, .any, .any, .any, .any, .any, .any, .any, .any, .any, .any, .any, .any, .any, .any, .any, .any, .any, .any, .any, .any, .any, .any, .any, .any, .mp (H.length + 4), fa H.length, clo H.length 4 4, fa H.length, clo H.length 6 16, cn H.length, .any, .ptr (H.length + 2) 0 1, .any]) (hpX H i B ne.2 [some (.cells 0 (rcC X)), some (.cells 0 [.int .i64 (ne.1 : Nat)]), some (.map (mapV natK id [(1, clo H.length 4 4), (28, clo H.length 6 16)]))]) Φ := by
        refine runs_fork (l1 := 8 :: o58_m_0) (l2 := 11 :: o58_m_2) gMm rfl ?_ ?_
        · have hp := lit_put (k := 5) (v := cn H.length) (es := [(1, clo H.length 4 4), (28, clo H.length 6 16)]) (by show 5 ∉ [1, 28]; decide)
          have hk := lit_keys [(1, clo H.length 4 4), (28, clo H.length 6 16)]
          refine go 2 (fun _ => false) mixed ?_
          simp (disch := omega) only [↓reduceIte, go_sem, g11_8, hpX, set_tails, get_tails, hp, hk] <;> repeat with_reducible refine And.intro (by first | omega | decide) ?_
          exact stm_6
        refine go 2 (fun _ => false) mixed ?_
        simp (disch := omega) only [↓reduceIte, go_sem, g11_11, hpX, obj_tails, hlXX, g1X] <;> repeat with_reducible refine And.intro (by first | omega | decide) ?_
        exact stm_7
      have stm_10 : Runs Try.prog (tdOf Try.prog) ord58 H (.dr all o58_m_0 :: k2) (slots 72 [.ptr i 0 0, .ptr H.length 0 0, .ptr (H.length + 1) 0 0, .ptr (H.length + 2) 0 0, .ptr (H.length + 3) 0 0, .int .i64 ((ne.2.1 + ne.1 : Nat) : Int), fa H.length, .any, .any, .any, .any, .any, .any, .any, .any, .any, .any, .any, .any, .any, .any, .any, .any, .any, .any, .any, .any, .any, .any, .any, .any, .any, .any, .any, .any, .any, .any, .any, .any, .any, .any, .any, .any, .any, .any, .any, .any, .any, .mp (H.length + 4), fa H.length, clo H.length 4 4, fa H.length, clo H.length 6 16, cn H.length, .any, .ptr (H.length + 2) 0 1, .any]) (hpX H i B ne.2 [some (.cells 0 (rcC X)), some (.cells 0 [.int .i64 (ne.1 : Nat)]), some (.map (mapV natK id [(1, clo H.length 4 4), (5, cn H.length), (28, clo H.length 6 16)]))]) Φ := by
        show Runs Try.prog (tdOf Try.prog) ord58 H (.dr all ([9, 11, 12, 13]) :: k2) _ _ Φ
        refine go 2 (fun _ => false) mixed ?_
        simp (disch := omega) only [↓reduceIte, go_sem, g11_9] <;> repeat with_reducible refine And.intro (by first | omega | decide) ?_
        refine go 2 (fun _ => false) mixed ?_
        simp (disch := omega) only [↓reduceIte, go_sem, g11_11, hpX, obj_tails, hlXX, g1X] <;> repeat with_reducible refine And.intro (by first | omega | decide) ?_
        exact tl11 [(1, clo H.length 4 4), (5, cn H.length), (28, clo H.length 6 16)] lit_p386
      have stm_12 : Runs Try.prog (tdOf Try.prog) ord58 H (.dr all o58_m_1 :: k2) (slots 72 [.ptr i 0 0, .ptr H.length 0 0, .ptr (H.length + 1) 0 0, .ptr (H.length + 2) 0 0, .ptr (H.length + 3) 0 0, .int .i64 ((ne.2.1 + ne.1 : Nat) : Int), fa H.length, .any, .any, .any, .any, .any, .any, .any, .any, .any, .any, .any, .any, .any, .any, .any, .any, .any, .any, .any, .any, .any, .any, .any, .any, .any, .any, .any, .any, .any, .any, .any, .any, .any, .any, .any, .any, .any, .any, .any, .any, .any, .mp (H.length + 4), fa H.length, clo H.length 4 4, fa H.length, clo H.length 6 16, cn H.length, .any, .ptr (H.length + 2) 0 1, .int .i64 (nb.1 : Nat)]) (hpX H i B ne.2 [some (.cells 0 (rcC X)), some (.cells 0 [.int .i64 (ne.1 : Nat)]), some (.map (mapV natK id [(1, clo H.length 4 4), (5, cn H.length), (28, clo H.length 6 16)]))]) Φ := by
        show Runs Try.prog (tdOf Try.prog) ord58 H (.dr all ([9, 12, 13]) :: k2) _ _ Φ
        refine go 2 (fun _ => false) mixed ?_
        simp (disch := omega) only [↓reduceIte, go_sem, g11_9] <;> repeat with_reducible refine And.intro (by first | omega | decide) ?_
        exact tl11 [(1, clo H.length 4 4), (5, cn H.length), (28, clo H.length 6 16)] lit_p386
      have stm_11 : Runs Try.prog (tdOf Try.prog) ord58 H (.dr all o58_m_4 :: k2) (slots 72 [.ptr i 0 0, .ptr H.length 0 0, .ptr (H.length + 1) 0 0, .ptr (H.length + 2) 0 0, .ptr (H.length + 3) 0 0, .int .i64 ((ne.2.1 + ne.1 : Nat) : Int), fa H.length, .any, .any, .any, .any, .any, .any, .any, .any, .any, .any, .any, .any, .any, .any, .any, .any, .any, .any, .any, .any, .any, .any, .any, .any, .any, .any, .any, .any, .any, .any, .any, .any, .any, .any, .any, .any, .any, .any, .any, .any, .any, .mp (H.length + 4), fa H.length, clo H.length 4 4, fa H.length, clo H.length 6 16, cn H.length, .any, .ptr (H.length + 2) 0 1, .int .i64 (nb.1 : Nat)]) (hpX H i B ne.2 [some (.cells 0 (rcC X)), some (.cells 0 [.int .i64 (ne.1 : Nat)]), some (.map (mapV natK id [(1, clo H.length 4 4), (5, cn H.length)]))]) Φ := by
        show Runs Try.prog (tdOf Try.prog) ord58 H (.dr all (6 :: o58_m_1) :: k2) _ _ Φ
        have hp := lit_put (k := 28) (v := clo H.length 6 16) (es := [(1, clo H.length 4 4), (5, cn H.length)]) (by show 28 ∉ [1, 5]; decide)
        have hk := lit_keys [(1, clo H.length 4 4), (5, cn H.length)]
        refine go 2 (fun _ => false) mixed ?_
        simp (disch := omega) only [↓reduceIte, go_sem, g11_6, hpX, set_tails, get_tails, hp, hk] <;> repeat with_reducible refine And.intro (by first | omega | decide) ?_
        exact stm_12
      have stm_9 : Runs Try.prog (tdOf Try.prog) ord58 H (.dr all o58_m_5 :: k2) (slots 72 [.ptr i 0 0, .ptr H.length 0 0, .ptr (H.length + 1) 0 0, .ptr (H.length + 2) 0 0, .ptr (H.length + 3) 0 0, .int .i64 ((ne.2.1 + ne.1 : Nat) : Int), fa H.length, .any, .any, .any, .any, .any, .any, .any, .any, .any, .any, .any, .any, .any, .any, .any, .any, .any, .any, .any, .any, .any, .any, .any, .any, .any, .any, .any, .any, .any, .any, .any, .any, .any, .any, .any, .any, .any, .any, .any, .any, .any, .mp (H.length + 4), fa H.length, clo H.length 4 4, fa H.length, clo H.length 6 16, cn H.length, .any, .ptr (H.length + 2) 0 1, .any]) (hpX H i B ne.2 [some (.cells 0 (rcC X)), some (.cells 0 [.int .i64 (ne.1 : Nat)]), some (.map (mapV natK id [(1, clo H.length 4 4), (5, cn H.length)]))]) Φ := by
        refine runs_fork (l1 := 6 :: o58_m_0) (l2 := 11 :: o58_m_4) gMm rfl ?_ ?_
        · have hp := lit_put (k := 28) (v := clo H.length 6 16) (es := [(1, clo H.length 4 4), (5, cn H.length)]) (by show 28 ∉ [1, 5]; decide)
          have hk := lit_keys [(1, clo H.length 4 4), (5, cn H.length)]
          refine go 2 (fun _ => false) mixed ?_
          simp (disch := omega) only [↓reduceIte, go_sem, g11_6, hpX, set_tails, get_tails, hp, hk] <;> repeat with_reducible refine And.intro (by first | omega | decide) ?_
          exact stm_10
        refine go 2 (fun _ => false) mixed ?_
        simp (disch := omega) only [↓reduceIte, go_sem, g11_11, hpX, obj_tails, hlXX, g1X] <;> repeat with_reducible refine And.intro (by first | omega | decide) ?_
        exact stm_11
      have stm_13 : Runs Try.prog (tdOf Try.prog) ord58 H (.dr all o58_m_6 :: k2) (slots 72 [.ptr i 0 0, .ptr H.length 0 0, .ptr (H.length + 1) 0 0, .ptr (H.length + 2) 0 0, .ptr (H.length + 3) 0 0, .int .i64 ((ne.2.1 + ne.1 : Nat) : Int), fa H.length, .any, .any, .any, .any, .any, .any, .any, .any, .any, .any, .any, .any, .any, .any, .any, .any, .any, .any, .any, .any, .any, .any, .any, .any, .any, .any, .any, .any, .any, .any, .any, .any, .any, .any, .any, .any, .any, .any, .any, .any, .any, .mp (H.length + 4), fa H.length, clo H.length 4 4, fa H.length, clo H.length 6 16, cn H.length, .any, .ptr (H.length + 2) 0 1, .int .i64 (nb.1 : Nat)]) (hpX H i B ne.2 [some (.cells 0 (rcC X)), some (.cells 0 [.int .i64 (ne.1 : Nat)]), some (.map (mapV natK id [(1, clo H.length 4 4)]))]) Φ := by
        refine runs_fork (l1 := 6 :: o58_m_2) (l2 := 8 :: o58_m_4) gMm rfl ?_ ?_
        · have hp := lit_put (k := 28) (v := clo H.length 6 16) (es := [(1, clo H.length 4 4)]) (by show 28 ∉ [1]; decide)
          have hk := lit_keys [(1, clo H.length 4 4)]
          refine go 2 (fun _ => false) mixed ?_
          simp (disch := omega) only [↓reduceIte, go_sem, g11_6, hpX, set_tails, get_tails, hp, hk] <;> repeat with_reducible refine And.intro (by first | omega | decide) ?_
          exact stm_7
        have hp := lit_put (k := 5) (v := cn H.length) (es := [(1, clo H.length 4 4)]) (by show 5 ∉ [1]; decide)
        have hk := lit_keys [(1, clo H.length 4 4)]
        refine go 2 (fun _ => false) mixed ?_
        simp (disch := omega) only [↓reduceIte, go_sem, g11_8, hpX, set_tails, get_tails, hp, hk] <;> repeat with_reducible refine And.intro (by first | omega | decide) ?_
        exact stm_11
      have stm_4 : Runs Try.prog (tdOf Try.prog) ord58 H (.dr all o58_m_7 :: k2) (slots 72 [.ptr i 0 0, .ptr H.length 0 0, .ptr (H.length + 1) 0 0, .ptr (H.length + 2) 0 0, .ptr (H.length + 3) 0 0, .int .i64 ((ne.2.1 + ne.1 : Nat) : Int), fa H.length, .any, .any, .any, .any, .any, .any, .any, .any, .any, .any, .any, .any, .any, .any, .any, .any, .any, .any, .any, .any, .any, .any, .any, .any, .any, .any, .any, .any, .any, .any, .any, .any, .any, .any, .any, .any, .any, .any, .any, .any, .any, .mp (H.length + 4), fa H.length, clo H.length 4 4, fa H.length, clo H.length 6 16, cn H.length, .any, .ptr (H.length + 2) 0 1, .any]) (hpX H i B ne.2 [some (.cells 0 (rcC X)), some (.cells 0 [.int .i64 (ne.1 : Nat)]), some (.map (mapV natK id [(1, clo H.length 4 4)]))]) Φ := by
        refine runs_fork (l1 := 6 :: o58_m_3) (l2 := 14 :: (8 :: o58_m_5).length :: ((8 :: o58_m_5) ++ (11 :: o58_m_6))) gMm rfl ?_ ?_
        · have hp := lit_put (k := 28) (v := clo H.length 6 16) (es := [(1, clo H.length 4 4)]) (by show 28 ∉ [1]; decide)
          have hk := lit_keys [(1, clo H.length 4 4)]
          refine go 2 (fun _ => false) mixed ?_
          simp (disch := omega) only [↓reduceIte, go_sem, g11_6, hpX, set_tails, get_tails, hp, hk] <;> repeat with_reducible refine And.intro (by first | omega | decide) ?_
          exact stm_5
        refine runs_fork (l1 := 8 :: o58_m_5) (l2 := 11 :: o58_m_6) gMm rfl ?_ ?_
        · have hp := lit_put (k := 5) (v := cn H.length) (es := [(1, clo H.length 4 4)]) (by show 5 ∉ [1]; decide)
          have hk := lit_keys [(1, clo H.length 4 4)]
          refine go 2 (fun _ => false) mixed ?_
          simp (disch := omega) only [↓reduceIte, go_sem, g11_8, hpX, set_tails, get_tails, hp, hk] <;> repeat with_reducible refine And.intro (by first | omega | decide) ?_
          exact stm_9
        refine go 2 (fun _ => false) mixed ?_
        simp (disch := omega) only [↓reduceIte, go_sem, g11_11, hpX, obj_tails, hlXX, g1X] <;> repeat with_reducible refine And.intro (by first | omega | decide) ?_
        exact stm_13
      have stm_15 : Runs Try.prog (tdOf Try.prog) ord58 H (.dr all o58_m_8 :: k2) (slots 72 [.ptr i 0 0, .ptr H.length 0 0, .ptr (H.length + 1) 0 0, .ptr (H.length + 2) 0 0, .ptr (H.length + 3) 0 0, .int .i64 ((ne.2.1 + ne.1 : Nat) : Int), fa H.length, .any, .any, .any, .any, .any, .any, .any, .any, .any, .any, .any, .any, .any, .any, .any, .any, .any, .any, .any, .any, .any, .any, .any, .any, .any, .any, .any, .any, .any, .any, .any, .any, .any, .any, .any, .any, .any, .any, .any, .any, .any, .mp (H.length + 4), fa H.length, clo H.length 4 4, fa H.length, .any, cn H.length, .any, .ptr (H.length + 2) 0 1, .int .i64 (nb.1 : Nat)]) (hpX H i B ne.2 [some (.cells 0 (rcC X)), some (.cells 0 [.int .i64 (ne.1 : Nat)]), some (.map (mapV natK id [(1, clo H.length 4 4), (5, cn H.length)]))]) Φ := by
        show Runs Try.prog (tdOf Try.prog) ord58 H (.dr all (5 :: o58_m_4) :: k2) _ _ Φ
        refine go 2 (fun _ => false) mixed ?_
        simp (disch := omega) only [↓reduceIte, go_sem, g11_5, fa] <;> repeat with_reducible refine And.intro (by first | omega | decide) ?_
        refine (ha6 (by simp [hpX])).mono fun r H' ⟨e1, e2⟩ => ?_
        rw [e1, e2]
        exact stm_11
      have stm_14 : Runs Try.prog (tdOf Try.prog) ord58 H (.dr all o58_m_9 :: k2) (slots 72 [.ptr i 0 0, .ptr H.length 0 0, .ptr (H.length + 1) 0 0, .ptr (H.length + 2) 0 0, .ptr (H.length + 3) 0 0, .int .i64 ((ne.2.1 + ne.1 : Nat) : Int), fa H.length, .any, .any, .any, .any, .any, .any, .any, .any, .any, .any, .any, .any, .any, .any, .any, .any, .any, .any, .any, .any, .any, .any, .any, .any, .any, .any, .any, .any, .any, .any, .any, .any, .any, .any, .any, .any, .any, .any, .any, .any, .any, .mp (H.length + 4), fa H.length, clo H.length 4 4, fa H.length, .any, cn H.length, .any, .ptr (H.length + 2) 0 1, .any]) (hpX H i B ne.2 [some (.cells 0 (rcC X)), some (.cells 0 [.int .i64 (ne.1 : Nat)]), some (.map (mapV natK id [(1, clo H.length 4 4), (5, cn H.length)]))]) Φ := by
        refine runs_fork (l1 := 5 :: o58_m_5) (l2 := 11 :: o58_m_8) gMm rfl ?_ ?_
        · refine go 2 (fun _ => false) mixed ?_
          simp (disch := omega) only [↓reduceIte, go_sem, g11_5, fa] <;> repeat with_reducible refine And.intro (by first | omega | decide) ?_
          refine (ha6 (by simp [hpX])).mono fun r H' ⟨e1, e2⟩ => ?_
          rw [e1, e2]
          exact stm_9
        refine go 2 (fun _ => false) mixed ?_
        simp (disch := omega) only [↓reduceIte, go_sem, g11_11, hpX, obj_tails, hlXX, g1X] <;> repeat with_reducible refine And.intro (by first | omega | decide) ?_
        exact stm_15
      have stm_16 : Runs Try.prog (tdOf Try.prog) ord58 H (.dr all o58_m_10 :: k2) (slots 72 [.ptr i 0 0, .ptr H.length 0 0, .ptr (H.length + 1) 0 0, .ptr (H.length + 2) 0 0, .ptr (H.length + 3) 0 0, .int .i64 ((ne.2.1 + ne.1 : Nat) : Int), fa H.length, .any, .any, .any, .any, .any, .any, .any, .any, .any, .any, .any, .any, .any, .any, .any, .any, .any, .any, .any, .any, .any, .any, .any, .any, .any, .any, .any, .any, .any, .any, .any, .any, .any, .any, .any, .any, .any, .any, .any, .any, .any, .mp (H.length + 4), fa H.length, clo H.length 4 4, fa H.length, .any, cn H.length, .any, .ptr (H.length + 2) 0 1, .int .i64 (nb.1 : Nat)]) (hpX H i B ne.2 [some (.cells 0 (rcC X)), some (.cells 0 [.int .i64 (ne.1 : Nat)]), some (.map (mapV natK id [(1, clo H.length 4 4)]))]) Φ := by
        refine runs_fork (l1 := 5 :: o58_m_6) (l2 := 8 :: o58_m_8) gMm rfl ?_ ?_
        · refine go 2 (fun _ => false) mixed ?_
          simp (disch := omega) only [↓reduceIte, go_sem, g11_5, fa] <;> repeat with_reducible refine And.intro (by first | omega | decide) ?_
          refine (ha6 (by simp [hpX])).mono fun r H' ⟨e1, e2⟩ => ?_
          rw [e1, e2]
          exact stm_13
        have hp := lit_put (k := 5) (v := cn H.length) (es := [(1, clo H.length 4 4)]) (by show 5 ∉ [1]; decide)
        have hk := lit_keys [(1, clo H.length 4 4)]
        refine go 2 (fun _ => false) mixed ?_
        simp (disch := omega) only [↓reduceIte, go_sem, g11_8, hpX, set_tails, get_tails, hp, hk] <;> repeat with_reducible refine And.intro (by first | omega | decide) ?_
        exact stm_15
      have stm_3 : Runs Try.prog (tdOf Try.prog) ord58 H (.dr all o58_m_11 :: k2) (slots 72 [.ptr i 0 0, .ptr H.length 0 0, .ptr (H.length + 1) 0 0, .ptr (H.length + 2) 0 0, .ptr (H.length + 3) 0 0, .int .i64 ((ne.2.1 + ne.1 : Nat) : Int), fa H.length, .any, .any, .any, .any, .any, .any, .any, .any, .any, .any, .any, .any, .any, .any, .any, .any, .any, .any, .any, .any, .any, .any, .any, .any, .any, .any, .any, .any, .any, .any, .any, .any, .any, .any, .any, .any, .any, .any, .any, .any, .any, .mp (H.length + 4), fa H.length, clo H.length 4 4, fa H.length, .any, cn H.length, .any, .ptr (H.length + 2) 0 1, .any]) (hpX H i B ne.2 [some (.cells 0 (rcC X)), some (.cells 0 [.int .i64 (ne.1 : Nat)]), some (.map (mapV natK id [(1, clo H.length 4 4)]))]) Φ := by
        refine runs_fork (l1 := 5 :: o58_m_7) (l2 := 14 :: (8 :: o58_m_9).length :: ((8 :: o58_m_9) ++ (11 :: o58_m_10))) gMm rfl ?_ ?_
        · refine go 2 (fun _ => false) mixed ?_
          simp (disch := omega) only [↓reduceIte, go_sem, g11_5, fa] <;> repeat with_reducible refine And.intro (by first | omega | decide) ?_
          refine (ha6 (by simp [hpX])).mono fun r H' ⟨e1, e2⟩ => ?_
          rw [e1, e2]
          exact stm_4
        refine runs_fork (l1 := 8 :: o58_m_9) (l2 := 11 :: o58_m_10) gMm rfl ?_ ?_
        · have hp := lit_put (k := 5) (v := cn H.length) (es := [(1, clo H.length 4 4)]) (by show 5 ∉ [1]; decide)
          have hk := lit_keys [(1, clo H.length 4 4)]
          refine go 2 (fun _ => false) mixed ?_
          simp (disch := omega) only [↓reduceIte, go_sem, g11_8, hpX, set_tails, get_tails, hp, hk] <;> repeat with_reducible refine And.intro (by first | omega | decide) ?_
          exact stm_14
        refine go 2 (fun _ => false) mixed ?_
        simp (disch := omega) only [↓reduceIte, go_sem, g11_11, hpX, obj_tails, hlXX, g1X] <;> repeat with_reducible refine And.intro (by first | omega | decide) ?_
        exact stm_16
      have stm_20 : Runs Try.prog (tdOf Try.prog) ord58 H (.dr all o58_m_0 :: k2) (slots 72 [.ptr i 0 0, .ptr H.length 0 0, .ptr (H.length + 1) 0 0, .ptr (H.length + 2) 0 0, .ptr (H.length + 3) 0 0, .int .i64 ((ne.2.1 + ne.1 : Nat) : Int), fa H.length, .any, .any, .any, .any, .any, .any, .any, .any, .any, .any, .any, .any, .any, .any, .any, .any, .any, .any, .any, .any, .any, .any, .any, .any, .any, .any, .any, .any, .any, .any, .any, .any, .any, .any, .any, .any, .any, .any, .any, .any, .any, .mp (H.length + 4), fa H.length, clo H.length 4 4, fa H.length, clo H.length 6 16, cn H.length, .any, .ptr (H.length + 2) 0 1, .any]) (hpX H i B ne.2 [some (.cells 0 (rcC X)), some (.cells 0 [.int .i64 (ne.1 : Nat)]), some (.map (mapV natK id [(28, clo H.length 6 16), (1, clo H.length 4 4), (5, cn H.length)]))]) Φ := by
        show Runs Try.prog (tdOf Try.prog) ord58 H (.dr all ([9, 11, 12, 13]) :: k2) _ _ Φ
        refine go 2 (fun _ => false) mixed ?_
        simp (disch := omega) only [↓reduceIte, go_sem, g11_9] <;> repeat with_reducible refine And.intro (by first | omega | decide) ?_
        refine go 2 (fun _ => false) mixed ?_
        simp (disch := omega) only [↓reduceIte, go_sem, g11_11, hpX, obj_tails, hlXX, g1X] <;> repeat with_reducible refine And.intro (by first | omega | decide) ?_
        exact tl11 [(28, clo H.length 6 16), (1, clo H.length 4 4), (5, cn H.length)] lit_p638
      have stm_22 : Runs Try.prog (tdOf Try.prog) ord58 H (.dr all o58_m_1 :: k2) (slots 72 [.ptr i 0 0, .ptr H.length 0 0, .ptr (H.length + 1) 0 0, .ptr (H.length + 2) 0 0, .ptr (H.length + 3) 0 0, .int .i64 ((ne.2.1 + ne.1 : Nat) : Int), fa H.length, .any, .any, .any, .any, .any, .any, .any, .any, .any, .any, .any, .any, .any, .any, .any, .any, .any, .any, .any, .any, .any, .any, .any, .any, .any, .any, .any, .any, .any, .any, .any, .any, .any, .any, .any, .any, .any, .any, .any, .any, .any, .mp (H.length + 4), fa H.length, clo H.length 4 4, fa H.length, clo H.length 6 16, cn H.length, .any, .ptr (H.length + 2) 0 1, .int .i64 (nb.1 : Nat)]) (hpX H i B ne.2 [some (.cells 0 (rcC X)), some (.cells 0 [.int .i64 (ne.1 : Nat)]), some (.map (mapV natK id [(28, clo H.length 6 16), (1, clo H.length 4 4), (5, cn H.length)]))]) Φ := by
        show Runs Try.prog (tdOf Try.prog) ord58 H (.dr all ([9, 12, 13]) :: k2) _ _ Φ
        refine go 2 (fun _ => false) mixed ?_
        simp (disch := omega) only [↓reduceIte, go_sem, g11_9] <;> repeat with_reducible refine And.intro (by first | omega | decide) ?_
        exact tl11 [(28, clo H.length 6 16), (1, clo H.length 4 4), (5, cn H.length)] lit_p638
      have stm_21 : Runs Try.prog (tdOf Try.prog) ord58 H (.dr all o58_m_2 :: k2) (slots 72 [.ptr i 0 0, .ptr H.length 0 0, .ptr (H.length + 1) 0 0, .ptr (H.length + 2) 0 0, .ptr (H.length + 3) 0 0, .int .i64 ((ne.2.1 + ne.1 : Nat) : Int), fa H.length, .any, .any, .any, .any, .any, .any, .any, .any, .any, .any, .any, .any, .any, .any, .any, .any, .any, .any, .any, .any, .any, .any, .any, .any, .any, .any, .any, .any, .any, .any, .any, .any, .any, .any, .any, .any, .any, .any, .any, .any, .any, .mp (H.length + 4), fa H.length, clo H.length 4 4, fa H.length, clo H.length 6 16, cn H.length, .any, .ptr (H.length + 2) 0 1, .int .i64 (nb.1 : Nat)]) (hpX H i B ne.2 [some (.cells 0 (rcC X)), some (.cells 0 [.int .i64 (ne.1 : Nat)]), some (.map (mapV natK id [(28, clo H.length 6 16), (1, clo H.length 4 4)]))]) Φ := by
        show Runs Try.prog (tdOf Try.prog) ord58 H (.dr all (8 :: o58_m_1) :: k2) _ _ Φ
        have hp := lit_put (k := 5) (v := cn H.length) (es := [(28, clo H.length 6 16), (1, clo H.length 4 4)]) (by show 5 ∉ [28, 1]; decide)
        have hk := lit_keys [(28, clo H.length 6 16), (1, clo H.length 4 4)]
        refine go 2 (fun _ => false) mixed ?_
        simp (disch := omega) only [↓reduceIte, go_sem, g11_8, hpX, set_tails, get_tails, hp, hk] <;> repeat with_reducible refine And.intro (by first | omega | decide) ?_
        exact stm_22
      have stm_19 : Runs Try.prog (tdOf Try.prog) ord58 H (.dr all o58_m_3 :: k2) (slots 72 [.ptr i 0 0, .ptr H.length 0 0, .ptr (H.length + 1) 0 0, .ptr (H.length + 2) 0 0, .ptr (H.length + 3) 0 0, .int .i64 ((ne.2.1 + ne.1 : Nat) : Int), fa H.length, .any, .any, .any, .any, .any, .any, .any, .any, .any, .any, .any, .any, .any, .any, .any, .any, .any, .any, .any, .any, .any, .any, .any, .any, .any, .any, .any, .any, .any, .any, .any, .any, .any, .any, .any, .any, .any, .any, .any, .any, .any, .mp (H.length + 4), fa H.length, clo H.length 4 4, fa H.length, clo H.length 6 16, cn H.length, .any, .ptr (H.length + 2) 0 1, .any]) (hpX H i B ne.2 [some (.cells 0 (rcC X)), some (.cells 0 [.int .i64 (ne.1 : Nat)]), some (.map (mapV natK id [(28, clo H.length 6 16), (1, clo H.length 4 4)]))]) Φ := by
        refine runs_fork (l1 := 8 :: o58_m_0) (l2 := 11 :: o58_m_2) gMm rfl ?_ ?_
        · have hp := lit_put (k := 5) (v := cn H.length) (es := [(28, clo H.length 6 16), (1, clo H.length 4 4)]) (by show 5 ∉ [28, 1]; decide)
          have hk := lit_keys [(28, clo H.length 6 16), (1, clo H.length 4 4)]
          refine go 2 (fun _ => false) mixed ?_
          simp (disch := omega) only [↓reduceIte, go_sem, g11_8, hpX, set_tails, get_tails, hp, hk] <;> repeat with_reducible refine And.intro (by first | omega | decide) ?_
          exact stm_20
        refine go 2 (fun _ => false) mixed ?_
        simp (disch := omega) only [↓reduceIte, go_sem, g11_11, hpX, obj_tails, hlXX, g1X] <;> repeat with_reducible refine And.intro (by first | omega | decide) ?_
        exact stm_21
      have stm_24 : Runs Try.prog (tdOf Try.prog) ord58 H (.dr all o58_m_0 :: k2) (slots 72 [.ptr i 0 0, .ptr H.length 0 0, .ptr (H.length + 1) 0 0, .ptr (H.length + 2) 0 0, .ptr (H.length + 3) 0 0, .int .i64 ((ne.2.1 + ne.1 : Nat) : Int), fa H.length, .any, .any, .any, .any, .any, .any, .any, .any, .any, .any, .any, .any, .any, .any, .any, .any, .any, .any, .any, .any, .any, .any, .any, .any, .any, .any, .any, .any, .any, .any, .any, .any, .any, .any, .any, .any, .any, .any, .any, .any, .any, .mp (H.length + 4), fa H.length, clo H.length 4 4, fa H.length, clo H.length 6 16, cn H.length, .any, .ptr (H.length + 2) 0 1, .any]) (hpX H i B ne.2 [some (.cells 0 (rcC X)), some (.cells 0 [.int .i64 (ne.1 : Nat)]), some (.map (mapV natK id [(28, clo H.length 6 16), (5, cn H.length), (1, clo H.length 4 4)]))]) Φ := by
        show Runs Try.prog (tdOf Try.prog) ord58 H (.dr all ([9, 11, 12, 13]) :: k2) _ _ Φ
        refine go 2 (fun _ => false) mixed ?_
        simp (disch := omega) only [↓reduceIte, go_sem, g11_9] <;> repeat with_reducible refine And.intro (by first | omega | decide) ?_
        refine go 2 (fun _ => false) mixed ?_
        simp (disch := omega) only [↓reduceIte, go_sem, g11_11, hpX, obj_tails, hlXX, g1X] <;> repeat with_reducible refine And.intro (by first | omega | decide) ?_
        exact tl11 [(28, clo H.length 6 16), (5, cn H.length), (1, clo H.length 4 4)] lit_p683
      have stm_26 : Runs Try.prog (tdOf Try.prog) ord58 H (.dr all o58_m_1 :: k2) (slots 72 [.ptr i 0 0, .ptr H.length 0 0, .ptr (H.length + 1) 0 0, .ptr (H.length + 2) 0 0, .ptr (H.length + 3) 0 0, .int .i64 ((ne.2.1 + ne.1 : Nat) : Int), fa H.length, .any, .any, .any, .any, .any, .any, .any, .any, .any, .any, .any, .any, .any, .any, .any, .any, .any, .any, .any, .any, .any, .any, .any, .any, .any, .any, .any, .any, .any, .any, .any, .any, .any, .any, .any, .any, .any, .any, .any, .any, .any, .mp (H.length + 4), fa H.length, clo H.length 4 4, fa H.length, clo H.length 6 16, cn H.length, .any, .ptr (H.length + 2) 0 1, .int .i64 (nb.1 : Nat)]) (hpX H i B ne.2 [some (.cells 0 (rcC X)), some (.cells 0 [.int .i64 (ne.1 : Nat)]), some (.map (mapV natK id [(28, clo H.length 6 16), (5, cn H.length), (1, clo H.length 4 4)]))]) Φ := by
        show Runs Try.prog (tdOf Try.prog) ord58 H (.dr all ([9, 12, 13]) :: k2) _ _ Φ
        refine go 2 (fun _ => false) mixed ?_
        simp (disch := omega) only [↓reduceIte, go_sem, g11_9] <;> repeat with_reducible refine And.intro (by first | omega | decide) ?_
        exact tl11 [(28, clo H.length 6 16), (5, cn H.length), (1, clo H.length 4 4)] lit_p683
      have stm_25 : Runs Try.prog (tdOf Try.prog) ord58 H (.dr all o58_m_12 :: k2) (slots 72 [.ptr i 0 0, .ptr H.length 0 0, .ptr (H.length + 1) 0 0, .ptr (H.length + 2) 0 0, .ptr (H.length + 3) 0 0, .int .i64 ((ne.2.1 + ne.1 : Nat) : Int), fa H.length, .any, .any, .any, .any, .any, .any, .any, .any, .any, .any, .any, .any, .any, .any, .any, .any, .any, .any, .any, .any, .any, .any, .any, .any, .any, .any, .any, .any, .any, .any, .any, .any, .any, .any, .any, .any, .any, .any, .any, .any, .any, .mp (H.length + 4), fa H.length, clo H.length 4 4, fa H.length, clo H.length 6 16, cn H.length, .any, .ptr (H.length + 2) 0 1, .int .i64 (nb.1 : Nat)]) (hpX H i B ne.2 [some (.cells 0 (rcC X)), some (.cells 0 [.int .i64 (ne.1 : Nat)]), some (.map (mapV natK id [(28, clo H.length 6 16), (5, cn H.length)]))]) Φ := by
        show Runs Try.prog (tdOf Try.prog) ord58 H (.dr all (3 :: o58_m_1) :: k2) _ _ Φ
        have hp := lit_put (k := 1) (v := clo H.length 4 4) (es := [(28, clo H.length 6 16), (5, cn H.length)]) (by show 1 ∉ [28, 5]; decide)
        have hk := lit_keys [(28, clo H.length 6 16), (5, cn H.length)]
        refine go 2 (fun _ => false) mixed ?_
        simp (disch := omega) only [↓reduceIte, go_sem, g11_3, hpX, set_tails, get_tails, hp, hk] <;> repeat with_reducible refine And.intro (by first | omega | decide) ?_
        exact stm_26
      have stm_23 : Runs Try.prog (tdOf Try.prog) ord58 H (.dr all o58_m_13 :: k2) (slots 72 [.ptr i 0 0, .ptr H.length 0 0, .ptr (H.length + 1) 0 0, .ptr (H.length + 2) 0 0, .ptr (H.length + 3) 0 0, .int .i64 ((ne.2.1 + ne.1 : Nat) : Int), fa H.length, .any, .any, .any, .any, .any, .any, .any, .any, .any, .any, .any, .any, .any, .any, .any, .any, .any, .any, .any, .any, .any, .any, .any, .any, .any, .any, .any, .any, .any, .any, .any, .any, .any, .any, .any, .any, .any, .any, .any, .any, .any, .mp (H.length + 4), fa H.length, clo H.length 4 4, fa H.length, clo H.length 6 16, cn H.length, .any, .ptr (H.length + 2) 0 1, .any]) (hpX H i B ne.2 [some (.cells 0 (rcC X)), some (.cells 0 [.int .i64 (ne.1 : Nat)]), some (.map (mapV natK id [(28, clo H.length 6 16), (5, cn H.length)]))]) Φ := by
        refine runs_fork (l1 := 3 :: o58_m_0) (l2 := 11 :: o58_m_12) gMm rfl ?_ ?_
        · have hp := lit_put (k := 1) (v := clo H.length 4 4) (es := [(28, clo H.length 6 16), (5, cn H.length)]) (by show 1 ∉ [28, 5]; decide)
          have hk := lit_keys [(28, clo H.length 6 16), (5, cn H.length)]
          refine go 2 (fun _ => false) mixed ?_
          simp (disch := omega) only [↓reduceIte, go_sem, g11_3, hpX, set_tails, get_tails, hp, hk] <;> repeat with_reducible refine And.intro (by first | omega | decide) ?_
          exact stm_24
        refine go 2 (fun _ => false) mixed ?_
        simp (disch := omega) only [↓reduceIte, go_sem, g11_11, hpX, obj_tails, hlXX, g1X] <;> repeat with_reducible refine And.intro (by first | omega | decide) ?_
        exact stm_25
      have stm_27 : Runs Try.prog (tdOf Try.prog) ord58 H (.dr all o58_m_14 :: k2) (slots 72 [.ptr i 0 0, .ptr H.length 0 0, .ptr (H.length + 1) 0 0, .ptr (H.length + 2) 0 0, .ptr (H.length + 3) 0 0, .int .i64 ((ne.2.1 + ne.1 : Nat) : Int), fa H.length, .any, .any, .any, .any, .any, .any, .any, .any, .any, .any, .any, .any, .any, .any, .any, .any, .any, .any, .any, .any, .any, .any, .any, .any, .any, .any, .any, .any, .any, .any, .any, .any, .any, .any, .any, .any, .any, .any, .any, .any, .any, .mp (H.length + 4), fa H.length, clo H.length 4 4, fa H.length, clo H.length 6 16, cn H.length, .any, .ptr (H.length + 2) 0 1, .int .i64 (nb.1 : Nat)]) (hpX H i B ne.2 [some (.cells 0 (rcC X)), some (.cells 0 [.int .i64 (ne.1 : Nat)]), some (.map (mapV natK id [(28, clo H.length 6 16)]))]) Φ := by
        refine runs_fork (l1 := 3 :: o58_m_2) (l2 := 8 :: o58_m_12) gMm rfl ?_ ?_
        · have hp := lit_put (k := 1) (v := clo H.length 4 4) (es := [(28, clo H.length 6 16)]) (by show 1 ∉ [28]; decide)
          have hk := lit_keys [(28, clo H.length 6 16)]
          refine go 2 (fun _ => false) mixed ?_
          simp (disch := omega) only [↓reduceIte, go_sem, g11_3, hpX, set_tails, get_tails, hp, hk] <;> repeat with_reducible refine And.intro (by first | omega | decide) ?_
          exact stm_21
        have hp := lit_put (k := 5) (v := cn H.length) (es := [(28, clo H.length 6 16)]) (by show 5 ∉ [28]; decide)
        have hk := lit_keys [(28, clo H.length 6 16)]
        refine go 2 (fun _ => false) mixed ?_
        simp (disch := omega) only [↓reduceIte, go_sem, g11_8, hpX, set_tails, get_tails, hp, hk] <;> repeat with_reducible refine And.intro (by first | omega | decide) ?_
        exact stm_25
      have stm_18 : Runs Try.prog (tdOf Try.prog) ord58 H (.dr all o58_m_15 :: k2) (slots 72 [.ptr i 0 0, .ptr H.length 0 0, .ptr (H.length + 1) 0 0, .ptr (H.length + 2) 0 0, .ptr (H.length + 3) 0 0, .int .i64 ((ne.2.1 + ne.1 : Nat) : Int), fa H.length, .any, .any, .any, .any, .any, .any, .any, .any, .any, .any, .any, .any, .any, .any, .any, .any, .any, .any, .any, .any, .any, .any, .any, .any, .any, .any, .any, .any, .any, .any, .any, .any, .any, .any, .any, .any, .any, .any, .any, .any, .any, .mp (H.length + 4), fa H.length, clo H.length 4 4, fa H.length, clo H.length 6 16, cn H.length, .any, .ptr (H.length + 2) 0 1, .any]) (hpX H i B ne.2 [some (.cells 0 (rcC X)), some (.cells 0 [.int .i64 (ne.1 : Nat)]), some (.map (mapV natK id [(28, clo H.length 6 16)]))]) Φ := by
        refine runs_fork (l1 := 3 :: o58_m_3) (l2 := 14 :: (8 :: o58_m_13).length :: ((8 :: o58_m_13) ++ (11 :: o58_m_14))) gMm rfl ?_ ?_
        · have hp := lit_put (k := 1) (v := clo H.length 4 4) (es := [(28, clo H.length 6 16)]) (by show 1 ∉ [28]; decide)
          have hk := lit_keys [(28, clo H.length 6 16)]
          refine go 2 (fun _ => false) mixed ?_
          simp (disch := omega) only [↓reduceIte, go_sem, g11_3, hpX, set_tails, get_tails, hp, hk] <;> repeat with_reducible refine And.intro (by first | omega | decide) ?_
          exact stm_19
        refine runs_fork (l1 := 8 :: o58_m_13) (l2 := 11 :: o58_m_14) gMm rfl ?_ ?_
        · have hp := lit_put (k := 5) (v := cn H.length) (es := [(28, clo H.length 6 16)]) (by show 5 ∉ [28]; decide)
          have hk := lit_keys [(28, clo H.length 6 16)]
          refine go 2 (fun _ => false) mixed ?_
          simp (disch := omega) only [↓reduceIte, go_sem, g11_8, hpX, set_tails, get_tails, hp, hk] <;> repeat with_reducible refine And.intro (by first | omega | decide) ?_
          exact stm_23
        refine go 2 (fun _ => false) mixed ?_
        simp (disch := omega) only [↓reduceIte, go_sem, g11_11, hpX, obj_tails, hlXX, g1X] <;> repeat with_reducible refine And.intro (by first | omega | decide) ?_
        exact stm_27
      have stm_30 : Runs Try.prog (tdOf Try.prog) ord58 H (.dr all o58_m_0 :: k2) (slots 72 [.ptr i 0 0, .ptr H.length 0 0, .ptr (H.length + 1) 0 0, .ptr (H.length + 2) 0 0, .ptr (H.length + 3) 0 0, .int .i64 ((ne.2.1 + ne.1 : Nat) : Int), fa H.length, .any, .any, .any, .any, .any, .any, .any, .any, .any, .any, .any, .any, .any, .any, .any, .any, .any, .any, .any, .any, .any, .any, .any, .any, .any, .any, .any, .any, .any, .any, .any, .any, .any, .any, .any, .any, .any, .any, .any, .any, .any, .mp (H.length + 4), fa H.length, clo H.length 4 4, fa H.length, clo H.length 6 16, cn H.length, .any, .ptr (H.length + 2) 0 1, .any]) (hpX H i B ne.2 [some (.cells 0 (rcC X)), some (.cells 0 [.int .i64 (ne.1 : Nat)]), some (.map (mapV natK id [(5, cn H.length), (1, clo H.length 4 4), (28, clo H.length 6 16)]))]) Φ := by
        show Runs Try.prog (tdOf Try.prog) ord58 H (.dr all ([9, 11, 12, 13]) :: k2) _ _ Φ
        refine go 2 (fun _ => false) mixed ?_
        simp (disch := omega) only [↓reduceIte, go_sem, g11_9] <;> repeat with_reducible refine And.intro (by first | omega | decide) ?_
        refine go 2 (fun _ => false) mixed ?_
        simp (disch := omega) only [↓reduceIte, go_sem, g11_11, hpX, obj_tails, hlXX, g1X] <;> repeat with_reducible refine And.intro (by first | omega | decide) ?_
        exact tl11 [(5, cn H.length), (1, clo H.length 4 4), (28, clo H.length 6 16)] lit_p836
      have stm_32 : Runs Try.prog (tdOf Try.prog) ord58 H (.dr all o58_m_1 :: k2) (slots 72 [.ptr i 0 0, .ptr H.length 0 0, .ptr (H.length + 1) 0 0, .ptr (H.length + 2) 0 0, .ptr (H.length + 3) 0 0, .int .i64 ((ne.2.1 + ne.1 : Nat) : Int), fa H.length, .any, .any, .any, .any, .any, .any, .any, .any, .any, .any, .any, .any, .any, .any, .any, .any, .any, .any, .any, .any, .any, .any, .any, .any, .any, .any, .any, .any, .any, .any, .any, .any, .any, .any, .any, .any, .any, .any, .any, .any, .any, .mp (H.length + 4), fa H.length, clo H.length 4 4, fa H.length, clo H.length 6 16, cn H.length, .any, .ptr (H.length + 2) 0 1, .int .i64 (nb.1 : Nat)]) (hpX H i B ne.2 [some (.cells 0 (rcC X)), some (.cells 0 [.int .i64 (ne.1 : Nat)]), some (.map (mapV natK id [(5, cn H.length), (1, clo H.length 4 4), (28, clo H.length 6 16)]))]) Φ := by
        show Runs Try.prog (tdOf Try.prog) ord58 H (.dr all ([9, 12, 13]) :: k2) _ _ Φ
        refine go 2 (fun _ => false) mixed ?_
        simp (disch := omega) only [↓reduceIte, go_sem, g11_9] <;> repeat with_reducible refine And.intro (by first | omega | decide) ?_
        exact tl11 [(5, cn H.length), (1, clo H.length 4 4), (28, clo H.length 6 16)] lit_p836
      have stm_31 : Runs Try.prog (tdOf Try.prog) ord58 H (.dr all o58_m_4 :: k2) (slots 72 [.ptr i 0 0, .ptr H.length 0 0, .ptr (H.length + 1) 0 0, .ptr (H.length + 2) 0 0, .ptr (H.length + 3) 0 0, .int .i64 ((ne.2.1 + ne.1 : Nat) : Int), fa H.length, .any, .any, .any, .any, .any, .any, .any, .any, .any, .any, .any, .any, .any, .any, .any, .any, .any, .any, .any, .any, .any, .any, .any, .any, .any, .any, .any, .any, .any, .any, .any, .any, .any, .any, .any, .any, .any, .any, .any, .any, .any, .mp (H.length + 4), fa H.length, clo H.length 4 4, fa H.length, clo H.length 6 16, cn H.length, .any, .ptr (H.length + 2) 0 1, .int .i64 (nb.1 : Nat)]) (hpX H i B ne.2 [some (.cells 0 (rcC X)), some (.cells 0 [.int .i64 (ne.1 : Nat)]), some (.map (mapV natK id [(5, cn H.length), (1, clo H.length 4 4)]))]) Φ := by
        show Runs Try.prog (tdOf Try.prog) ord58 H (.dr all (6 :: o58_m_1) :: k2) _ _ Φ
        have hp := lit_put (k := 28) (v := clo H.length 6 16) (es := [(5, cn H.length), (1, clo H.length 4 4)]) (by show 28 ∉ [5, 1]; decide)
        have hk := lit_keys [(5, cn H.length), (1, clo H.length 4 4)]
        refine go 2 (fun _ => false) mixed ?_
        simp (disch := omega) only [↓reduceIte, go_sem, g11_6, hpX, set_tails, get_tails, hp, hk] <;> repeat with_reducible refine And.intro (by first | omega | decide) ?_
        exact stm_32
      have stm_29 : Runs Try.prog (tdOf Try.prog) ord58 H (.dr all o58_m_5 :: k2) (slots 72 [.ptr i 0 0, .ptr H.length 0 0, .ptr (H.length + 1) 0 0, .ptr (H.length + 2) 0 0, .ptr (H.length + 3) 0 0, .int .i64 ((ne.2.1 + ne.1 : Nat) : Int), fa H.length, .any, .any, .any, .any, .any, .any, .any, .any, .any, .any, .any, .any, .any, .any, .any, .any, .any, .any, .any, .any, .any, .any, .any, .any, .any, .any, .any, .any, .any, .any, .any, .any, .any, .any, .any, .any, .any, .any, .any, .any, .any, .mp (H.length + 4), fa H.length, clo H.length 4 4, fa H.length, clo H.length 6 16, cn H.length, .any, .ptr (H.length + 2) 0 1, .any]) (hpX H i B ne.2 [some (.cells 0 (rcC X)), some (.cells 0 [.int .i64 (ne.1 : Nat)]), some (.map (mapV natK id [(5, cn H.length), (1, clo H.length 4 4)]))]) Φ := by
        refine runs_fork (l1 := 6 :: o58_m_0) (l2 := 11 :: o58_m_4) gMm rfl ?_ ?_
        · have hp := lit_put (k := 28) (v := clo H.length 6 16) (es := [(5, cn H.length), (1, clo H.length 4 4)]) (by show 28 ∉ [5, 1]; decide)
          have hk := lit_keys [(5, cn H.length), (1, clo H.length 4 4)]
          refine go 2 (fun _ => false) mixed ?_
          simp (disch := omega) only [↓reduceIte, go_sem, g11_6, hpX, set_tails, get_tails, hp, hk] <;> repeat with_reducible refine And.intro (by first | omega | decide) ?_
          exact stm_30
        refine go 2 (fun _ => false) mixed ?_
        simp (disch := omega) only [↓reduceIte, go_sem, g11_11, hpX, obj_tails, hlXX, g1X] <;> repeat with_reducible refine And.intro (by first | omega | decide) ?_
        exact stm_31
      have stm_34 : Runs Try.prog (tdOf Try.prog) ord58 H (.dr all o58_m_0 :: k2) (slots 72 [.ptr i 0 0, .ptr H.length 0 0, .ptr (H.length + 1) 0 0, .ptr (H.length + 2) 0 0, .ptr (H.length + 3) 0 0, .int .i64 ((ne.2.1 + ne.1 : Nat) : Int), fa H.length, .any, .any, .any, .any, .any, .any, .any, .any, .any, .any, .any, .any, .any, .any, .any, .any, .any, .any, .any, .any, .any, .any, .any, .any, .any, .any, .any, .any, .any, .any, .any, .any, .any, .any, .any, .any, .any, .any, .any, .any, .any, .mp (H.length + 4), fa H.length, clo H.length 4 4, fa H.length, clo H.length 6 16, cn H.length, .any, .ptr (H.length + 2) 0 1, .any]) (hpX H i B ne.2 [some (.cells 0 (rcC X)), some (.cells 0 [.int .i64 (ne.1 : Nat)]), some (.map (mapV natK id [(5, cn H.length), (28, clo H.length 6 16), (1, clo H.length 4 4)]))]) Φ := by
        show Runs Try.prog (tdOf Try.prog) ord58 H (.dr all ([9, 11, 12, 13]) :: k2) _ _ Φ
        refine go 2 (fun _ => false) mixed ?_
        simp (disch := omega) only [↓reduceIte, go_sem, g11_9] <;> repeat with_reducible refine And.intro (by first | omega | decide) ?_
        refine go 2 (fun _ => false) mixed ?_
        simp (disch := omega) only [↓reduceIte, go_sem, g11_11, hpX, obj_tails, hlXX, g1X] <;> repeat with_reducible refine And.intro (by first | omega | decide) ?_
        exact tl11 [(5, cn H.length), (28, clo H.length 6 16), (1, clo H.length 4 4)] lit_p863
      have stm_36 : Runs Try.prog (tdOf Try.prog) ord58 H (.dr all o58_m_1 :: k2) (slots 72 [.ptr i 0 0, .ptr H.length 0 0, .ptr (H.length + 1) 0 0, .ptr (H.length + 2) 0 0, .ptr (H.length + 3) 0 0, .int .i64 ((ne.2.1 + ne.1 : Nat) : Int), fa H.length, .any, .any, .any, .any, .any, .any, .any, .any, .any, .any, .any, .any, .any, .any, .any, .any, .any, .any, .any, .any, .any, .any, .any, .any, .any, .any, .any, .any, .any, .any, .any, .any, .any, .any, .any, .any, .any, .any, .any, .any, .any, .mp (H.length + 4), fa H.length, clo H.length 4 4, fa H.length, clo H.length 6 16, cn H.length, .any, .ptr (H.length + 2) 0 1, .int .i64 (nb.1 : Nat)]) (hpX H i B ne.2 [some (.cells 0 (rcC X)), some (.cells 0 [.int .i64 (ne.1 : Nat)]), some (.map (mapV natK id [(5, cn H.length), (28, clo H.length 6 16), (1, clo H.length 4 4)]))]) Φ := by
        show Runs Try.prog (tdOf Try.prog) ord58 H (.dr all ([9, 12, 13]) :: k2) _ _ Φ
        refine go 2 (fun _ => false) mixed ?_
        simp (disch := omega) only [↓reduceIte, go_sem, g11_9] <;> repeat with_reducible refine And.intro (by first | omega | decide) ?_
        exact tl11 [(5, cn H.length), (28, clo H.length 6 16), (1, clo H.length 4 4)] lit_p863
      have stm_35 : Runs Try.prog (tdOf Try.prog) ord58 H (.dr all o58_m_12 :: k2) (slots 72 [.ptr i 0 0, .ptr H.length 0 0, .ptr (H.length + 1) 0 0, .ptr (H.length + 2) 0 0, .ptr (H.length + 3) 0 0, .int .i64 ((ne.2.1 + ne.1 : Nat) : Int), fa H.length, .any, .any, .any, .any, .any, .any, .any, .any, .any, .any, .any, .any, .any, .any, .any, .any, .any, .any, .any, .any, .any, .any, .any, .any, .any, .any, .any, .any, .any, .any, .any, .any, .any, .any, .any, .any, .any, .any, .any, .any, .any, .mp (H.length + 4), fa H.length, clo H.length 4 4, fa H.length, clo H.length 6 16, cn H.length, .any, .ptr (H.length + 2) 0 1, .int .i64 (nb.1 : Nat)]) (hpX H i B ne.2 [some (.cells 0 (rcC X)), some (.cells 0 [.int .i64 (ne.1 : Nat)]), some (.map (mapV natK id [(5, cn H.length), (28, clo H.length 6 16)]))]) Φ := by
        show Runs Try.prog (tdOf Try.prog) ord58 H (.dr all (3 :: o58_m_1) :: k2) _ _ Φ
        have hp := lit_put (k := 1) (v := clo H.length 4 4) (es := [(5, cn H.length), (28, clo H.length 6 16)]) (by show 1 ∉ [5, 28]; decide)
        have hk := lit_keys [(5, cn H.length), (28, clo H.length 6 16)]
        refine go 2 (fun _ => false) mixed ?_
        simp (disch := omega) only [↓reduceIte, go_sem, g11_3, hpX, set_tails, get_tails, hp, hk] <;> repeat with_reducible refine And.intro (by first | omega | decide) ?_
        exact stm_36
      have stm_33 : Runs Try.prog (tdOf Try.prog) ord58 H (.dr all o58_m_13 :: k2) (slots 72 [.ptr i 0 0, .ptr H.length 0 0, .ptr (H.length + 1) 0 0, .ptr (H.length + 2) 0 0, .ptr (H.length + 3) 0 0, .int .i64 ((ne.2.1 + ne.1 : Nat) : Int), fa H.length, .any, .any, .any, .any, .any, .any, .any, .any, .any, .any, .any, .any, .any, .any, .any, .any, .any, .any, .any, .any, .any, .any, .any, .any, .any, .any, .any, .any, .any, .any, .any, .any, .any, .any, .any, .any, .any, .any, .any, .any, .any, .mp (H.length + 4), fa H.length, clo H.length 4 4, fa H.length, clo H.length 6 16, cn H.length, .any, .ptr (H.length + 2) 0 1, .any]) (hpX H i B ne.2 [some (.cells 0 (rcC X)), some (.cells 0 [.int .i64 (ne.1 : Nat)]), some (.map (mapV natK id [(5, cn H.length), (28, clo H.length 6 16)]))]) Φ := by
        refine runs_fork (l1 := 3 :: o58_m_0) (l2 := 11 :: o58_m_12) gMm rfl ?_ ?_
        · have hp := lit_put (k := 1) (v := clo H.length 4 4) (es := [(5, cn H.length), (28, clo H.length 6 16)]) (by show 1 ∉ [5, 28]; decide)
          have hk := lit_keys [(5, cn H.length), (28, clo H.length 6 16)]
          refine go 2 (fun _ => false) mixed ?_
          simp (disch := omega) only [↓reduceIte, go_sem, g11_3, hpX, set_tails, get_tails, hp, hk] <;> repeat with_reducible refine And.intro (by first | omega | decide) ?_
          exact stm_34
        refine go 2 (fun _ => false) mixed ?_
        simp (disch := omega) only [↓reduceIte, go_sem, g11_11, hpX, obj_tails, hlXX, g1X] <;> repeat with_reducible refine And.intro (by first | omega | decide) ?_
        exact stm_35
      have stm_37 : Runs Try.prog (tdOf Try.prog) ord58 H (.dr all o58_m_16 :: k2) (slots 72 [.ptr i 0 0, .ptr H.length 0 0, .ptr (H.length + 1) 0 0, .ptr (H.length + 2) 0 0, .ptr (H.length + 3) 0 0, .int .i64 ((ne.2.1 + ne.1 : Nat) : Int), fa H.length, .any, .any, .any, .any, .any, .any, .any, .any, .any, .any, .any, .any, .any, .any, .any, .any, .any, .any, .any, .any, .any, .any, .any, .any, .any, .any, .any, .any, .any, .any, .any, .any, .any, .any, .any, .any, .any, .any, .any, .any, .any, .mp (H.length + 4), fa H.length, clo H.length 4 4, fa H.length, clo H.length 6 16, cn H.length, .any, .ptr (H.length + 2) 0 1, .int .i64 (nb.1 : Nat)]) (hpX H i B ne.2 [some (.cells 0 (rcC X)), some (.cells 0 [.int .i64 (ne.1 : Nat)]), some (.map (mapV natK id [(5, cn H.length)]))]) Φ := by
        refine runs_fork (l1 := 3 :: o58_m_4) (l2 := 6 :: o58_m_12) gMm rfl ?_ ?_
        · have hp := lit_put (k := 1) (v := clo H.length 4 4) (es := [(5, cn H.length)]) (by show 1 ∉ [5]; decide)
          have hk := lit_keys [(5, cn H.length)]
          refine go 2 (fun _ => false) mixed ?_
          simp (disch := omega) only [↓reduceIte, go_sem, g11_3, hpX, set_tails, get_tails, hp, hk] <;> repeat with_reducible refine And.intro (by first | omega | decide) ?_
          exact stm_31
        have hp := lit_put (k := 28) (v := clo H.length 6 16) (es := [(5, cn H.length)]) (by show 28 ∉ [5]; decide)
        have hk := lit_keys [(5, cn H.length)]
        refine go 2 (fun _ => false) mixed ?_
        simp (disch := omega) only [↓reduceIte, go_sem, g11_6, hpX, set_tails, get_tails, hp, hk] <;> repeat with_reducible refine And.intro (by first | omega | decide) ?_
        exact stm_35
      have stm_28 : Runs Try.prog (tdOf Try.prog) ord58 H (.dr all o58_m_17 :: k2) (slots 72 [.ptr i 0 0, .ptr H.length 0 0, .ptr (H.length + 1) 0 0, .ptr (H.length + 2) 0 0, .ptr (H.length + 3) 0 0, .int .i64 ((ne.2.1 + ne.1 : Nat) : Int), fa H.length, .any, .any, .any, .any, .any, .any, .any, .any, .any, .any, .any, .any, .any, .any, .any, .any, .any, .any, .any, .any, .any, .any, .any, .any, .any, .any, .any, .any, .any, .any, .any, .any, .any, .any, .any, .any, .any, .any, .any, .any, .any, .mp (H.length + 4), fa H.length, clo H.length 4 4, fa H.length, clo H.length 6 16, cn H.length, .any, .ptr (H.length + 2) 0 1, .any]) (hpX H i B ne.2 [some (.cells 0 (rcC X)), some (.cells 0 [.int .i64 (ne.1 : Nat)]), some (.map (mapV natK id [(5, cn H.length)]))]) Φ := by
        refine runs_fork (l1 := 3 :: o58_m_5) (l2 := 14 :: (6 :: o58_m_13).length :: ((6 :: o58_m_13) ++ (11 :: o58_m_16))) gMm rfl ?_ ?_
        · have hp := lit_put (k := 1) (v := clo H.length 4 4) (es := [(5, cn H.length)]) (by show 1 ∉ [5]; decide)
          have hk := lit_keys [(5, cn H.length)]
          refine go 2 (fun _ => false) mixed ?_
          simp (disch := omega) only [↓reduceIte, go_sem, g11_3, hpX, set_tails, get_tails, hp, hk] <;> repeat with_reducible refine And.intro (by first | omega | decide) ?_
          exact stm_29
        refine runs_fork (l1 := 6 :: o58_m_13) (l2 := 11 :: o58_m_16) gMm rfl ?_ ?_
        · have hp := lit_put (k := 28) (v := clo H.length 6 16) (es := [(5, cn H.length)]) (by show 28 ∉ [5]; decide)
          have hk := lit_keys [(5, cn H.length)]
          refine go 2 (fun _ => false) mixed ?_
          simp (disch := omega) only [↓reduceIte, go_sem, g11_6, hpX, set_tails, get_tails, hp, hk] <;> repeat with_reducible refine And.intro (by first | omega | decide) ?_
          exact stm_33
        refine go 2 (fun _ => false) mixed ?_
        simp (disch := omega) only [↓reduceIte, go_sem, g11_11, hpX, obj_tails, hlXX, g1X] <;> repeat with_reducible refine And.intro (by first | omega | decide) ?_
        exact stm_37
      have stm_38 : Runs Try.prog (tdOf Try.prog) ord58 H (.dr all o58_m_18 :: k2) (slots 72 [.ptr i 0 0, .ptr H.length 0 0, .ptr (H.length + 1) 0 0, .ptr (H.length + 2) 0 0, .ptr (H.length + 3) 0 0, .int .i64 ((ne.2.1 + ne.1 : Nat) : Int), fa H.length, .any, .any, .any, .any, .any, .any, .any, .any, .any, .any, .any, .any, .any, .any, .any, .any, .any, .any, .any, .any, .any, .any, .any, .any, .any, .any, .any, .any, .any, .any, .any, .any, .any, .any, .any, .any, .any, .any, .any, .any, .any, .mp (H.length + 4), fa H.length, clo H.length 4 4, fa H.length, clo H.length 6 16, cn H.length, .any, .ptr (H.length + 2) 0 1, .int .i64 (nb.1 : Nat)]) (hpX H i B ne.2 [some (.cells 0 (rcC X)), some (.cells 0 [.int .i64 (ne.1 : Nat)]), some (.map (mapV natK id []))]) Φ := by
        refine runs_fork (l1 := 3 :: o58_m_6) (l2 := 14 :: (6 :: o58_m_14).length :: ((6 :: o58_m_14) ++ (8 :: o58_m_16))) gMm rfl ?_ ?_
        · have hp := lit_put (k := 1) (v := clo H.length 4 4) (es := []) (by show 1 ∉ []; decide)
          have hk := lit_keys []
          refine go 2 (fun _ => false) mixed ?_
          simp (disch := omega) only [↓reduceIte, go_sem, g11_3, hpX, set_tails, get_tails, hp, hk] <;> repeat with_reducible refine And.intro (by first | omega | decide) ?_
          exact stm_13
        refine runs_fork (l1 := 6 :: o58_m_14) (l2 := 8 :: o58_m_16) gMm rfl ?_ ?_
        · have hp := lit_put (k := 28) (v := clo H.length 6 16) (es := []) (by show 28 ∉ []; decide)
          have hk := lit_keys []
          refine go 2 (fun _ => false) mixed ?_
          simp (disch := omega) only [↓reduceIte, go_sem, g11_6, hpX, set_tails, get_tails, hp, hk] <;> repeat with_reducible refine And.intro (by first | omega | decide) ?_
          exact stm_27
        have hp := lit_put (k := 5) (v := cn H.length) (es := []) (by show 5 ∉ []; decide)
        have hk := lit_keys []
        refine go 2 (fun _ => false) mixed ?_
        simp (disch := omega) only [↓reduceIte, go_sem, g11_8, hpX, set_tails, get_tails, hp, hk] <;> repeat with_reducible refine And.intro (by first | omega | decide) ?_
        exact stm_37
      have stm_17 : Runs Try.prog (tdOf Try.prog) ord58 H (.dr all o58_m_19 :: k2) (slots 72 [.ptr i 0 0, .ptr H.length 0 0, .ptr (H.length + 1) 0 0, .ptr (H.length + 2) 0 0, .ptr (H.length + 3) 0 0, .int .i64 ((ne.2.1 + ne.1 : Nat) : Int), fa H.length, .any, .any, .any, .any, .any, .any, .any, .any, .any, .any, .any, .any, .any, .any, .any, .any, .any, .any, .any, .any, .any, .any, .any, .any, .any, .any, .any, .any, .any, .any, .any, .any, .any, .any, .any, .any, .any, .any, .any, .any, .any, .mp (H.length + 4), fa H.length, clo H.length 4 4, fa H.length, clo H.length 6 16, cn H.length, .any, .ptr (H.length + 2) 0 1, .any]) (hpX H i B ne.2 [some (.cells 0 (rcC X)), some (.cells 0 [.int .i64 (ne.1 : Nat)]), some (.map (mapV natK id []))]) Φ := by
        refine runs_fork (l1 := 3 :: o58_m_7) (l2 := 14 :: (6 :: o58_m_15).length :: ((6 :: o58_m_15) ++ (14 :: (8 :: o58_m_17).length :: ((8 :: o58_m_17) ++ (11 :: o58_m_18))))) gMm rfl ?_ ?_
        · have hp := lit_put (k := 1) (v := clo H.length 4 4) (es := []) (by show 1 ∉ []; decide)
          have hk := lit_keys []
          refine go 2 (fun _ => false) mixed ?_
          simp (disch := omega) only [↓reduceIte, go_sem, g11_3, hpX, set_tails, get_tails, hp, hk] <;> repeat with_reducible refine And.intro (by first | omega | decide) ?_
          exact stm_4
        refine runs_fork (l1 := 6 :: o58_m_15) (l2 := 14 :: (8 :: o58_m_17).length :: ((8 :: o58_m_17) ++ (11 :: o58_m_18))) gMm rfl ?_ ?_
        · have hp := lit_put (k := 28) (v := clo H.length 6 16) (es := []) (by show 28 ∉ []; decide)
          have hk := lit_keys []
          refine go 2 (fun _ => false) mixed ?_
          simp (disch := omega) only [↓reduceIte, go_sem, g11_6, hpX, set_tails, get_tails, hp, hk] <;> repeat with_reducible refine And.intro (by first | omega | decide) ?_
          exact stm_18
        refine runs_fork (l1 := 8 :: o58_m_17) (l2 := 11 :: o58_m_18) gMm rfl ?_ ?_
        · have hp := lit_put (k := 5) (v := cn H.length) (es := []) (by show 5 ∉ []; decide)
          have hk := lit_keys []
          refine go 2 (fun _ => false) mixed ?_
          simp (disch := omega) only [↓reduceIte, go_sem, g11_8, hpX, set_tails, get_tails, hp, hk] <;> repeat with_reducible refine And.intro (by first | omega | decide) ?_
          exact stm_28
        refine go 2 (fun _ => false) mixed ?_
        simp (disch := omega) only [↓reduceIte, go_sem, g11_11, hpX, obj_tails, hlXX, g1X] <;> repeat with_reducible refine And.intro (by first | omega | decide) ?_
        exact stm_38
      have stm_41 : Runs Try.prog (tdOf Try.prog) ord58 H (.dr all o58_m_8 :: k2) (slots 72 [.ptr i 0 0, .ptr H.length 0 0, .ptr (H.length + 1) 0 0, .ptr (H.length + 2) 0 0, .ptr (H.length + 3) 0 0, .int .i64 ((ne.2.1 + ne.1 : Nat) : Int), fa H.length, .any, .any, .any, .any, .any, .any, .any, .any, .any, .any, .any, .any, .any, .any, .any, .any, .any, .any, .any, .any, .any, .any, .any, .any, .any, .any, .any, .any, .any, .any, .any, .any, .any, .any, .any, .any, .any, .any, .any, .any, .any, .mp (H.length + 4), fa H.length, clo H.length 4 4, fa H.length, .any, cn H.length, .any, .ptr (H.length + 2) 0 1, .int .i64 (nb.1 : Nat)]) (hpX H i B ne.2 [some (.cells 0 (rcC X)), some (.cells 0 [.int .i64 (ne.1 : Nat)]), some (.map (mapV natK id [(5, cn H.length), (1, clo H.length 4 4)]))]) Φ := by
        show Runs Try.prog (tdOf Try.prog) ord58 H (.dr all (5 :: o58_m_4) :: k2) _ _ Φ
        refine go 2 (fun _ => false) mixed ?_
        simp (disch := omega) only [↓reduceIte, go_sem, g11_5, fa] <;> repeat with_reducible refine And.intro (by first | omega | decide) ?_
        refine (ha6 (by simp [hpX])).mono fun r H' ⟨e1, e2⟩ => ?_
        rw [e1, e2]
        exact stm_31
      have stm_40 : Runs Try.prog (tdOf Try.prog) ord58 H (.dr all o58_m_9 :: k2) (slots 72 [.ptr i 0 0, .ptr H.length 0 0, .ptr (H.length + 1) 0 0, .ptr (H.length + 2) 0 0, .ptr (H.length + 3) 0 0, .int .i64 ((ne.2.1 + ne.1 : Nat) : Int), fa H.length, .any, .any, .any, .any, .any, .any, .any, .any, .any, .any, .any, .any, .any, .any, .any, .any, .any, .any, .any, .any, .any, .any, .any, .any, .any, .any, .any, .any, .any, .any, .any, .any, .any, .any, .any, .any, .any, .any, .any, .any, .any, .mp (H.length + 4), fa H.length, clo H.length 4 4, fa H.length, .any, cn H.length, .any, .ptr (H.length + 2) 0 1, .any]) (hpX H i B ne.2 [some (.cells 0 (rcC X)), some (.cells 0 [.int .i64 (ne.1 : Nat)]), some (.map (mapV natK id [(5, cn H.length), (1, clo H.length 4 4)]))]) Φ := by
        refine runs_fork (l1 := 5 :: o58_m_5) (l2 := 11 :: o58_m_8) gMm rfl ?_ ?_
        · refine go 2 (fun _ => false) mixed ?_
          simp (disch := omega) only [↓reduceIte, go_sem, g11_5, fa] <;> repeat with_reducible refine And.intro (by first | omega | decide) ?_
          refine (ha6 (by simp [hpX])).mono fun r H' ⟨e1, e2⟩ => ?_
          rw [e1, e2]
          exact stm_29
        refine go 2 (fun _ => false) mixed ?_
        simp (disch := omega) only [↓reduceIte, go_sem, g11_11, hpX, obj_tails, hlXX, g1X] <;> repeat with_reducible refine And.intro (by first | omega | decide) ?_
        exact stm_41
      have stm_42 : Runs Try.prog (tdOf Try.prog) ord58 H (.dr all o58_m_20 :: k2) (slots 72 [.ptr i 0 0, .ptr H.length 0 0, .ptr (H.length + 1) 0 0, .ptr (H.length + 2) 0 0, .ptr (H.length + 3) 0 0, .int .i64 ((ne.2.1 + ne.1 : Nat) : Int), fa H.length, .any, .any, .any, .any, .any, .any, .any, .any, .any, .any, .any, .any, .any, .any, .any, .any, .any, .any, .any, .any, .any, .any, .any, .any, .any, .any, .any, .any, .any, .any, .any, .any, .any, .any, .any, .any, .any, .any, .any, .any, .any, .mp (H.length + 4), fa H.length, clo H.length 4 4, fa H.length, .any, cn H.length, .any, .ptr (H.length + 2) 0 1, .int .i64 (nb.1 : Nat)]) (hpX H i B ne.2 [some (.cells 0 (rcC X)), some (.cells 0 [.int .i64 (ne.1 : Nat)]), some (.map (mapV natK id [(5, cn H.length)]))]) Φ := by
        refine runs_fork (l1 := 3 :: o58_m_8) (l2 := 5 :: o58_m_16) gMm rfl ?_ ?_
        · have hp := lit_put (k := 1) (v := clo H.length 4 4) (es := [(5, cn H.length)]) (by show 1 ∉ [5]; decide)
          have hk := lit_keys [(5, cn H.length)]
          refine go 2 (fun _ => false) mixed ?_
          simp (disch := omega) only [↓reduceIte, go_sem, g11_3, hpX, set_tails, get_tails, hp, hk] <;> repeat with_reducible refine And.intro (by first | omega | decide) ?_
          exact stm_41
        refine go 2 (fun _ => false) mixed ?_
        simp (disch := omega) only [↓reduceIte, go_sem, g11_5, fa] <;> repeat with_reducible refine And.intro (by first | omega | decide) ?_
        refine (ha6 (by simp [hpX])).mono fun r H' ⟨e1, e2⟩ => ?_
        rw [e1, e2]
        exact stm_37
      have stm_39 : Runs Try.prog (tdOf Try.prog) ord58 H (.dr all o58_m_21 :: k2) (slots 72 [.ptr i 0 0, .ptr H.length 0 0, .ptr (H.length + 1) 0 0, .ptr (H.length + 2) 0 0, .ptr (H.length + 3) 0 0, .int .i64 ((ne.2.1 + ne.1 : Nat) : Int), fa H.length, .any, .any, .any, .any, .any, .any, .any, .any, .any, .any, .any, .any, .any, .any, .any, .any, .any, .any, .any, .any, .any, .any, .any, .any, .any, .any, .any, .any, .any, .any, .any, .any, .any, .any, .any, .any, .any, .any, .any, .any, .any, .mp (H.length + 4), fa H.length, clo H.length 4 4, fa H.length, .any, cn H.length, .any, .ptr (H.length + 2) 0 1, .any]) (hpX H i B ne.2 [some (.cells 0 (rcC X)), some (.cells 0 [.int .i64 (ne.1 : Nat)]), some (.map (mapV natK id [(5, cn H.length)]))]) Φ := by
        refine runs_fork (l1 := 3 :: o58_m_9) (l2 := 14 :: (5 :: o58_m_17).length :: ((5 :: o58_m_17) ++ (11 :: o58_m_20))) gMm rfl ?_ ?_
        · have hp := lit_put (k := 1) (v := clo H.length 4 4) (es := [(5, cn H.length)]) (by show 1 ∉ [5]; decide)
          have hk := lit_keys [(5, cn H.length)]
          refine go 2 (fun _ => false) mixed ?_
          simp (disch := omega) only [↓reduceIte, go_sem, g11_3, hpX, set_tails, get_tails, hp, hk] <;> repeat with_reducible refine And.intro (by first | omega | decide) ?_
          exact stm_40
        refine runs_fork (l1 := 5 :: o58_m_17) (l2 := 11 :: o58_m_20) gMm rfl ?_ ?_
        · refine go 2 (fun _ => false) mixed ?_
          simp (disch := omega) only [↓reduceIte, go_sem, g11_5, fa] <;> repeat with_reducible refine And.intro (by first | omega | decide) ?_
          refine (ha6 (by simp [hpX])).mono fun r H' ⟨e1, e2⟩ => ?_
          rw [e1, e2]
          exact stm_28
        refine go 2 (fun _ => false) mixed ?_
        simp (disch := omega) only [↓reduceIte, go_sem, g11_11, hpX, obj_tails, hlXX, g1X] <;> repeat with_reducible refine And.intro (by first | omega | decide) ?_
        exact stm_42
      have stm_43 : Runs Try.prog (tdOf Try.prog) ord58 H (.dr all o58_m_22 :: k2) (slots 72 [.ptr i 0 0, .ptr H.length 0 0, .ptr (H.length + 1) 0 0, .ptr (H.length + 2) 0 0, .ptr (H.length + 3) 0 0, .int .i64 ((ne.2.1 + ne.1 : Nat) : Int), fa H.length, .any, .any, .any, .any, .any, .any, .any, .any, .any, .any, .any, .any, .any, .any, .any, .any, .any, .any, .any, .any, .any, .any, .any, .any, .any, .any, .any, .any, .any, .any, .any, .any, .any, .any, .any, .any, .any, .any, .any, .any, .any, .mp (H.length + 4), fa H.length, clo H.length 4 4, fa H.length, .any, cn H.length, .any, .ptr (H.length + 2) 0 1, .int .i64 (nb.1 : Nat)]) (hpX H i B ne.2 [some (.cells 0 (rcC X)), some (.cells 0 [.int .i64 (ne.1 : Nat)]), some (.map (mapV natK id []))]) Φ := by
        refine runs_fork (l1 := 3 :: o58_m_10) (l2 := 14 :: (5 :: o58_m_18).length :: ((5 :: o58_m_18) ++ (8 :: o58_m_20))) gMm rfl ?_ ?_
        · have hp := lit_put (k := 1) (v := clo H.length 4 4) (es := []) (by show 1 ∉ []; decide)
          have hk := lit_keys []
          refine go 2 (fun _ => false) mixed ?_
          simp (disch := omega) only [↓reduceIte, go_sem, g11_3, hpX, set_tails, get_tails, hp, hk] <;> repeat with_reducible refine And.intro (by first | omega | decide) ?_
          exact stm_16
        refine runs_fork (l1 := 5 :: o58_m_18) (l2 := 8 :: o58_m_20) gMm rfl ?_ ?_
        · refine go 2 (fun _ => false) mixed ?_
          simp (disch := omega) only [↓reduceIte, go_sem, g11_5, fa] <;> repeat with_reducible refine And.intro (by first | omega | decide) ?_
          refine (ha6 (by simp [hpX])).mono fun r H' ⟨e1, e2⟩ => ?_
          rw [e1, e2]
          exact stm_38
        have hp := lit_put (k := 5) (v := cn H.length) (es := []) (by show 5 ∉ []; decide)
        have hk := lit_keys []
        refine go 2 (fun _ => false) mixed ?_
        simp (disch := omega) only [↓reduceIte, go_sem, g11_8, hpX, set_tails, get_tails, hp, hk] <;> repeat with_reducible refine And.intro (by first | omega | decide) ?_
        exact stm_42
      have stm_2 : Runs Try.prog (tdOf Try.prog) ord58 H (.dr all o58_m_23 :: k2) (slots 72 [.ptr i 0 0, .ptr H.length 0 0, .ptr (H.length + 1) 0 0, .ptr (H.length + 2) 0 0, .ptr (H.length + 3) 0 0, .int .i64 ((ne.2.1 + ne.1 : Nat) : Int), fa H.length, .any, .any, .any, .any, .any, .any, .any, .any, .any, .any, .any, .any, .any, .any, .any, .any, .any, .any, .any, .any, .any, .any, .any, .any, .any, .any, .any, .any, .any, .any, .any, .any, .any, .any, .any, .any, .any, .any, .any, .any, .any, .mp (H.length + 4), fa H.length, clo H.length 4 4, fa H.length, .any, cn H.length, .any, .ptr (H.length + 2) 0 1, .any]) (hpX H i B ne.2 [some (.cells 0 (rcC X)), some (.cells 0 [.int .i64 (ne.1 : Nat)]), some (.map (mapV natK id []))]) Φ := by
        refine runs_fork (l1 := 3 :: o58_m_11) (l2 := 14 :: (5 :: o58_m_19).length :: ((5 :: o58_m_19) ++ (14 :: (8 :: o58_m_21).length :: ((8 :: o58_m_21) ++ (11 :: o58_m_22))))) gMm rfl ?_ ?_
        · have hp := lit_put (k := 1) (v := clo H.length 4 4) (es := []) (by show 1 ∉ []; decide)
          have hk := lit_keys []
          refine go 2 (fun _ => false) mixed ?_
          simp (disch := omega) only [↓reduceIte, go_sem, g11_3, hpX, set_tails, get_tails, hp, hk] <;> repeat with_reducible refine And.intro (by first | omega | decide) ?_
          exact stm_3
        refine runs_fork (l1 := 5 :: o58_m_19) (l2 := 14 :: (8 :: o58_m_21).length :: ((8 :: o58_m_21) ++ (11 :: o58_m_22))) gMm rfl ?_ ?_
        · refine go 2 (fun _ => false) mixed ?_
          simp (disch := omega) only [↓reduceIte, go_sem, g11_5, fa] <;> repeat with_reducible refine And.intro (by first | omega | decide) ?_
          refine (ha6 (by simp [hpX])).mono fun r H' ⟨e1, e2⟩ => ?_
          rw [e1, e2]
          exact stm_17
        refine runs_fork (l1 := 8 :: o58_m_21) (l2 := 11 :: o58_m_22) gMm rfl ?_ ?_
        · have hp := lit_put (k := 5) (v := cn H.length) (es := []) (by show 5 ∉ []; decide)
          have hk := lit_keys []
          refine go 2 (fun _ => false) mixed ?_
          simp (disch := omega) only [↓reduceIte, go_sem, g11_8, hpX, set_tails, get_tails, hp, hk] <;> repeat with_reducible refine And.intro (by first | omega | decide) ?_
          exact stm_39
        refine go 2 (fun _ => false) mixed ?_
        simp (disch := omega) only [↓reduceIte, go_sem, g11_11, hpX, obj_tails, hlXX, g1X] <;> repeat with_reducible refine And.intro (by first | omega | decide) ?_
        exact stm_43
      have stm_45 : Runs Try.prog (tdOf Try.prog) ord58 H (.dr all o58_m_24 :: k2) (slots 72 [.ptr i 0 0, .ptr H.length 0 0, .ptr (H.length + 1) 0 0, .ptr (H.length + 2) 0 0, .ptr (H.length + 3) 0 0, .int .i64 ((ne.2.1 + ne.1 : Nat) : Int), fa H.length, .any, .any, .any, .any, .any, .any, .any, .any, .any, .any, .any, .any, .any, .any, .any, .any, .any, .any, .any, .any, .any, .any, .any, .any, .any, .any, .any, .any, .any, .any, .any, .any, .any, .any, .any, .any, .any, .any, .any, .any, .any, .mp (H.length + 4), fa H.length, .any, fa H.length, .any, cn H.length, .any, .ptr (H.length + 2) 0 1, .int .i64 (nb.1 : Nat)]) (hpX H i B ne.2 [some (.cells 0 (rcC X)), some (.cells 0 [.int .i64 (ne.1 : Nat)]), some (.map (mapV natK id [(5, cn H.length)]))]) Φ := by
        show Runs Try.prog (tdOf Try.prog) ord58 H (.dr all (2 :: o58_m_20) :: k2) _ _ Φ
        refine go 2 (fun _ => false) mixed ?_
        simp (disch := omega) only [↓reduceIte, go_sem, g11_2, fa] <;> repeat with_reducible refine And.intro (by first | omega | decide) ?_
        refine (ha4 (by simp [hpX])).mono fun r H' ⟨e1, e2⟩ => ?_
        rw [e1, e2]
        exact stm_42
      have stm_44 : Runs Try.prog (tdOf Try.prog) ord58 H (.dr all o58_m_25 :: k2) (slots 72 [.ptr i 0 0, .ptr H.length 0 0, .ptr (H.length + 1) 0 0, .ptr (H.length + 2) 0 0, .ptr (H.length + 3) 0 0, .int .i64 ((ne.2.1 + ne.1 : Nat) : Int), fa H.length, .any, .any, .any, .any, .any, .any, .any, .any, .any, .any, .any, .any, .any, .any, .any, .any, .any, .any, .any, .any, .any, .any, .any, .any, .any, .any, .any, .any, .any, .any, .any, .any, .any, .any, .any, .any, .any, .any, .any, .any, .any, .mp (H.length + 4), fa H.length, .any, fa H.length, .any, cn H.length, .any, .ptr (H.length + 2) 0 1, .any]) (hpX H i B ne.2 [some (.cells 0 (rcC X)), some (.cells 0 [.int .i64 (ne.1 : Nat)]), some (.map (mapV natK id [(5, cn H.length)]))]) Φ := by
        refine runs_fork (l1 := 2 :: o58_m_21) (l2 := 11 :: o58_m_24) gMm rfl ?_ ?_
        · refine go 2 (fun _ => false) mixed ?_
          simp (disch := omega) only [↓reduceIte, go_sem, g11_2, fa] <;> repeat with_reducible refine And.intro (by first | omega | decide) ?_
          refine (ha4 (by simp [hpX])).mono fun r H' ⟨e1, e2⟩ => ?_
          rw [e1, e2]
          exact stm_39
        refine go 2 (fun _ => false) mixed ?_
        simp (disch := omega) only [↓reduceIte, go_sem, g11_11, hpX, obj_tails, hlXX, g1X] <;> repeat with_reducible refine And.intro (by first | omega | decide) ?_
        exact stm_45
      have stm_46 : Runs Try.prog (tdOf Try.prog) ord58 H (.dr all o58_m_26 :: k2) (slots 72 [.ptr i 0 0, .ptr H.length 0 0, .ptr (H.length + 1) 0 0, .ptr (H.length + 2) 0 0, .ptr (H.length + 3) 0 0, .int .i64 ((ne.2.1 + ne.1 : Nat) : Int), fa H.length, .any, .any, .any, .any, .any, .any, .any, .any, .any, .any, .any, .any, .any, .any, .any, .any, .any, .any, .any, .any, .any, .any, .any, .any, .any, .any, .any, .any, .any, .any, .any, .any, .any, .any, .any, .any, .any, .any, .any, .any, .any, .mp (H.length + 4), fa H.length, .any, fa H.length, .any, cn H.length, .any, .ptr (H.length + 2) 0 1, .int .i64 (nb.1 : Nat)]) (hpX H i B ne.2 [some (.cells 0 (rcC X)), some (.cells 0 [.int .i64 (ne.1 : Nat)]), some (.map (mapV natK id []))]) Φ := by
        refine runs_fork (l1 := 2 :: o58_m_22) (l2 := 8 :: o58_m_24) gMm rfl ?_ ?_
        · refine go 2 (fun _ => false) mixed ?_
          simp (disch := omega) only [↓reduceIte, go_sem, g11_2, fa] <;> repeat with_reducible refine And.intro (by first | omega | decide) ?_
          refine (ha4 (by simp [hpX])).mono fun r H' ⟨e1, e2⟩ => ?_
          rw [e1, e2]
          exact stm_43
        have hp := lit_put (k := 5) (v := cn H.length) (es := []) (by show 5 ∉ []; decide)
        have hk := lit_keys []
        refine go 2 (fun _ => false) mixed ?_
        simp (disch := omega) only [↓reduceIte, go_sem, g11_8, hpX, set_tails, get_tails, hp, hk] <;> repeat with_reducible refine And.intro (by first | omega | decide) ?_
        exact stm_45
      have stm_1 : Runs Try.prog (tdOf Try.prog) ord58 H (.dr all o58_m_27 :: k2) (slots 72 [.ptr i 0 0, .ptr H.length 0 0, .ptr (H.length + 1) 0 0, .ptr (H.length + 2) 0 0, .ptr (H.length + 3) 0 0, .int .i64 ((ne.2.1 + ne.1 : Nat) : Int), fa H.length, .any, .any, .any, .any, .any, .any, .any, .any, .any, .any, .any, .any, .any, .any, .any, .any, .any, .any, .any, .any, .any, .any, .any, .any, .any, .any, .any, .any, .any, .any, .any, .any, .any, .any, .any, .any, .any, .any, .any, .any, .any, .mp (H.length + 4), fa H.length, .any, fa H.length, .any, cn H.length, .any, .ptr (H.length + 2) 0 1, .any]) (hpX H i B ne.2 [some (.cells 0 (rcC X)), some (.cells 0 [.int .i64 (ne.1 : Nat)]), some (.map (mapV natK id []))]) Φ := by
        refine runs_fork (l1 := 2 :: o58_m_23) (l2 := 14 :: (8 :: o58_m_25).length :: ((8 :: o58_m_25) ++ (11 :: o58_m_26))) gMm rfl ?_ ?_
        · refine go 2 (fun _ => false) mixed ?_
          simp (disch := omega) only [↓reduceIte, go_sem, g11_2, fa] <;> repeat with_reducible refine And.intro (by first | omega | decide) ?_
          refine (ha4 (by simp [hpX])).mono fun r H' ⟨e1, e2⟩ => ?_
          rw [e1, e2]
          exact stm_2
        refine runs_fork (l1 := 8 :: o58_m_25) (l2 := 11 :: o58_m_26) gMm rfl ?_ ?_
        · have hp := lit_put (k := 5) (v := cn H.length) (es := []) (by show 5 ∉ []; decide)
          have hk := lit_keys []
          refine go 2 (fun _ => false) mixed ?_
          simp (disch := omega) only [↓reduceIte, go_sem, g11_8, hpX, set_tails, get_tails, hp, hk] <;> repeat with_reducible refine And.intro (by first | omega | decide) ?_
          exact stm_44
        refine go 2 (fun _ => false) mixed ?_
        simp (disch := omega) only [↓reduceIte, go_sem, g11_11, hpX, obj_tails, hlXX, g1X] <;> repeat with_reducible refine And.intro (by first | omega | decide) ?_
        exact stm_46
      have stm_49 : Runs Try.prog (tdOf Try.prog) ord58 H (.dr all o58_m_28 :: k2) (slots 72 [.ptr i 0 0, .ptr H.length 0 0, .ptr (H.length + 1) 0 0, .ptr (H.length + 2) 0 0, .ptr (H.length + 3) 0 0, .int .i64 ((ne.2.1 + ne.1 : Nat) : Int), fa H.length, .any, .any, .any, .any, .any, .any, .any, .any, .any, .any, .any, .any, .any, .any, .any, .any, .any, .any, .any, .any, .any, .any, .any, .any, .any, .any, .any, .any, .any, .any, .any, .any, .any, .any, .any, .any, .any, .any, .any, .any, .any, .any, fa H.length, clo H.length 4 4, fa H.length, clo H.length 6 16, cn H.length, .any, .ptr (H.length + 2) 0 1, .int .i64 (nb.1 : Nat)]) (hpX H i B ne.2 [some (.cells 0 (rcC X)), some (.cells 0 [.int .i64 (ne.1 : Nat)])]) Φ := by
        show Runs Try.prog (tdOf Try.prog) ord58 H (.dr all (0 :: o58_m_18) :: k2) _ _ Φ
        refine go 2 (fun _ => false) mixed ?_
        simp (disch := omega) only [↓reduceIte, go_sem, g11_0, hpX] <;> repeat with_reducible refine And.intro (by first | omega | decide) ?_
        exact stm_38
      have stm_48 : Runs Try.prog (tdOf Try.prog) ord58 H (.dr all o58_m_29 :: k2) (slots 72 [.ptr i 0 0, .ptr H.length 0 0, .ptr (H.length + 1) 0 0, .ptr (H.length + 2) 0 0, .ptr (H.length + 3) 0 0, .int .i64 ((ne.2.1 + ne.1 : Nat) : Int), fa H.length, .any, .any, .any, .any, .any, .any, .any, .any, .any, .any, .any, .any, .any, .any, .any, .any, .any, .any, .any, .any, .any, .any, .any, .any, .any, .any, .any, .any, .any, .any, .any, .any, .any, .any, .any, .any, .any, .any, .any, .any, .any, .any, fa H.length, clo H.length 4 4, fa H.length, clo H.length 6 16, cn H.length, .any, .ptr (H.length + 2) 0 1, .any]) (hpX H i B ne.2 [some (.cells 0 (rcC X)), some (.cells 0 [.int .i64 (ne.1 : Nat)])]) Φ := by
        refine runs_fork (l1 := 0 :: o58_m_19) (l2 := 11 :: o58_m_28) gMm rfl ?_ ?_
        · refine go 2 (fun _ => false) mixed ?_
          simp (disch := omega) only [↓reduceIte, go_sem, g11_0, hpX] <;> repeat with_reducible refine And.intro (by first | omega | decide) ?_
          exact stm_17
        refine go 2 (fun _ => false) mixed ?_
        simp (disch := omega) only [↓reduceIte, go_sem, g11_11, hpX, obj_tails, hlXX, g1X] <;> repeat with_reducible refine And.intro (by first | omega | decide) ?_
        exact stm_49
      have stm_50 : Runs Try.prog (tdOf Try.prog) ord58 H (.dr all o58_m_30 :: k2) (slots 72 [.ptr i 0 0, .ptr H.length 0 0, .ptr (H.length + 1) 0 0, .ptr (H.length + 2) 0 0, .ptr (H.length + 3) 0 0, .int .i64 ((ne.2.1 + ne.1 : Nat) : Int), fa H.length, .any, .any, .any, .any, .any, .any, .any, .any, .any, .any, .any, .any, .any, .any, .any, .any, .any, .any, .any, .any, .any, .any, .any, .any, .any, .any, .any, .any, .any, .any, .any, .any, .any, .any, .any, .any, .any, .any, .any, .any, .any, .any, fa H.length, clo H.length 4 4, fa H.length, .any, cn H.length, .any, .ptr (H.length + 2) 0 1, .int .i64 (nb.1 : Nat)]) (hpX H i B ne.2 [some (.cells 0 (rcC X)), some (.cells 0 [.int .i64 (ne.1 : Nat)])]) Φ := by
        refine runs_fork (l1 := 0 :: o58_m_22) (l2 := 5 :: o58_m_28) gMm rfl ?_ ?_
        · refine go 2 (fun _ => false) mixed ?_
          simp (disch := omega) only [↓reduceIte, go_sem, g11_0, hpX] <;> repeat with_reducible refine And.intro (by first | omega | decide) ?_
          exact stm_43
        refine go 2 (fun _ => false) mixed ?_
        simp (disch := omega) only [↓reduceIte, go_sem, g11_5, fa] <;> repeat with_reducible refine And.intro (by first | omega | decide) ?_
        refine (ha6 (by simp [hpX])).mono fun r H' ⟨e1, e2⟩ => ?_
        rw [e1, e2]
        exact stm_49
      have stm_47 : Runs Try.prog (tdOf Try.prog) ord58 H (.dr all o58_m_31 :: k2) (slots 72 [.ptr i 0 0, .ptr H.length 0 0, .ptr (H.length + 1) 0 0, .ptr (H.length + 2) 0 0, .ptr (H.length + 3) 0 0, .int .i64 ((ne.2.1 + ne.1 : Nat) : Int), fa H.length, .any, .any, .any, .any, .any, .any, .any, .any, .any, .any, .any, .any, .any, .any, .any, .any, .any, .any, .any, .any, .any, .any, .any, .any, .any, .any, .any, .any, .any, .any, .any, .any, .any, .any, .any, .any, .any, .any, .any, .any, .any, .any, fa H.length, clo H.length 4 4, fa H.length, .any, cn H.length, .any, .ptr (H.length + 2) 0 1, .any]) (hpX H i B ne.2 [some (.cells 0 (rcC X)), some (.cells 0 [.int .i64 (ne.1 : Nat)])]) Φ := by
        refine runs_fork (l1 := 0 :: o58_m_23) (l2 := 14 :: (5 :: o58_m_29).length :: ((5 :: o58_m_29) ++ (11 :: o58_m_30))) gMm rfl ?_ ?_
        · refine go 2 (fun _ => false) mixed ?_
          simp (disch := omega) only [↓reduceIte, go_sem, g11_0, hpX] <;> repeat with_reducible refine And.intro (by first | omega | decide) ?_
          exact stm_2
        refine runs_fork (l1 := 5 :: o58_m_29) (l2 := 11 :: o58_m_30) gMm rfl ?_ ?_
        · refine go 2 (fun _ => false) mixed ?_
          simp (disch := omega) only [↓reduceIte, go_sem, g11_5, fa] <;> repeat with_reducible refine And.intro (by first | omega | decide) ?_
          refine (ha6 (by simp [hpX])).mono fun r H' ⟨e1, e2⟩ => ?_
          rw [e1, e2]
          exact stm_48
        refine go 2 (fun _ => false) mixed ?_
        simp (disch := omega) only [↓reduceIte, go_sem, g11_11, hpX, obj_tails, hlXX, g1X] <;> repeat with_reducible refine And.intro (by first | omega | decide) ?_
        exact stm_50
      have stm_51 : Runs Try.prog (tdOf Try.prog) ord58 H (.dr all o58_m_32 :: k2) (slots 72 [.ptr i 0 0, .ptr H.length 0 0, .ptr (H.length + 1) 0 0, .ptr (H.length + 2) 0 0, .ptr (H.length + 3) 0 0, .int .i64 ((ne.2.1 + ne.1 : Nat) : Int), fa H.length, .any, .any, .any, .any, .any, .any, .any, .any, .any, .any, .any, .any, .any, .any, .any, .any, .any, .any, .any, .any, .any, .any, .any, .any, .any, .any, .any, .any, .any, .any, .any, .any, .any, .any, .any, .any, .any, .any, .any, .any, .any, .any, fa H.length, .any, fa H.length, .any, cn H.length, .any, .ptr (H.length + 2) 0 1, .int .i64 (nb.1 : Nat)]) (hpX H i B ne.2 [some (.cells 0 (rcC X)), some (.cells 0 [.int .i64 (ne.1 : Nat)])]) Φ := by
        refine runs_fork (l1 := 0 :: o58_m_26) (l2 := 2 :: o58_m_30) gMm rfl ?_ ?_
        · refine go 2 (fun _ => false) mixed ?_
          simp (disch := omega) only [↓reduceIte, go_sem, g11_0, hpX] <;> repeat with_reducible refine And.intro (by first | omega | decide) ?_
          exact stm_46
        refine go 2 (fun _ => false) mixed ?_
        simp (disch := omega) only [↓reduceIte, go_sem, g11_2, fa] <;> repeat with_reducible refine And.intro (by first | omega | decide) ?_
        refine (ha4 (by simp [hpX])).mono fun r H' ⟨e1, e2⟩ => ?_
        rw [e1, e2]
        exact stm_50
      have stm_0 : Runs Try.prog (tdOf Try.prog) ord58 H (.dr all o58_m_33 :: k2) (slots 72 [.ptr i 0 0, .ptr H.length 0 0, .ptr (H.length + 1) 0 0, .ptr (H.length + 2) 0 0, .ptr (H.length + 3) 0 0, .int .i64 ((ne.2.1 + ne.1 : Nat) : Int), fa H.length, .any, .any, .any, .any, .any, .any, .any, .any, .any, .any, .any, .any, .any, .any, .any, .any, .any, .any, .any, .any, .any, .any, .any, .any, .any, .any, .any, .any, .any, .any, .any, .any, .any, .any, .any, .any, .any, .any, .any, .any, .any, .any, fa H.length, .any, fa H.length, .any, cn H.length, .any, .ptr (H.length + 2) 0 1, .any]) (hpX H i B ne.2 [some (.cells 0 (rcC X)), some (.cells 0 [.int .i64 (ne.1 : Nat)])]) Φ := by
        refine runs_fork (l1 := 0 :: o58_m_27) (l2 := 14 :: (2 :: o58_m_31).length :: ((2 :: o58_m_31) ++ (11 :: o58_m_32))) gMm rfl ?_ ?_
        · refine go 2 (fun _ => false) mixed ?_
          simp (disch := omega) only [↓reduceIte, go_sem, g11_0, hpX] <;> repeat with_reducible refine And.intro (by first | omega | decide) ?_
          exact stm_1
        refine runs_fork (l1 := 2 :: o58_m_31) (l2 := 11 :: o58_m_32) gMm rfl ?_ ?_
        · refine go 2 (fun _ => false) mixed ?_
          simp (disch := omega) only [↓reduceIte, go_sem, g11_2, fa] <;> repeat with_reducible refine And.intro (by first | omega | decide) ?_
          refine (ha4 (by simp [hpX])).mono fun r H' ⟨e1, e2⟩ => ?_
          rw [e1, e2]
          exact stm_47
        refine go 2 (fun _ => false) mixed ?_
        simp (disch := omega) only [↓reduceIte, go_sem, g11_11, hpX, obj_tails, hlXX, g1X] <;> repeat with_reducible refine And.intro (by first | omega | decide) ?_
        exact stm_51
      exact stm_0
    refine go 10 (fun _ => false) mixed ?_
    by_cases hbig : 2147483647 < nd.1
    · simp (disch := omega) only [↓reduceIte, go_sem, hlX, hG3, hbig, rcC_set3] <;> repeat with_reducible refine And.intro (by first | omega | decide) ?_
      refine go 6 (fun _ => false) mixed ?_
      simp (disch := omega) only [↓reduceIte, go_sem, hlX, hG3, hbig, rcC_set3] <;> repeat with_reducible refine And.intro (by first | omega | decide) ?_
      refine Runs.ghost hkc (Ghost.keep [true, true, true, true]) ?_
      unfold x0S at tl3
      rw [if_pos hbig] at tl3
      exact tl3
    · simp (disch := omega) only [↓reduceIte, go_sem, hlX, hG3, hbig, rcC_set3] <;> repeat with_reducible refine And.intro (by first | omega | decide) ?_
      refine go 1 (fun _ => false) mixed ?_
      simp (disch := omega) only [↓reduceIte, go_sem] <;> repeat with_reducible refine And.intro (by first | omega | decide) ?_
      refine Runs.ghost hkc (Ghost.keep [true, true, true, true]) ?_
      unfold x0S at tl3
      rw [if_neg hbig] at tl3
      exact tl3
  have gMb : all[12]? = none := by rw [hall]; rfl
  have g2_1 := congrArg (fun l : List Oper => l[1]?) hall
  have g2_2 := congrArg (fun l : List Oper => l[2]?) hall
  have g2_3 := congrArg (fun l : List Oper => l[3]?) hall
  have g2_4 := congrArg (fun l : List Oper => l[4]?) hall
  have g2_5 := congrArg (fun l : List Oper => l[5]?) hall
  simp only [List.getElem?_cons_zero, List.getElem?_cons_succ] at g2_1 g2_2 g2_3 g2_4 g2_5
  clear hall hk hΦ
  have stb_5 : Runs Try.prog (tdOf Try.prog) ord58 H (.dr all o58_b_0 :: k) (slots 72 [.ptr i 0 0, .ptr H.length 0 0, .ptr (H.length + 1) 0 0, .ptr (H.length + 2) 0 0, .any, .any, .any, .any, .any, .any, .any, .ptr i 0 0, .int .i64 (nb.1 : Nat), .ptr i 0 0, .int .i64 (nc.1 : Nat), .ptr i 0 0, .int .i64 (nd.1 : Nat)]) (hpX H i B nd.2 [some (.cells 0 (rcC ⟨na.1, 0, 0, 0, 0, z16, [], []⟩))]) Φ := by
    show Runs Try.prog (tdOf Try.prog) ord58 H (.dr all ([6, 7, 8, 9, 10, 11]) :: k) _ _ Φ
    exact tl2
  have stb_4 : Runs Try.prog (tdOf Try.prog) ord58 H (.dr all o58_b_1 :: k) (slots 72 [.ptr i 0 0, .ptr H.length 0 0, .ptr (H.length + 1) 0 0, .ptr (H.length + 2) 0 0, .any, .any, .any, .any, .any, .any, .any, .ptr i 0 0, .int .i64 (nb.1 : Nat), .ptr i 0 0, .int .i64 (nc.1 : Nat), .ptr i 0 0, .any]) (hpX H i B nc.2 [some (.cells 0 (rcC ⟨na.1, 0, 0, 0, 0, z16, [], []⟩))]) Φ := by
    show Runs Try.prog (tdOf Try.prog) ord58 H (.dr all (5 :: o58_b_0) :: k) _ _ Φ
    refine go 2 (fun _ => false) mixed ?_
    simp (disch := omega) only [↓reduceIte, go_sem, g2_5] <;> repeat with_reducible refine And.intro (by first | omega | decide) ?_
    refine hd2.mono fun r H' ⟨e1, e2⟩ => ?_
    rw [e1, e2]
    exact stb_5
  have stb_3 : Runs Try.prog (tdOf Try.prog) ord58 H (.dr all o58_b_2 :: k) (slots 72 [.ptr i 0 0, .ptr H.length 0 0, .ptr (H.length + 1) 0 0, .ptr (H.length + 2) 0 0, .any, .any, .any, .any, .any, .any, .any, .ptr i 0 0, .int .i64 (nb.1 : Nat), .ptr i 0 0, .int .i64 (nc.1 : Nat), .any, .any]) (hpX H i B nc.2 [some (.cells 0 (rcC ⟨na.1, 0, 0, 0, 0, z16, [], []⟩))]) Φ := by
    show Runs Try.prog (tdOf Try.prog) ord58 H (.dr all (4 :: o58_b_1) :: k) _ _ Φ
    refine go 2 (fun _ => false) mixed ?_
    simp (disch := omega) only [↓reduceIte, go_sem, g2_4, hpX, obj_tail0s, obj_zero] <;> repeat with_reducible refine And.intro (by first | omega | decide) ?_
    exact stb_4
  have stb_6 : Runs Try.prog (tdOf Try.prog) ord58 H (.dr all o58_b_3 :: k) (slots 72 [.ptr i 0 0, .ptr H.length 0 0, .ptr (H.length + 1) 0 0, .ptr (H.length + 2) 0 0, .any, .any, .any, .any, .any, .any, .any, .ptr i 0 0, .int .i64 (nb.1 : Nat), .ptr i 0 0, .any, .ptr i 0 0, .any]) (hpX H i B nb.2 [some (.cells 0 (rcC ⟨na.1, 0, 0, 0, 0, z16, [], []⟩))]) Φ := by
    show Runs Try.prog (tdOf Try.prog) ord58 H (.dr all (3 :: o58_b_1) :: k) _ _ Φ
    refine go 2 (fun _ => false) mixed ?_
    simp (disch := omega) only [↓reduceIte, go_sem, g2_3] <;> repeat with_reducible refine And.intro (by first | omega | decide) ?_
    refine hc2.mono fun r H' ⟨e1, e2⟩ => ?_
    rw [e1, e2]
    exact stb_4
  have stb_2 : Runs Try.prog (tdOf Try.prog) ord58 H (.dr all o58_b_4 :: k) (slots 72 [.ptr i 0 0, .ptr H.length 0 0, .ptr (H.length + 1) 0 0, .ptr (H.length + 2) 0 0, .any, .any, .any, .any, .any, .any, .any, .ptr i 0 0, .int .i64 (nb.1 : Nat), .ptr i 0 0, .any, .any, .any]) (hpX H i B nb.2 [some (.cells 0 (rcC ⟨na.1, 0, 0, 0, 0, z16, [], []⟩))]) Φ := by
    refine runs_fork (l1 := 3 :: o58_b_2) (l2 := 4 :: o58_b_3) gMb rfl ?_ ?_
    · refine go 2 (fun _ => false) mixed ?_
      simp (disch := omega) only [↓reduceIte, go_sem, g2_3] <;> repeat with_reducible refine And.intro (by first | omega | decide) ?_
      refine hc2.mono fun r H' ⟨e1, e2⟩ => ?_
      rw [e1, e2]
      exact stb_3
    refine go 2 (fun _ => false) mixed ?_
    simp (disch := omega) only [↓reduceIte, go_sem, g2_4, hpX, obj_tail0s, obj_zero] <;> repeat with_reducible refine And.intro (by first | omega | decide) ?_
    exact stb_6
  have stb_7 : Runs Try.prog (tdOf Try.prog) ord58 H (.dr all o58_b_5 :: k) (slots 72 [.ptr i 0 0, .ptr H.length 0 0, .ptr (H.length + 1) 0 0, .ptr (H.length + 2) 0 0, .any, .any, .any, .any, .any, .any, .any, .ptr i 0 0, .int .i64 (nb.1 : Nat), .any, .any, .ptr i 0 0, .any]) (hpX H i B nb.2 [some (.cells 0 (rcC ⟨na.1, 0, 0, 0, 0, z16, [], []⟩))]) Φ := by
    show Runs Try.prog (tdOf Try.prog) ord58 H (.dr all (2 :: o58_b_3) :: k) _ _ Φ
    refine go 2 (fun _ => false) mixed ?_
    simp (disch := omega) only [↓reduceIte, go_sem, g2_2, hpX, obj_tail0s, obj_zero] <;> repeat with_reducible refine And.intro (by first | omega | decide) ?_
    exact stb_6
  have stb_1 : Runs Try.prog (tdOf Try.prog) ord58 H (.dr all o58_b_6 :: k) (slots 72 [.ptr i 0 0, .ptr H.length 0 0, .ptr (H.length + 1) 0 0, .ptr (H.length + 2) 0 0, .any, .any, .any, .any, .any, .any, .any, .ptr i 0 0, .int .i64 (nb.1 : Nat), .any, .any, .any, .any]) (hpX H i B nb.2 [some (.cells 0 (rcC ⟨na.1, 0, 0, 0, 0, z16, [], []⟩))]) Φ := by
    refine runs_fork (l1 := 2 :: o58_b_4) (l2 := 4 :: o58_b_5) gMb rfl ?_ ?_
    · refine go 2 (fun _ => false) mixed ?_
      simp (disch := omega) only [↓reduceIte, go_sem, g2_2, hpX, obj_tail0s, obj_zero] <;> repeat with_reducible refine And.intro (by first | omega | decide) ?_
      exact stb_2
    refine go 2 (fun _ => false) mixed ?_
    simp (disch := omega) only [↓reduceIte, go_sem, g2_4, hpX, obj_tail0s, obj_zero] <;> repeat with_reducible refine And.intro (by first | omega | decide) ?_
    exact stb_7
  have stb_9 : Runs Try.prog (tdOf Try.prog) ord58 H (.dr all o58_b_7 :: k) (slots 72 [.ptr i 0 0, .ptr H.length 0 0, .ptr (H.length + 1) 0 0, .ptr (H.length + 2) 0 0, .any, .any, .any, .any, .any, .any, .any, .ptr i 0 0, .any, .ptr i 0 0, .any, .ptr i 0 0, .any]) (hpX H i B na.2 [some (.cells 0 (rcC ⟨na.1, 0, 0, 0, 0, z16, [], []⟩))]) Φ := by
    show Runs Try.prog (tdOf Try.prog) ord58 H (.dr all (1 :: o58_b_3) :: k) _ _ Φ
    refine go 2 (fun _ => false) mixed ?_
    simp (disch := omega) only [↓reduceIte, go_sem, g2_1] <;> repeat with_reducible refine And.intro (by first | omega | decide) ?_
    refine hb2.mono fun r H' ⟨e1, e2⟩ => ?_
    rw [e1, e2]
    exact stb_6
  have stb_8 : Runs Try.prog (tdOf Try.prog) ord58 H (.dr all o58_b_8 :: k) (slots 72 [.ptr i 0 0, .ptr H.length 0 0, .ptr (H.length + 1) 0 0, .ptr (H.length + 2) 0 0, .any, .any, .any, .any, .any, .any, .any, .ptr i 0 0, .any, .ptr i 0 0, .any, .any, .any]) (hpX H i B na.2 [some (.cells 0 (rcC ⟨na.1, 0, 0, 0, 0, z16, [], []⟩))]) Φ := by
    refine runs_fork (l1 := 1 :: o58_b_4) (l2 := 4 :: o58_b_7) gMb rfl ?_ ?_
    · refine go 2 (fun _ => false) mixed ?_
      simp (disch := omega) only [↓reduceIte, go_sem, g2_1] <;> repeat with_reducible refine And.intro (by first | omega | decide) ?_
      refine hb2.mono fun r H' ⟨e1, e2⟩ => ?_
      rw [e1, e2]
      exact stb_2
    refine go 2 (fun _ => false) mixed ?_
    simp (disch := omega) only [↓reduceIte, go_sem, g2_4, hpX, obj_tail0s, obj_zero] <;> repeat with_reducible refine And.intro (by first | omega | decide) ?_
    exact stb_9
  have stb_10 : Runs Try.prog (tdOf Try.prog) ord58 H (.dr all o58_b_9 :: k) (slots 72 [.ptr i 0 0, .ptr H.length 0 0, .ptr (H.length + 1) 0 0, .ptr (H.length + 2) 0 0, .any, .any, .any, .any, .any, .any, .any, .ptr i 0 0, .any, .any, .any, .ptr i 0 0, .any]) (hpX H i B na.2 [some (.cells 0 (rcC ⟨na.1, 0, 0, 0, 0, z16, [], []⟩))]) Φ := by
    refine runs_fork (l1 := 1 :: o58_b_5) (l2 := 2 :: o58_b_7) gMb rfl ?_ ?_
    · refine go 2 (fun _ => false) mixed ?_
      simp (disch := omega) only [↓reduceIte, go_sem, g2_1] <;> repeat with_reducible refine And.intro (by first | omega | decide) ?_
      refine hb2.mono fun r H' ⟨e1, e2⟩ => ?_
      rw [e1, e2]
      exact stb_7
    refine go 2 (fun _ => false) mixed ?_
    simp (disch := omega) only [↓reduceIte, go_sem, g2_2, hpX, obj_tail0s, obj_zero] <;> repeat with_reducible refine And.intro (by first | omega | decide) ?_
    exact stb_9
  have stb_0 : Runs Try.prog (tdOf Try.prog) ord58 H (.dr all o58_b_10 :: k) (slots 72 [.ptr i 0 0, .ptr H.length 0 0, .ptr (H.length + 1) 0 0, .ptr (H.length + 2) 0 0, .any, .any, .any, .any, .any, .any, .any, .ptr i 0 0, .any, .any, .any, .any, .any]) (hpX H i B na.2 [some (.cells 0 (rcC ⟨na.1, 0, 0, 0, 0, z16, [], []⟩))]) Φ := by
    refine runs_fork (l1 := 1 :: o58_b_6) (l2 := 12 :: (2 :: o58_b_8).length :: ((2 :: o58_b_8) ++ (4 :: o58_b_9))) gMb rfl ?_ ?_
    · refine go 2 (fun _ => false) mixed ?_
      simp (disch := omega) only [↓reduceIte, go_sem, g2_1] <;> repeat with_reducible refine And.intro (by first | omega | decide) ?_
      refine hb2.mono fun r H' ⟨e1, e2⟩ => ?_
      rw [e1, e2]
      exact stb_1
    refine runs_fork (l1 := 2 :: o58_b_8) (l2 := 4 :: o58_b_9) gMb rfl ?_ ?_
    · refine go 2 (fun _ => false) mixed ?_
      simp (disch := omega) only [↓reduceIte, go_sem, g2_2, hpX, obj_tail0s, obj_zero] <;> repeat with_reducible refine And.intro (by first | omega | decide) ?_
      exact stb_8
    refine go 2 (fun _ => false) mixed ?_
    simp (disch := omega) only [↓reduceIte, go_sem, g2_4, hpX, obj_tail0s, obj_zero] <;> repeat with_reducible refine And.intro (by first | omega | decide) ?_
    exact stb_10
  exact stb_0
end Go.Proofs.GoC
