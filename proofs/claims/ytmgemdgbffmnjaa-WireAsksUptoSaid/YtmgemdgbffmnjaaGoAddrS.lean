/-
  What the functions compute: addresses, their bytes, which may be. Printed by mkaddrs.py out of older texts. No claim by itself.
-/
import Derived.Test.YtmgemdgbffmnjaaGoAdr
import Derived.Test.YtmgemdgbffmnjaaGoCut
import Derived.Test.YtmgemdgbffmnjaaSlM5
namespace Go.Proofs.GoC
open Go Go.Proofs.SL
set_option linter.unusedSimpArgs false
set_option linter.unusedVariables false
set_option maxRecDepth 10000
set_option maxHeartbeats 2000000

theorem or_addk {k : IntKind} {a b s : Nat} (hb : b < 2 ^ s) (hs : k.signed = false) (h : a * 2 ^ s + b < 2 ^ k.bits) : bitOp .or k ((a * 2 ^ s : Nat) : Int) (b : Int) = ((a * 2 ^ s + b : Nat) : Int) := by
  unfold bitOp
  simp only
  have e : (BitVec.ofInt k.bits ((a * 2 ^ s : Nat) : Int) ||| BitVec.ofInt k.bits (b : Int)).toNat = a * 2 ^ s + b := by
    rw [BitVec.toNat_or, BitVec.ofInt_natCast, BitVec.ofInt_natCast, BitVec.toNat_ofNat, BitVec.toNat_ofNat, Nat.mod_eq_of_lt (by omega), Nat.mod_eq_of_lt (by omega), Nat.mul_comm a, Nat.two_pow_add_eq_or_of_lt hb]
  rw [e]
  generalize a * 2 ^ s + b = n at *
  cases k <;> simp [IntKind.signed] at hs
  · have h : n < 256 := h; exact nw_u8 (by omega) (by omega)
  · have h : n < 65536 := h; exact nw_u16 (by omega) (by omega)
  · have h : n < 4294967296 := h; exact nw_u32 (by omega) (by omega)
  · have h : n < 18446744073709551616 := h; exact nw_u64 (by omega) (by omega)
@[go_sem] theorem or_u32 {a b : Nat} (hb : b < 256) (h : a * 256 + b < 4294967296) : bitOp .or .u32 ((a * 256 : Nat) : Int) (b : Int) = ((a * 256 + b : Nat) : Int) := or_addk (k := .u32) (s := 8) hb rfl h
@[go_sem] theorem or_u32' {b : Nat} (hb : b < 256) : bitOp .or .u32 0 (b : Int) = (b : Int) := by
  have := or_addk (k := .u32) (a := 0) (s := 8) hb rfl (by show 0 * 2 ^ 8 + b < 2 ^ 32; omega)
  simpa using this
def of4 (a b c d : Nat) : Nat := ((a * 256 + b) * 256 + c) * 256 + d
theorem c_four_Of (a b c d : Nat) (ha : a ≤ 255) (hb' : b ≤ 255) (hc : c ≤ 255) (hd : d ≤ 255) : PCall Try.prog 99 [.agg [.int .u8 a, .int .u8 b, .int .u8 c, .int .u8 d]] (.int .u32 (of4 a b c d : Nat)) := by
  intro H
  refine scall_of (ord := fun _ => []) (rs := [2]) Try.func99 rfl (by kernel_rfl) (by kernel_rfl) (by kernel_rfl) Try.ntmps99 fun hb hargs => go 200 (fun _ => false) mixed ?_
  simp (disch := omega) only [↓reduceIte, go_sem] <;> repeat with_reducible refine And.intro (by first | omega | decide) ?_
  refine runs_rounds 5 (by rfl) (ru_go [false, false, false, true, false, false, true, true] (go 200 (fun _ => false) mixed ?_))
  simp (disch := omega) only [↓reduceIte, go_sem] <;> repeat with_reducible refine And.intro (by first | omega | decide) ?_
  refine ru_go [false, false, false, true, false, false, true, true] (go 200 (fun _ => false) mixed ?_)
  simp (disch := omega) only [↓reduceIte, go_sem] <;> repeat with_reducible refine And.intro (by first | omega | decide) ?_
  refine ru_go [false, false, false, true, false, false, true, true] (go 200 (fun _ => false) mixed ?_)
  simp (disch := omega) only [↓reduceIte, go_sem] <;> repeat with_reducible refine And.intro (by first | omega | decide) ?_
  refine ru_go [false, false, false, true, false, false, true, true] (go 200 (fun _ => false) mixed ?_)
  simp (disch := omega) only [↓reduceIte, go_sem] <;> repeat with_reducible refine And.intro (by first | omega | decide) ?_
  refine ru_go [false, false, false, true, false, false, true, true] (go 200 (fun _ => false) mixed ?_)
  simp (disch := omega) only [↓reduceIte, go_sem] <;> repeat with_reducible refine And.intro (by first | omega | decide) ?_
  refine go 200 (fun _ => false) mixed ?_
  simp (disch := omega) only [↓reduceIte, go_sem] <;> repeat with_reducible refine And.intro (by first | omega | decide) ?_
  exact fin_drop (.inr rfl) hb rfl (by simp)
/-- An address's bytes. -/
def by3 (n : Nat) : Nat := n / 16777216
def by2 (n : Nat) : Nat := n / 65536 % 256
def by1 (n : Nat) : Nat := n / 256 % 256
def by0 (n : Nat) : Nat := n % 256
def bytesV (n : Nat) : PV := .agg [.int .u8 (by3 n : Nat), .int .u8 (by2 n : Nat), .int .u8 (by1 n : Nat), .int .u8 (by0 n : Nat)]
theorem by_in (n : Nat) (h : n ≤ 4294967295) : by3 n ≤ 255 ∧ by2 n ≤ 255 ∧ by1 n ≤ 255 ∧ by0 n ≤ 255 := by
  unfold by3 by2 by1 by0; omega
theorem by_of (n : Nat) (h : n ≤ 4294967295) : of4 (by3 n) (by2 n) (by1 n) (by0 n) = n := by
  unfold of4 by3 by2 by1 by0; omega
theorem of_by (a b c d : Nat) (ha : a ≤ 255) (hb : b ≤ 255) (hc : c ≤ 255) (hd : d ≤ 255) : by3 (of4 a b c d) = a ∧ by2 (of4 a b c d) = b ∧ by1 (of4 a b c d) = c ∧ by0 (of4 a b c d) = d := by
  unfold of4 by3 by2 by1 by0; omega
theorem c_four_Bytes (n : Nat) (h : n ≤ 4294967295) : PCall Try.prog 98 [.int .u32 n] (bytesV n) := by
  intro H
  have u3 : IntKind.u8.wrap ((n / 16777216 : Nat) : Int) = ((by3 n : Nat) : Int) := nw_u8 (by omega) (by omega)
  have u2 : IntKind.u8.wrap ((n / 65536 : Nat) : Int) = ((by2 n : Nat) : Int) := mw_u8
  have u1 : IntKind.u8.wrap ((n / 256 : Nat) : Int) = ((by1 n : Nat) : Int) := mw_u8
  have u0 : IntKind.u8.wrap ((n : Nat) : Int) = ((by0 n : Nat) : Int) := mw_u8
  have f0 : (n : Int).fdiv 1 = n := by rw [Int.fdiv_eq_ediv_of_nonneg _ (by omega)]; omega
  refine scall_ofc (ord := fun _ => []) (tdOf_ok _) (rs := [.cell 2 132]) Try.func98 rfl (by kernel_rfl) (by kernel_rfl) (by kernel_rfl) Try.ntmps98 fun hb hargs => go 200 (fun _ => false) mixed ?_
  simp (disch := omega) only [↓reduceIte, go_sem] <;> repeat with_reducible refine And.intro (by first | omega | decide) ?_
  refine runs_rounds 5 (by rfl) (ru_go [true, false, true, true, false, true] (go 200 (fun _ => false) mixed ?_))
  simp (disch := omega) only [↓reduceIte, go_sem, u3] <;> repeat with_reducible refine And.intro (by first | omega | decide) ?_
  refine ru_go [true, false, true, true, false, true] (go 200 (fun _ => false) mixed ?_)
  simp (disch := omega) only [↓reduceIte, go_sem, u2] <;> repeat with_reducible refine And.intro (by first | omega | decide) ?_
  refine ru_go [true, false, true, true, false, true] (go 200 (fun _ => false) mixed ?_)
  simp (disch := omega) only [↓reduceIte, go_sem, u1] <;> repeat with_reducible refine And.intro (by first | omega | decide) ?_
  refine ru_go [true, false, true, true, false, true] (go 200 (fun _ => false) mixed ?_)
  simp (disch := omega) only [↓reduceIte, go_sem, u0, f0] <;> repeat with_reducible refine And.intro (by first | omega | decide) ?_
  refine ru_go [true, false, true, true, false, true] (go 200 (fun _ => false) mixed ?_)
  simp (disch := omega) only [↓reduceIte, go_sem] <;> repeat with_reducible refine And.intro (by first | omega | decide) ?_
  refine go 200 (fun _ => false) mixed ?_
  simp (disch := omega) only [↓reduceIte, go_sem] <;> repeat with_reducible refine And.intro (by first | omega | decide) ?_
  refine fin_c (.inr rfl) hb ?_ (by simp [bytesV])
  simp (disch := omega) only [↓reduceIte, go_sem] <;> repeat with_reducible refine And.intro (by first | omega | decide) ?_
  trivial
def u16s (ns : List Nat) : List PV := ns.map fun n => .int .u16 (n : Nat)
@[go_sem] theorem u16s_len {ns : List Nat} : (u16s ns).length = ns.length := List.length_map ..
theorem u16s_get {ns : List Nat} {k : Nat} (h : k < ns.length) : (u16s ns).getD k .any = .int .u16 (ns.getD k 0 : Nat) := by
  simp [u16s, List.getD_eq_getElem?_getD, h]
@[go_sem] theorem u16s_one {gs : List Nat} : (u16s gs).all PV.one = true := by simp [u16s, PV.one]
theorem mem_get {gs : List Nat} (hle : ∀ g ∈ gs, g ≤ 65535) (k : Nat) : gs.getD k 0 ≤ 65535 := by
  rw [List.getD_eq_getElem?_getD]
  rcases Nat.lt_or_ge k gs.length with h | h
  · rw [List.getElem?_eq_getElem h]; exact hle _ (List.getElem_mem h)
  · rw [List.getElem?_eq_none h]; exact Nat.zero_le _
theorem fill_set {ps : List PV} {z v : PV} {k n : Nat} (h : ps.length = k) (hk : k < n) : (ps ++ List.replicate (n - k) z).set k v = (ps ++ [v]) ++ List.replicate (n - (k + 1)) z := by
  rw [show n - k = (n - (k + 1)) + 1 by omega, List.replicate_succ, List.set_append_right _ _ (by omega), h, Nat.sub_self]
  simp
/-- An address's bytes, the higher one first. -/
def bytes6 : List Nat → List Nat
  | [] => []
  | n :: l => n / 256 :: n % 256 :: bytes6 l
theorem bytes6_len : ∀ gs : List Nat, (bytes6 gs).length = 2 * gs.length
  | [] => rfl
  | n :: l => by simp only [bytes6, List.length_cons, bytes6_len l]; omega
theorem bytes6_app : ∀ a b : List Nat, bytes6 (a ++ b) = bytes6 a ++ bytes6 b
  | [], b => rfl
  | n :: l, b => by simp only [List.cons_append, bytes6, bytes6_app l b]
theorem bdd_u16s {n : Nat} {l : List Nat} : Bdd n (.agg (u16s l)) := .agg _ fun p hp => by
  obtain ⟨x, _, rfl⟩ := List.mem_map.mp hp
  exact .int _ _
/-- The bytes of a number's address. -/
def of4L (n : Nat) : List Nat := [by3 n, by2 n, by1 n, by0 n] ++ z12
def fourL (l : List Nat) : Nat := of4 (l.getD 0 0) (l.getD 1 0) (l.getD 2 0) (l.getD 3 0)
theorem of4L_len (n : Nat) : (of4L n).length = 16 := rfl
theorem of4L_le (n : Nat) (h : n ≤ 4294967295) : ∀ b ∈ of4L n, b ≤ 255 := by
  obtain ⟨h3, h2, h1, h0⟩ := by_in n h
  intro b hb
  simp only [of4L, z12, List.cons_append, List.nil_append, List.mem_cons, List.not_mem_nil, or_false] at hb
  omega
theorem fourL_le {l : List Nat} (hle : ∀ b ∈ l, b ≤ 255) : fourL l ≤ 4294967295 := by
  have := mem_get8 hle 0; have := mem_get8 hle 1; have := mem_get8 hle 2; have := mem_get8 hle 3
  unfold fourL of4; omega
theorem four_of4 (n : Nat) (h : n ≤ 4294967295) : fourL (of4L n) = n := by
  have := by_of n h
  simpa [fourL, of4L, z12] using this
theorem of4_four {l : List Nat} (hl : l.length = 16) (hle : ∀ b ∈ l, b ≤ 255) : of4L (fourL l) = l.take 4 ++ z12 := by
  have h0 := mem_get8 hle 0; have h1 := mem_get8 hle 1; have h2 := mem_get8 hle 2; have h3 := mem_get8 hle 3
  obtain ⟨e3, e2, e1, e0⟩ := of_by _ _ _ _ h0 h1 h2 h3
  obtain ⟨a0, a1, a2, a3, a4, a5, a6, a7, a8, a9, b0, b1, b2, b3, b4, b5, rfl⟩ := len16 hl
  unfold of4L fourL
  rw [e3, e2, e1, e0]
  rfl
def ordOf4 : Nat → List Nat
  | 3 => [0, 1, 2, 3]
  | _ => []
theorem ordOf4_3 : ordOf4 3 = [0, 1, 2, 3] := rfl
theorem c_addr_Of4 (n : Nat) (h : n ≤ 4294967295) : PCall Try.prog 90 [.int .u32 n] (adrV 4 (of4L n)) := by
  intro H
  refine scall_ofc (ord := ordOf4) (tdOf_ok _) (rs := [.cell 2 30]) Try.func90 rfl (by kernel_rfl) (by kernel_rfl) (by kernel_rfl) Try.ntmps90 fun hb hargs => go 200 (fun t => t == 99) mixed ?_
  simp (disch := omega) only [↓reduceIte, go_sem] <;> repeat with_reducible refine And.intro (by first | omega | decide) ?_
  refine (c_four_Bytes n h).on (go 200 (fun _ => false) mixed ?_)
  unfold bytesV
  simp (disch := omega) only [↓reduceIte, go_sem, ordOf4_3] <;> repeat with_reducible refine And.intro (by first | omega | decide) ?_
  exact fin_c (.inr rfl) hb (by simp only [go_sem] <;> rfl) bdd_adr
theorem c_abatisref04_Of4 (n : Nat) (h : n ≤ 4294967295) : PCall Try.prog 84 [.int .u32 n] (adrV 4 (of4L n)) := by
  intro H
  have d1 : n / 256 / 256 = n / 65536 := by omega
  have d2 : n / 65536 / 256 = n / 16777216 := by omega
  have b3 : n / 16777216 % 256 = by3 n := by unfold by3; omega
  have b2 : n / 65536 % 256 = by2 n := rfl
  have b1 : n / 256 % 256 = by1 n := rfl
  have b0 : n % 256 = by0 n := rfl
  refine scall_ofc (ord := fun _ => []) (tdOf_ok _) (rs := [.cell 2 30]) Try.func84 rfl (by kernel_rfl) (by kernel_rfl) (by kernel_rfl) Try.ntmps84 fun hb hargs => go 200 (fun _ => false) mixed ?_
  simp (disch := omega) only [↓reduceIte, go_sem] <;> repeat with_reducible refine And.intro (by first | omega | decide) ?_
  refine runs_rounds 5 (by rfl) (ru_go [true, false, true, true, true] (go 200 (fun _ => false) mixed ?_))
  simp (disch := omega) only [↓reduceIte, go_sem, b0] <;> repeat with_reducible refine And.intro (by first | omega | decide) ?_
  refine ru_go [true, false, true, true, true] (go 200 (fun _ => false) mixed ?_)
  simp (disch := omega) only [↓reduceIte, go_sem, b1, d1] <;> repeat with_reducible refine And.intro (by first | omega | decide) ?_
  refine ru_go [true, false, true, true, true] (go 200 (fun _ => false) mixed ?_)
  simp (disch := omega) only [↓reduceIte, go_sem, b2, d2] <;> repeat with_reducible refine And.intro (by first | omega | decide) ?_
  refine ru_go [true, false, true, true, true] (go 200 (fun _ => false) mixed ?_)
  simp (disch := omega) only [↓reduceIte, go_sem, b3] <;> repeat with_reducible refine And.intro (by first | omega | decide) ?_
  refine ru_go [true, false, true, true, true] (go 200 (fun _ => false) mixed ?_)
  simp (disch := omega) only [↓reduceIte, go_sem] <;> repeat with_reducible refine And.intro (by first | omega | decide) ?_
  refine go 200 (fun _ => false) mixed ?_
  simp (disch := omega) only [↓reduceIte, go_sem] <;> repeat with_reducible refine And.intro (by first | omega | decide) ?_
  exact fin_c (.inr rfl) hb (by simp only [go_sem] <;> rfl) bdd_adr
theorem c_abatisref04_Of6 (gs : List Nat) (hl : gs.length = 8) (hle : ∀ g ∈ gs, g ≤ 65535) : PCall Try.prog 96 [.agg (u16s gs)] (adrV 6 (bytes6 gs)) := by
  intro H
  refine scall_ofc (ord := fun _ => []) (tdOf_ok _) (rs := [.cell 2 30]) Try.func96 rfl (by kernel_rfl) (by kernel_rfl) (by kernel_rfl) Try.ntmps96 fun hb hargs => go 200 (fun _ => false) mixed ?_
  simp (disch := omega) only [↓reduceIte, go_sem, hl] <;> repeat with_reducible refine And.intro (by first | omega | decide) ?_
  refine runs_loopA (fun k : Nat => k ≤ 8) (fun k => 8 - k)
    [false, true, true, true, true]
    (fun k => slots 30 [.any, .ptr H.length 0 0, .ptr (H.length + 1) 0 0, .ptr (H.length + 2) 0 0, .int .i64 k])
    (fun k => H ++ [some (.cells 0 (u16s gs)), some (.cells 0 (adrC 0 z16)), some (.cells 0 (.int .i64 6 :: (u8s (bytes6 (gs.take k)) ++ List.replicate (16 - 2 * k) (PV.int .u8 0))))]) (by rfl) 0 (Nat.zero_le _) rfl rfl ?_
  intro k hk
  refine go 200 (fun _ => false) mixed ?_
  by_cases hlt : k < 8
  · have g := u16s_get (ns := gs) (k := k) (by omega)
    have gl := mem_get hle k
    have hlen : (u8s (bytes6 (gs.take k))).length = 2 * k := by rw [u8s_len, bytes6_len, List.length_take]; omega
    have f1 := fill_set (z := PV.int .u8 0) (v := PV.int .u8 ((gs.getD k 0 / 256 : Nat) : Int)) (n := 16) hlen (by omega)
    have f2 := fill_set (ps := u8s (bytes6 (gs.take k)) ++ [PV.int .u8 ((gs.getD k 0 / 256 : Nat) : Int)]) (z := PV.int .u8 0) (v := PV.int .u8 ((gs.getD k 0 % 256 : Nat) : Int)) (k := 2 * k + 1) (n := 16) (by rw [List.length_append, hlen]; rfl) (by omega)
    have b1 : (u8s (bytes6 (gs.take k)) ++ List.replicate (16 - 2 * k) (PV.int .u8 0)).length = 16 := by rw [List.length_append, hlen, List.length_replicate]; omega
    have b2 : (u8s (bytes6 (gs.take k)) ++ [PV.int IntKind.u8 ((gs.getD k 0 / 256 : Nat) : Int)] ++ List.replicate (16 - (2 * k + 1)) (PV.int IntKind.u8 0)).length = 16 := by rw [List.length_append, List.length_append, hlen, List.length_replicate]; simp only [List.length_singleton]; omega
    have hnext : u8s (bytes6 (gs.take k)) ++ [PV.int .u8 ((gs.getD k 0 / 256 : Nat) : Int)] ++ [PV.int .u8 ((gs.getD k 0 % 256 : Nat) : Int)] ++ List.replicate (16 - (2 * k + 1 + 1)) (PV.int .u8 0) = u8s (bytes6 (gs.take (k + 1))) ++ List.replicate (16 - 2 * (k + 1)) (PV.int .u8 0) := by
      rw [take_snoc (d := 0) (show k < gs.length by omega), bytes6_app, show 2 * k + 1 + 1 = 2 * (k + 1) by omega]
      simp [bytes6, u8s]
    simp (disch := omega) only [↓reduceIte, go_sem, hlt, hl, g, b1, b2, f1, f2] <;> repeat with_reducible refine And.intro (by first | omega | decide) ?_
    refine rnd_next (k + 1) (by omega) (by show 8 - (k + 1) < 8 - k; omega) rfl ?_
    rw [hnext]
  · simp (disch := omega) only [↓reduceIte, go_sem, hlt] <;> repeat with_reducible refine And.intro (by first | omega | decide) ?_
    have hk8 : k = 8 := by omega
    subst hk8
    have b16 : (bytes6 gs).length = 16 := by rw [bytes6_len]; omega
    have t6 : List.take 16 (u8s (bytes6 gs)) = u8s (bytes6 gs) := List.take_of_length_le (by rw [u8s_len]; omega)
    have tg : List.take 8 gs = gs := List.take_of_length_le (by omega)
    refine go 200 (fun _ => false) mixed ?_
    have dz : List.drop 16 (u8s z16) = [] := rfl
    simp (disch := omega) only [↓reduceIte, go_sem, tg, b16, t6, adrC, u8s_one, dz] <;> repeat with_reducible refine And.intro (by first | omega | decide) ?_
    exact fin_c (.inr rfl) hb (by simp only [go_sem, b16, t6, dz] <;> rfl) bdd_adr
theorem c_addr_Four (f : Int) (l : List Nat) (hl : l.length = 16) (hle : ∀ b ∈ l, b ≤ 255) : PCall Try.prog 91 [adrV f l] (.int .u32 (fourL l : Nat)) := by
  intro H
  have h0 := mem_get8 hle 0; have h1 := mem_get8 hle 1; have h2 := mem_get8 hle 2; have h3 := mem_get8 hle 3
  unfold fourL
  obtain ⟨a0, a1, a2, a3, a4, a5, a6, a7, a8, a9, b0, b1, b2, b3, b4, b5, rfl⟩ := len16 hl
  refine scall_of (ord := fun _ => []) (rs := [2]) Try.func91 rfl (by kernel_rfl) (by kernel_rfl) (by kernel_rfl) Try.ntmps91 fun hb hargs => go 200 (fun _ => false) mixed ?_
  simp (disch := omega) only [↓reduceIte, go_sem, adrV, adrC, u8s] <;> repeat with_reducible refine And.intro (by first | omega | decide) ?_
  refine (c_four_Of a0 a1 a2 a3 h0 h1 h2 h3).on (go 200 (fun _ => false) mixed ?_)
  simp (disch := omega) only [↓reduceIte, go_sem] <;> repeat with_reducible refine And.intro (by first | omega | decide) ?_
  exact fin_drop (.inr rfl) hb rfl (by simp)
theorem c_abatisref04_Four (f : Int) (l : List Nat) (hl : l.length = 16) (hle : ∀ b ∈ l, b ≤ 255) : PCall Try.prog 85 [adrV f l] (.int .u32 (fourL l : Nat)) := by
  intro H
  have h0 := mem_get8 hle 0; have h1 := mem_get8 hle 1; have h2 := mem_get8 hle 2; have h3 := mem_get8 hle 3
  unfold fourL
  obtain ⟨a0, a1, a2, a3, a4, a5, a6, a7, a8, a9, b0, b1, b2, b3, b4, b5, rfl⟩ := len16 hl
  simp only [List.getD_cons_zero, List.getD_cons_succ] at h0 h1 h2 h3 ⊢
  refine scall_of (ord := fun _ => []) (rs := [2]) Try.func85 rfl (by kernel_rfl) (by kernel_rfl) (by kernel_rfl) Try.ntmps85 fun hb hargs => go 200 (fun _ => false) mixed ?_
  simp (disch := omega) only [↓reduceIte, go_sem, adrV, adrC, u8s] <;> repeat with_reducible refine And.intro (by first | omega | decide) ?_
  refine runs_rounds 5 (by rfl) (ru_go [false, true, true, true, true] (go 200 (fun _ => false) mixed ?_))
  simp (disch := omega) only [↓reduceIte, go_sem] <;> repeat with_reducible refine And.intro (by first | omega | decide) ?_
  refine ru_go [false, true, true, true, true] (go 200 (fun _ => false) mixed ?_)
  simp (disch := omega) only [↓reduceIte, go_sem] <;> repeat with_reducible refine And.intro (by first | omega | decide) ?_
  refine ru_go [false, true, true, true, true] (go 200 (fun _ => false) mixed ?_)
  simp (disch := omega) only [↓reduceIte, go_sem] <;> repeat with_reducible refine And.intro (by first | omega | decide) ?_
  refine ru_go [false, true, true, true, true] (go 200 (fun _ => false) mixed ?_)
  simp (disch := omega) only [↓reduceIte, go_sem] <;> repeat with_reducible refine And.intro (by first | omega | decide) ?_
  refine ru_go [false, true, true, true, true] (go 200 (fun _ => false) mixed ?_)
  simp (disch := omega) only [↓reduceIte, go_sem] <;> repeat with_reducible refine And.intro (by first | omega | decide) ?_
  refine go 200 (fun _ => false) mixed ?_
  simp (disch := omega) only [↓reduceIte, go_sem] <;> repeat with_reducible refine And.intro (by first | omega | decide) ?_
  exact fin_drop (.inr rfl) hb (by simp [retV, of4]) (by simp)
theorem c_abatisref04_Good (f : Int) (h1 : -9223372036854775808 ≤ f) (h2 : f ≤ 9223372036854775807) (l : List Nat) (hl : l.length = 16) (hle : ∀ b ∈ l, b ≤ 255) :
    PCall Try.prog 83 [adrV f l] (if f.tmod 2 = 0 then adrV 4 (l.take 4 ++ z12) else adrV 6 l) := by
  intro H
  have t16 : List.take 16 (u8s l) = u8s l := List.take_of_length_le (by rw [u8s_len]; omega)
  have e := of4_four hl hle
  refine scall_ofc (ord := fun _ => []) (tdOf_ok _) (rs := [.cell 2 30]) Try.func83 rfl (by kernel_rfl) (by kernel_rfl) (by kernel_rfl) Try.ntmps83 fun hb hargs => go 200 (fun _ => false) mixed ?_
  by_cases h0 : f.tmod 2 = 0
  · simp (disch := omega) only [↓reduceIte, go_sem, h0, hl, t16, adrV, adrC] <;> repeat with_reducible refine And.intro (by first | omega | decide) ?_
    refine (c_abatisref04_Four f l hl hle).on (go 200 (fun _ => false) mixed ?_)
    simp (disch := omega) only [↓reduceIte, go_sem] <;> repeat with_reducible refine And.intro (by first | omega | decide) ?_
    refine (c_abatisref04_Of4 _ (fourL_le hle)).on (go 200 (fun _ => false) mixed ?_)
    rw [e]
    have l16 : (l.take 4 ++ z12).length = 16 := by rw [List.length_append, List.length_take]; simp only [z12, List.length_cons, List.length_nil]; omega
    have t16' : List.take 16 (u8s (l.take 4 ++ z12)) = u8s (l.take 4 ++ z12) := List.take_of_length_le (by rw [u8s_len]; omega)
    simp (disch := omega) only [↓reduceIte, go_sem, adrV, adrC, l16, t16'] <;> repeat with_reducible refine And.intro (by first | omega | decide) ?_
    exact fin_c (.inr rfl) hb (by simp only [go_sem, l16, t16'] <;> rfl) bdd_adr
  · simp (disch := omega) only [↓reduceIte, go_sem, h0, hl, t16, adrV, adrC] <;> repeat with_reducible refine And.intro (by first | omega | decide) ?_
    exact fin_c (.inr rfl) hb (by simp only [go_sem, hl, t16] <;> rfl) bdd_adr
/-- Whether an address may be. -/
def mayA (f : Int) (l : List Nat) : Bool := if f = 0 then decide (l = z16) else if f = 4 then decide (l = l.take 4 ++ z12) else decide (f = 6)
theorem c_addr_May (f : Int) (l : List Nat) (hl : l.length = 16) (hle : ∀ b ∈ l, b ≤ 255) : PCall Try.prog 67 [adrV f l] (.bool (mayA f l)) := by
  intro H
  have t16 := u8s_take16 hl
  have tu := u8s_tag16 hl
  have tu4 := u8s_tag16 (of4L_len (fourL l))
  have e := of4_four hl hle
  refine scall_of (ord := fun _ => []) (rs := [2]) Try.func67 rfl (by kernel_rfl) (by kernel_rfl) (by kernel_rfl) Try.ntmps67 fun hb hargs => go 200 (fun _ => false) mixed ?_
  by_cases h0 : f = 0
  · subst h0
    simp (disch := omega) only [↓reduceIte, go_sem, hl, t16, adrV, adrC, tu] <;> repeat with_reducible refine And.intro (by first | omega | decide) ?_
    exact fin_drop (.inr rfl) hb (congrArg PV.bool (by rw [Bool.eq_iff_iff]; simp [mayA])) (by simp)
  by_cases h4 : f = 4
  · subst h4
    simp (disch := omega) only [↓reduceIte, go_sem, hl, t16, adrV, adrC] <;> repeat with_reducible refine And.intro (by first | omega | decide) ?_
    refine (c_addr_Four 4 l hl hle).onq (go 200 (fun _ => false) mixed ?_)
    simp (disch := omega) only [↓reduceIte, go_sem] <;> repeat with_reducible refine And.intro (by first | omega | decide) ?_
    refine (c_addr_Of4 _ (fourL_le hle)).onq (go 200 (fun _ => false) mixed ?_)
    simp (disch := omega) only [↓reduceIte, go_sem, hl, t16, adrV, adrC, tu, tu4] <;> repeat with_reducible refine And.intro (by first | omega | decide) ?_
    exact fin_drop (.inr rfl) hb (congrArg PV.bool (by rw [Bool.eq_iff_iff, e]; simp [mayA])) (by simp)
  · simp (disch := omega) only [↓reduceIte, go_sem, hl, t16, adrV, adrC, h0, h4] <;> repeat with_reducible refine And.intro (by first | omega | decide) ?_
    exact fin_drop (.inr rfl) hb (congrArg PV.bool (by rw [Bool.eq_iff_iff]; simp [mayA, h0, h4])) (by simp)
/-- The bytes from one on are 0. -/
def zeroFrom (n : Nat) (l : List Nat) : Bool := (l.drop n).all (· == 0)
theorem drop_step {l : List Nat} {k : Nat} (h : k < l.length) : zeroFrom k l = (l.getD k 0 == 0 && zeroFrom (k + 1) l) := by
  unfold zeroFrom
  rw [List.drop_eq_getElem_cons h]
  rw [List.all_cons, List.getD_eq_getElem?_getD, List.getElem?_eq_getElem h]; rfl
theorem may_zero {f : Int} {l : List Nat} (hl : l.length = 16) : mayA f l = (zeroFrom (if f = 0 then 0 else if f = 4 then 4 else 16) l && (decide (f = 0) || decide (f = 4) || decide (f = 6))) := by
  obtain ⟨a0, a1, a2, a3, a4, a5, a6, a7, a8, a9, b0, b1, b2, b3, b4, b5, rfl⟩ := len16 hl
  by_cases h0 : f = 0
  · rw [Bool.eq_iff_iff]; simp [mayA, h0, zeroFrom, z16]
  by_cases h4 : f = 4
  · rw [Bool.eq_iff_iff]; simp [mayA, h4, zeroFrom, z12]
  · simp [mayA, h0, h4, zeroFrom]
theorem c_abatisref04_May (f : Int) (l : List Nat) (hl : l.length = 16) (hle : ∀ b ∈ l, b ≤ 255) : PCall Try.prog 87 [adrV f l] (.bool (mayA f l)) := by
  intro H
  rw [may_zero hl]
  obtain ⟨n, hn⟩ : ∃ n, n = (if f = 0 then 0 else if f = 4 then 4 else 16) := ⟨_, rfl⟩
  have hn16 : n ≤ 16 := by rw [hn]; split <;> (try split) <;> omega
  rw [← hn]
  refine scall_of (ord := fun _ => []) (rs := [2]) Try.func87 rfl (by kernel_rfl) (by kernel_rfl) (by kernel_rfl) Try.ntmps87 fun hb hargs => go 200 (fun _ => false) mixed ?_
  by_cases h0 : f = 0
  · subst h0
    have hn0 : n = 0 := by rw [hn, if_pos rfl]
    simp (disch := omega) only [↓reduceIte, go_sem, hl, adrV, adrC, adrV] <;> repeat with_reducible refine And.intro (by first | omega | decide) ?_
    refine runs_loopA (fun k : Nat => k ≤ 16 ∧ zeroFrom n l = zeroFrom k l) (fun k => 16 - k) [false, true, true, true, true]
      (fun k => slots 34 [.any, .ptr H.length 0 0, .bool false, .int .i64 0, .int .i64 k])
      (fun k => H ++ [some (.cells 0 (.int .i64 0 :: u8s l))]) (by rfl) 0 ⟨by omega, by rw [hn0]⟩ rfl rfl ?_
    rintro k ⟨hk, hz⟩
    refine go 200 (fun _ => false) mixed ?_
    by_cases hlt : k < 16
    · have g := u8s_get (ns := l) (k := k) (by omega)
      have gl := mem_get8 hle k
      rw [drop_step (k := k) (by omega)] at hz
      by_cases hb0 : l.getD k 0 = 0
      · rw [hb0] at g hz
        simp (disch := omega) only [↓reduceIte, go_sem, hlt, hl, g] <;> repeat with_reducible refine And.intro (by first | omega | decide) ?_
        exact rnd_next (k + 1) ⟨by omega, by simpa using hz⟩ (by show 16 - (k + 1) < 16 - k; omega) rfl rfl
      · have hzf : zeroFrom n l = false := by rw [hz, beq_eq_false_iff_ne.mpr hb0]; rfl
        simp (disch := omega) only [↓reduceIte, go_sem, hlt, hl, g, hb0] <;> repeat with_reducible refine And.intro (by first | omega | decide) ?_
        exact fin_drop (.inr rfl) hb (by rw [hzf]; rfl) (by simp)
    · have hk16 : k = 16 := by omega
      subst hk16
      have hzt : zeroFrom n l = true := by rw [hz]; simp [zeroFrom, List.drop_eq_nil_of_le (show l.length ≤ 16 by omega)]
      simp (disch := omega) only [↓reduceIte, go_sem, hlt] <;> repeat with_reducible refine And.intro (by first | omega | decide) ?_
      refine go 200 (fun _ => false) mixed ?_
      simp (disch := omega) only [↓reduceIte, go_sem, hl, adrV] <;> repeat with_reducible refine And.intro (by first | omega | decide) ?_
      exact fin_drop (.inr rfl) hb (by rw [hzt]; rfl) (by simp)
  by_cases h4 : f = 4
  · subst h4
    have hn0 : n = 4 := by rw [hn]; rfl
    simp (disch := omega) only [↓reduceIte, go_sem, hl, adrV, adrC, adrV] <;> repeat with_reducible refine And.intro (by first | omega | decide) ?_
    refine runs_loopA (fun k : Nat => k ≤ 16 ∧ zeroFrom n l = zeroFrom k l) (fun k => 16 - k) [false, true, true, true, true]
      (fun k => slots 34 [.any, .ptr H.length 0 0, .bool false, .int .i64 4, .int .i64 k])
      (fun k => H ++ [some (.cells 0 (.int .i64 4 :: u8s l))]) (by rfl) 4 ⟨by omega, by rw [hn0]⟩ rfl rfl ?_
    rintro k ⟨hk, hz⟩
    refine go 200 (fun _ => false) mixed ?_
    by_cases hlt : k < 16
    · have g := u8s_get (ns := l) (k := k) (by omega)
      have gl := mem_get8 hle k
      rw [drop_step (k := k) (by omega)] at hz
      by_cases hb0 : l.getD k 0 = 0
      · rw [hb0] at g hz
        simp (disch := omega) only [↓reduceIte, go_sem, hlt, hl, g] <;> repeat with_reducible refine And.intro (by first | omega | decide) ?_
        exact rnd_next (k + 1) ⟨by omega, by simpa using hz⟩ (by show 16 - (k + 1) < 16 - k; omega) rfl rfl
      · have hzf : zeroFrom n l = false := by rw [hz, beq_eq_false_iff_ne.mpr hb0]; rfl
        simp (disch := omega) only [↓reduceIte, go_sem, hlt, hl, g, hb0] <;> repeat with_reducible refine And.intro (by first | omega | decide) ?_
        exact fin_drop (.inr rfl) hb (by rw [hzf]; rfl) (by simp)
    · have hk16 : k = 16 := by omega
      subst hk16
      have hzt : zeroFrom n l = true := by rw [hz]; simp [zeroFrom, List.drop_eq_nil_of_le (show l.length ≤ 16 by omega)]
      simp (disch := omega) only [↓reduceIte, go_sem, hlt] <;> repeat with_reducible refine And.intro (by first | omega | decide) ?_
      refine go 200 (fun _ => false) mixed ?_
      simp (disch := omega) only [↓reduceIte, go_sem, hl, adrV] <;> repeat with_reducible refine And.intro (by first | omega | decide) ?_
      exact fin_drop (.inr rfl) hb (by rw [hzt]; rfl) (by simp)
  · have hn0 : n = 16 := by rw [hn, if_neg h0, if_neg h4]
    simp (disch := omega) only [↓reduceIte, go_sem, hl, adrV, adrC, h0, h4] <;> repeat with_reducible refine And.intro (by first | omega | decide) ?_
    refine runs_loopA (fun k : Nat => k ≤ 16 ∧ zeroFrom n l = zeroFrom k l) (fun k => 16 - k) [false, true, true, true, true]
      (fun k => slots 34 [.any, .ptr H.length 0 0, .bool false, .int .i64 16, .int .i64 k])
      (fun k => H ++ [some (.cells 0 (.int .i64 f :: u8s l))]) (by rfl) 16 ⟨by omega, by rw [hn0]⟩ rfl rfl ?_
    rintro k ⟨hk, hz⟩
    refine go 200 (fun _ => false) mixed ?_
    by_cases hlt : k < 16
    · have g := u8s_get (ns := l) (k := k) (by omega)
      have gl := mem_get8 hle k
      rw [drop_step (k := k) (by omega)] at hz
      by_cases hb0 : l.getD k 0 = 0
      · rw [hb0] at g hz
        simp (disch := omega) only [↓reduceIte, go_sem, hlt, hl, g] <;> repeat with_reducible refine And.intro (by first | omega | decide) ?_
        exact rnd_next (k + 1) ⟨by omega, by simpa using hz⟩ (by show 16 - (k + 1) < 16 - k; omega) rfl rfl
      · have hzf : zeroFrom n l = false := by rw [hz, beq_eq_false_iff_ne.mpr hb0]; rfl
        simp (disch := omega) only [↓reduceIte, go_sem, hlt, hl, g, hb0] <;> repeat with_reducible refine And.intro (by first | omega | decide) ?_
        exact fin_drop (.inr rfl) hb (by rw [hzf]; rfl) (by simp)
    · have hk16 : k = 16 := by omega
      subst hk16
      have hzt : zeroFrom n l = true := by rw [hz]; simp [zeroFrom, List.drop_eq_nil_of_le (show l.length ≤ 16 by omega)]
      simp (disch := omega) only [↓reduceIte, go_sem, hlt] <;> repeat with_reducible refine And.intro (by first | omega | decide) ?_
      refine go 200 (fun _ => false) mixed ?_
      simp (disch := omega) only [↓reduceIte, go_sem, hl, h0, h4] <;> repeat with_reducible refine And.intro (by first | omega | decide) ?_
      exact fin_drop (.inr rfl) hb (by rw [hzt]; simp only [h0, h4, decide_false, Bool.false_or, Bool.true_and]; rfl) (by simp)
def pre12 : List Nat := [0, 0, 0, 0, 0, 0, 0, 0, 0, 0, 255, 255]
/-- An address, mapped. -/
def mapA (f : Int) (l : List Nat) : PV := if f = 4 then adrV 6 (pre12 ++ l.take 4) else adrV f l
theorem c_abatisref04_Map (f : Int) (l : List Nat) (hl : l.length = 16) (hle : ∀ b ∈ l, b ≤ 255) : PCall Try.prog 86 [adrV f l] (mapA f l) := by
  intro H
  have t16 := u8s_take16 hl
  unfold mapA
  refine scall_ofc (ord := fun _ => []) (tdOf_ok _) (rs := [.cell 2 30]) Try.func86 rfl (by kernel_rfl) (by kernel_rfl) (by kernel_rfl) Try.ntmps86 fun hb hargs => go 200 (fun _ => false) mixed ?_
  by_cases h4 : f = 4
  · subst h4
    have hf := fourL_le hle
    have e : bytes6 [0, 0, 0, 0, 0, 65535, fourL l / 65536, fourL l % 65536] = pre12 ++ l.take 4 := by
      have h0 := mem_get8 hle 0; have h1 := mem_get8 hle 1; have h2 := mem_get8 hle 2; have h3 := mem_get8 hle 3
      have ht : l.take 4 = [l.getD 0 0, l.getD 1 0, l.getD 2 0, l.getD 3 0] := by
        obtain ⟨a0, a1, a2, a3, a4, a5, a6, a7, a8, a9, b0, b1, b2, b3, b4, b5, rfl⟩ := len16 hl
        rfl
      rw [ht]
      unfold fourL of4
      generalize l.getD 0 0 = a at *; generalize l.getD 1 0 = b at *; generalize l.getD 2 0 = c at *; generalize l.getD 3 0 = d at *
      simp only [bytes6, pre12, List.cons_append, List.nil_append, List.cons.injEq, and_true, true_and]
      omega
    simp (disch := omega) only [↓reduceIte, go_sem, hl, t16, adrV, adrC] <;> repeat with_reducible refine And.intro (by first | omega | decide) ?_
    refine (c_abatisref04_Four 4 l hl hle).on (go 200 (fun _ => false) mixed ?_)
    simp (disch := omega) only [↓reduceIte, go_sem] <;> repeat with_reducible refine And.intro (by first | omega | decide) ?_
    refine (c_abatisref04_Of6 [0, 0, 0, 0, 0, 65535, fourL l / 65536, fourL l % 65536] rfl (by
      intro g hg
      simp only [List.mem_cons, List.not_mem_nil, or_false] at hg
      omega)).on (go 200 (fun _ => false) mixed ?_)
    rw [e]
    have l16 : (pre12 ++ l.take 4).length = 16 := by rw [List.length_append, List.length_take]; simp only [pre12, List.length_cons, List.length_nil]; omega
    have t16' := u8s_take16 l16
    simp (disch := omega) only [↓reduceIte, go_sem, adrV, adrC, l16, t16'] <;> repeat with_reducible refine And.intro (by first | omega | decide) ?_
    exact fin_c (.inr rfl) hb (by simp only [go_sem, l16, t16'] <;> rfl) bdd_adr
  · simp (disch := omega) only [↓reduceIte, go_sem, hl, t16, adrV, adrC, h4] <;> repeat with_reducible refine And.intro (by first | omega | decide) ?_
    exact fin_c (.inr rfl) hb (by simp only [go_sem, hl, t16] <;> rfl) bdd_adr
end Go.Proofs.GoC
