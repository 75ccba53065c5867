/-
  What the functions compute: addresses of both families. No claim by itself.
-/
import Derived.Test.YtipbijklplfkhaaGreatDoorGoM5
import Derived.Lib.Bytealg
import Derived.Laws.Externs
import Derived.Lib.BytesEntry
import Derived.Lib.Walk
namespace Go.Proofs.GoC
open Go Go.Proofs.SL
set_option linter.unusedSimpArgs false
set_option linter.unusedVariables false
set_option maxRecDepth 10000
set_option maxHeartbeats 2000000

attribute [go_sem] Option.isSome_some Option.isSome_none

/-- An address: its family, its bytes. -/
def adrC (f : Int) (l : List Nat) : List PV := .int .i64 f :: u8s l
def adrV (f : Int) (l : List Nat) : PV := .agg (adrC f l)

theorem len16 {α : Type} {l : List α} (h : l.length = 16) : ∃ a0 a1 a2 a3 a4 a5 a6 a7 a8 a9 b0 b1 b2 b3 b4 b5, l = [a0, a1, a2, a3, a4, a5, a6, a7, a8, a9, b0, b1, b2, b3, b4, b5] := by
  match l, h with
  | [a0, a1, a2, a3, a4, a5, a6, a7, a8, a9, b0, b1, b2, b3, b4, b5], _ => exact ⟨_, _, _, _, _, _, _, _, _, _, _, _, _, _, _, _, rfl⟩

@[go_sem] theorem getD_1a {x d : PV} {l : List PV} {k : Nat} : (x :: l).getD (1 + k) d = l.getD k d := by rw [Nat.add_comm]; rfl
@[go_sem] theorem set_1a {x v : PV} {l : List PV} {k : Nat} : (x :: l).set (1 + k) v = x :: l.set k v := by rw [Nat.add_comm]; rfl

theorem u8s_inj {a b : List Nat} : u8s a = u8s b ↔ a = b := by
  constructor
  · intro h
    have : ∀ c d : List Nat, u8s c = u8s d → c = d := by
      intro c
      induction c with
      | nil => intro d hd; cases d with
        | nil => rfl
        | cons y d => simp [u8s] at hd
      | cons x c ih => intro d hd; cases d with
        | nil => simp [u8s] at hd
        | cons y d =>
          simp only [u8s, List.map_cons, List.cons.injEq, PV.int.injEq, true_and] at hd
          have h1 : x = y := Int.ofNat_inj.mp hd.1
          rw [h1, ih d hd.2]
    exact this a b h
  · intro h; rw [h]
theorem adr_inj {f g : Int} {a b : List Nat} : adrC f a = adrC g b ↔ f = g ∧ a = b := by
  simp only [adrC, List.cons.injEq, PV.int.injEq, true_and, u8s_inj]
theorem adr_tag {f : Int} {l : List Nat} (hl : l.length = 16) : List.map tagP (adrC f l) = some (Tag.i .i64) :: List.replicate 16 (some (Tag.i .u8)) := by
  simp only [adrC, List.map_cons, u8s_tag hl, tagP]
theorem bdd_adr {n : Nat} {f : Int} {l : List Nat} : Bdd n (adrV f l) := .agg _ fun p hp => by
  rcases List.mem_cons.mp hp with rfl | hp
  · exact .int _ _
  · obtain ⟨x, _, rfl⟩ := List.mem_map.mp hp
    exact .int _ _

def z12 : List Nat := [0, 0, 0, 0, 0, 0, 0, 0, 0, 0, 0, 0]
def z16 : List Nat := [0, 0, 0, 0, 0, 0, 0, 0, 0, 0, 0, 0, 0, 0, 0, 0]
/-- The bytes of a number's address. -/
def of4L (n : Nat) : List Nat := [by3 n, by2 n, by1 n, by0 n] ++ z12
def fourL (l : List Nat) : Nat := of4 (l.getD 0 0) (l.getD 1 0) (l.getD 2 0) (l.getD 3 0)

theorem of4L_len (n : Nat) : (of4L n).length = 16 := rfl
theorem of4L_le (n : Nat) (h : n ≤ 4294967295) : ∀ b ∈ of4L n, b ≤ 255 := by
  obtain ⟨h3, h2, h1, h0⟩ := by_in n h
  intro b hb
  simp only [of4L, z12, List.cons_append, List.nil_append, List.mem_cons, List.not_mem_nil, or_false] at hb
  omega
theorem fourL_le {l : List Nat} (hle : ∀ b ∈ l, b ≤ 255) : fourL l ≤ 4294967295 := by
  have := mem_get8 hle 0; have := mem_get8 hle 1; have := mem_get8 hle 2; have := mem_get8 hle 3
  unfold fourL of4; omega
theorem four_of4 (n : Nat) (h : n ≤ 4294967295) : fourL (of4L n) = n := by
  have := by_of n h
  simpa [fourL, of4L, z12] using this
theorem of4_four {l : List Nat} (hl : l.length = 16) (hle : ∀ b ∈ l, b ≤ 255) : of4L (fourL l) = l.take 4 ++ z12 := by
  have h0 := mem_get8 hle 0; have h1 := mem_get8 hle 1; have h2 := mem_get8 hle 2; have h3 := mem_get8 hle 3
  obtain ⟨e3, e2, e1, e0⟩ := of_by _ _ _ _ h0 h1 h2 h3
  obtain ⟨a0, a1, a2, a3, a4, a5, a6, a7, a8, a9, b0, b1, b2, b3, b4, b5, rfl⟩ := len16 hl
  unfold of4L fourL
  rw [e3, e2, e1, e0]
  rfl

def ordOf4 : Nat → List Nat
  | 3 => [0, 1, 2, 3]
  | _ => []
theorem ordOf4_3 : ordOf4 3 = [0, 1, 2, 3] := rfl

theorem c_addr_Of4 (n : Nat) (h : n ≤ 4294967295) : PCall Tryz.prog 30 [.int .u32 n] (adrV 4 (of4L n)) := by
  intro H
  refine scall_ofc (ord := ordOf4) (tdOf_ok _) (rs := [.cell 2 24]) Tryz.func30 rfl (by kernel_rfl) (by kernel_rfl) (by kernel_rfl) Tryz.ntmps30 fun hb hargs => go 200 (fun t => t == 99) mixed ?_
  simp (disch := omega) only [↓reduceIte, go_sem] <;> repeat with_reducible refine And.intro (by first | omega | decide) ?_
  refine (c_four_Bytes n h).on (go 200 (fun _ => false) mixed ?_)
  unfold bytesV
  simp (disch := omega) only [↓reduceIte, go_sem, ordOf4_3] <;> repeat with_reducible refine And.intro (by first | omega | decide) ?_
  exact fin_c (.inr rfl) hb (by simp only [go_sem] <;> rfl) bdd_adr

theorem c_abatisref04_Of4 (n : Nat) (h : n ≤ 4294967295) : PCall Tryz.prog 27 [.int .u32 n] (adrV 4 (of4L n)) := by
  intro H
  have d1 : n / 256 / 256 = n / 65536 := by omega
  have d2 : n / 65536 / 256 = n / 16777216 := by omega
  have b3 : n / 16777216 % 256 = by3 n := by unfold by3; omega
  have b2 : n / 65536 % 256 = by2 n := rfl
  have b1 : n / 256 % 256 = by1 n := rfl
  have b0 : n % 256 = by0 n := rfl
  refine scall_ofc (ord := fun _ => []) (tdOf_ok _) (rs := [.cell 2 24]) Tryz.func27 rfl (by kernel_rfl) (by kernel_rfl) (by kernel_rfl) Tryz.ntmps27 fun hb hargs => go 200 (fun _ => false) mixed ?_
  simp (disch := omega) only [↓reduceIte, go_sem] <;> repeat with_reducible refine And.intro (by first | omega | decide) ?_
  refine runs_rounds 5 (by rfl) (ru_go [true, false, true, true, true] (go 200 (fun _ => false) mixed ?_))
  simp (disch := omega) only [↓reduceIte, go_sem, b0] <;> repeat with_reducible refine And.intro (by first | omega | decide) ?_
  refine ru_go [true, false, true, true, true] (go 200 (fun _ => false) mixed ?_)
  simp (disch := omega) only [↓reduceIte, go_sem, b1, d1] <;> repeat with_reducible refine And.intro (by first | omega | decide) ?_
  refine ru_go [true, false, true, true, true] (go 200 (fun _ => false) mixed ?_)
  simp (disch := omega) only [↓reduceIte, go_sem, b2, d2] <;> repeat with_reducible refine And.intro (by first | omega | decide) ?_
  refine ru_go [true, false, true, true, true] (go 200 (fun _ => false) mixed ?_)
  simp (disch := omega) only [↓reduceIte, go_sem, b3] <;> repeat with_reducible refine And.intro (by first | omega | decide) ?_
  refine ru_go [true, false, true, true, true] (go 200 (fun _ => false) mixed ?_)
  simp (disch := omega) only [↓reduceIte, go_sem] <;> repeat with_reducible refine And.intro (by first | omega | decide) ?_
  refine go 200 (fun _ => false) mixed ?_
  simp (disch := omega) only [↓reduceIte, go_sem] <;> repeat with_reducible refine And.intro (by first | omega | decide) ?_
  exact fin_c (.inr rfl) hb (by simp only [go_sem] <;> rfl) bdd_adr

theorem c_addr_Of6 (gs : List Nat) (hl : gs.length = 8) (hle : ∀ g ∈ gs, g ≤ 65535) : PCall Tryz.prog 32 [.agg (u16s gs)] (adrV 6 (bytes6 gs)) := by
  intro H
  have t8 : List.take 8 (u16s gs) = u16s gs := List.take_of_length_le (by rw [u16s_len]; omega)
  have b16 : (bytes6 gs).length = 16 := by rw [bytes6_len]; omega
  have t6 : List.take 16 (u8s (bytes6 gs)) = u8s (bytes6 gs) := List.take_of_length_le (by rw [u8s_len]; omega)
  refine scall_ofc (ord := fun _ => []) (tdOf_ok _) (rs := [.cell 2 24]) Tryz.func32 rfl (by kernel_rfl) (by kernel_rfl) (by kernel_rfl) Tryz.ntmps32 fun hb hargs => go 200 (fun _ => false) mixed ?_
  simp (disch := omega) only [↓reduceIte, go_sem, hl, t8] <;> repeat with_reducible refine And.intro (by first | omega | decide) ?_
  refine (c_six_Bytes gs hl hle).on (go 200 (fun _ => false) mixed ?_)
  simp (disch := omega) only [↓reduceIte, go_sem, b16, t6] <;> repeat with_reducible refine And.intro (by first | omega | decide) ?_
  exact fin_c (.inr rfl) hb (by simp only [go_sem, b16, t6] <;> rfl) bdd_adr

theorem c_abatisref04_Of6 (gs : List Nat) (hl : gs.length = 8) (hle : ∀ g ∈ gs, g ≤ 65535) : PCall Tryz.prog 39 [.agg (u16s gs)] (adrV 6 (bytes6 gs)) := by
  intro H
  refine scall_ofc (ord := fun _ => []) (tdOf_ok _) (rs := [.cell 2 24]) Tryz.func39 rfl (by kernel_rfl) (by kernel_rfl) (by kernel_rfl) Tryz.ntmps39 fun hb hargs => go 200 (fun _ => false) mixed ?_
  simp (disch := omega) only [↓reduceIte, go_sem, hl] <;> repeat with_reducible refine And.intro (by first | omega | decide) ?_
  refine runs_loopA (fun k : Nat => k ≤ 8) (fun k => 8 - k)
    [false, true, true, true, true]
    (fun k => slots 30 [.any, .ptr H.length 0 0, .ptr (H.length + 1) 0 0, .ptr (H.length + 2) 0 0, .int .i64 k])
    (fun k => H ++ [some (.cells 0 (u16s gs)), some (.cells 0 (adrC 0 z16)), some (.cells 0 (.int .i64 6 :: (u8s (bytes6 (gs.take k)) ++ List.replicate (16 - 2 * k) (PV.int .u8 0))))]) (by rfl) 0 (Nat.zero_le _) rfl rfl ?_
  intro k hk
  refine go 200 (fun _ => false) mixed ?_
  by_cases hlt : k < 8
  · have g := u16s_get (ns := gs) (k := k) (by omega)
    have gl := mem_get hle k
    have hlen : (u8s (bytes6 (gs.take k))).length = 2 * k := by rw [u8s_len, bytes6_len, List.length_take]; omega
    have f1 := fill_set (z := PV.int .u8 0) (v := PV.int .u8 ((gs.getD k 0 / 256 : Nat) : Int)) (n := 16) hlen (by omega)
    have f2 := fill_set (ps := u8s (bytes6 (gs.take k)) ++ [PV.int .u8 ((gs.getD k 0 / 256 : Nat) : Int)]) (z := PV.int .u8 0) (v := PV.int .u8 ((gs.getD k 0 % 256 : Nat) : Int)) (k := 2 * k + 1) (n := 16) (by rw [List.length_append, hlen]; rfl) (by omega)
    have b1 : (u8s (bytes6 (gs.take k)) ++ List.replicate (16 - 2 * k) (PV.int .u8 0)).length = 16 := by rw [List.length_append, hlen, List.length_replicate]; omega
    have b2 : (u8s (bytes6 (gs.take k)) ++ [PV.int IntKind.u8 ((gs.getD k 0 / 256 : Nat) : Int)] ++ List.replicate (16 - (2 * k + 1)) (PV.int IntKind.u8 0)).length = 16 := by rw [List.length_append, List.length_append, hlen, List.length_replicate]; simp only [List.length_singleton]; omega
    have hnext : u8s (bytes6 (gs.take k)) ++ [PV.int .u8 ((gs.getD k 0 / 256 : Nat) : Int)] ++ [PV.int .u8 ((gs.getD k 0 % 256 : Nat) : Int)] ++ List.replicate (16 - (2 * k + 1 + 1)) (PV.int .u8 0) = u8s (bytes6 (gs.take (k + 1))) ++ List.replicate (16 - 2 * (k + 1)) (PV.int .u8 0) := by
      rw [take_snoc (d := 0) (show k < gs.length by omega), bytes6_app, show 2 * k + 1 + 1 = 2 * (k + 1) by omega]
      simp [bytes6, u8s]
    simp (disch := omega) only [↓reduceIte, go_sem, hlt, hl, g, b1, b2, f1, f2] <;> repeat with_reducible refine And.intro (by first | omega | decide) ?_
    refine rnd_next (k + 1) (by omega) (by show 8 - (k + 1) < 8 - k; omega) rfl ?_
    rw [hnext]
  · simp (disch := omega) only [↓reduceIte, go_sem, hlt] <;> repeat with_reducible refine And.intro (by first | omega | decide) ?_
    have hk8 : k = 8 := by omega
    subst hk8
    have b16 : (bytes6 gs).length = 16 := by rw [bytes6_len]; omega
    have t6 : List.take 16 (u8s (bytes6 gs)) = u8s (bytes6 gs) := List.take_of_length_le (by rw [u8s_len]; omega)
    have tg : List.take 8 gs = gs := List.take_of_length_le (by omega)
    refine go 200 (fun _ => false) mixed ?_
    have dz : List.drop 16 (u8s z16) = [] := rfl
    simp (disch := omega) only [↓reduceIte, go_sem, tg, b16, t6, adrC, u8s_one, dz] <;> repeat with_reducible refine And.intro (by first | omega | decide) ?_
    exact fin_c (.inr rfl) hb (by simp only [go_sem, b16, t6, dz] <;> rfl) bdd_adr

theorem c_addr_Four (f : Int) (l : List Nat) (hl : l.length = 16) (hle : ∀ b ∈ l, b ≤ 255) : PCall Tryz.prog 46 [adrV f l] (.int .u32 (fourL l : Nat)) := by
  intro H
  have h0 := mem_get8 hle 0; have h1 := mem_get8 hle 1; have h2 := mem_get8 hle 2; have h3 := mem_get8 hle 3
  unfold fourL
  obtain ⟨a0, a1, a2, a3, a4, a5, a6, a7, a8, a9, b0, b1, b2, b3, b4, b5, rfl⟩ := len16 hl
  refine scall_of (ord := fun _ => []) (rs := [2]) Tryz.func46 rfl (by kernel_rfl) (by kernel_rfl) (by kernel_rfl) Tryz.ntmps46 fun hb hargs => go 200 (fun _ => false) mixed ?_
  simp (disch := omega) only [↓reduceIte, go_sem, adrV, adrC, u8s] <;> repeat with_reducible refine And.intro (by first | omega | decide) ?_
  refine (c_four_Of a0 a1 a2 a3 h0 h1 h2 h3).on (go 200 (fun _ => false) mixed ?_)
  simp (disch := omega) only [↓reduceIte, go_sem] <;> repeat with_reducible refine And.intro (by first | omega | decide) ?_
  exact fin_drop (.inr rfl) hb rfl (by simp)

theorem c_abatisref04_Four (f : Int) (l : List Nat) (hl : l.length = 16) (hle : ∀ b ∈ l, b ≤ 255) : PCall Tryz.prog 43 [adrV f l] (.int .u32 (fourL l : Nat)) := by
  intro H
  have h0 := mem_get8 hle 0; have h1 := mem_get8 hle 1; have h2 := mem_get8 hle 2; have h3 := mem_get8 hle 3
  unfold fourL
  obtain ⟨a0, a1, a2, a3, a4, a5, a6, a7, a8, a9, b0, b1, b2, b3, b4, b5, rfl⟩ := len16 hl
  simp only [List.getD_cons_zero, List.getD_cons_succ] at h0 h1 h2 h3 ⊢
  refine scall_of (ord := fun _ => []) (rs := [2]) Tryz.func43 rfl (by kernel_rfl) (by kernel_rfl) (by kernel_rfl) Tryz.ntmps43 fun hb hargs => go 200 (fun _ => false) mixed ?_
  simp (disch := omega) only [↓reduceIte, go_sem, adrV, adrC, u8s] <;> repeat with_reducible refine And.intro (by first | omega | decide) ?_
  refine runs_rounds 5 (by rfl) (ru_go [false, true, true, true, true] (go 200 (fun _ => false) mixed ?_))
  simp (disch := omega) only [↓reduceIte, go_sem] <;> repeat with_reducible refine And.intro (by first | omega | decide) ?_
  refine ru_go [false, true, true, true, true] (go 200 (fun _ => false) mixed ?_)
  simp (disch := omega) only [↓reduceIte, go_sem] <;> repeat with_reducible refine And.intro (by first | omega | decide) ?_
  refine ru_go [false, true, true, true, true] (go 200 (fun _ => false) mixed ?_)
  simp (disch := omega) only [↓reduceIte, go_sem] <;> repeat with_reducible refine And.intro (by first | omega | decide) ?_
  refine ru_go [false, true, true, true, true] (go 200 (fun _ => false) mixed ?_)
  simp (disch := omega) only [↓reduceIte, go_sem] <;> repeat with_reducible refine And.intro (by first | omega | decide) ?_
  refine ru_go [false, true, true, true, true] (go 200 (fun _ => false) mixed ?_)
  simp (disch := omega) only [↓reduceIte, go_sem] <;> repeat with_reducible refine And.intro (by first | omega | decide) ?_
  refine go 200 (fun _ => false) mixed ?_
  simp (disch := omega) only [↓reduceIte, go_sem] <;> repeat with_reducible refine And.intro (by first | omega | decide) ?_
  exact fin_drop (.inr rfl) hb (by simp [retV, of4]) (by simp)

theorem c_abatisref04_Good (f : Int) (h1 : -9223372036854775808 ≤ f) (h2 : f ≤ 9223372036854775807) (l : List Nat) (hl : l.length = 16) (hle : ∀ b ∈ l, b ≤ 255) :
    PCall Tryz.prog 19 [adrV f l] (if f.tmod 2 = 0 then adrV 4 (l.take 4 ++ z12) else adrV 6 l) := by
  intro H
  have t16 : List.take 16 (u8s l) = u8s l := List.take_of_length_le (by rw [u8s_len]; omega)
  have e := of4_four hl hle
  refine scall_ofc (ord := fun _ => []) (tdOf_ok _) (rs := [.cell 2 24]) Tryz.func19 rfl (by kernel_rfl) (by kernel_rfl) (by kernel_rfl) Tryz.ntmps19 fun hb hargs => go 200 (fun _ => false) mixed ?_
  by_cases h0 : f.tmod 2 = 0
  · simp (disch := omega) only [↓reduceIte, go_sem, h0, hl, t16, adrV, adrC] <;> repeat with_reducible refine And.intro (by first | omega | decide) ?_
    refine (c_abatisref04_Four f l hl hle).on (go 200 (fun _ => false) mixed ?_)
    simp (disch := omega) only [↓reduceIte, go_sem] <;> repeat with_reducible refine And.intro (by first | omega | decide) ?_
    refine (c_abatisref04_Of4 _ (fourL_le hle)).on (go 200 (fun _ => false) mixed ?_)
    rw [e]
    have l16 : (l.take 4 ++ z12).length = 16 := by rw [List.length_append, List.length_take]; simp only [z12, List.length_cons, List.length_nil]; omega
    have t16' : List.take 16 (u8s (l.take 4 ++ z12)) = u8s (l.take 4 ++ z12) := List.take_of_length_le (by rw [u8s_len]; omega)
    simp (disch := omega) only [↓reduceIte, go_sem, adrV, adrC, l16, t16'] <;> repeat with_reducible refine And.intro (by first | omega | decide) ?_
    exact fin_c (.inr rfl) hb (by simp only [go_sem, l16, t16'] <;> rfl) bdd_adr
  · simp (disch := omega) only [↓reduceIte, go_sem, h0, hl, t16, adrV, adrC] <;> repeat with_reducible refine And.intro (by first | omega | decide) ?_
    exact fin_c (.inr rfl) hb (by simp only [go_sem, hl, t16] <;> rfl) bdd_adr

/-- Whether an address may be. -/
def mayA (f : Int) (l : List Nat) : Bool := if f = 0 then decide (l = z16) else if f = 4 then decide (l = l.take 4 ++ z12) else decide (f = 6)

theorem adr_lit {f : Int} {l : List Nat} : (adrC f l = [PV.int IntKind.i64 0, PV.int IntKind.u8 0, PV.int IntKind.u8 0, PV.int IntKind.u8 0, PV.int IntKind.u8 0, PV.int IntKind.u8 0, PV.int IntKind.u8 0, PV.int IntKind.u8 0, PV.int IntKind.u8 0, PV.int IntKind.u8 0, PV.int IntKind.u8 0, PV.int IntKind.u8 0, PV.int IntKind.u8 0, PV.int IntKind.u8 0, PV.int IntKind.u8 0, PV.int IntKind.u8 0, PV.int IntKind.u8 0]) ↔ f = 0 ∧ l = z16 := by
  rw [show [PV.int IntKind.i64 0, PV.int IntKind.u8 0, PV.int IntKind.u8 0, PV.int IntKind.u8 0, PV.int IntKind.u8 0, PV.int IntKind.u8 0, PV.int IntKind.u8 0, PV.int IntKind.u8 0, PV.int IntKind.u8 0, PV.int IntKind.u8 0, PV.int IntKind.u8 0, PV.int IntKind.u8 0, PV.int IntKind.u8 0, PV.int IntKind.u8 0, PV.int IntKind.u8 0, PV.int IntKind.u8 0, PV.int IntKind.u8 0] = adrC 0 z16 from rfl, adr_inj]

@[go_sem] theorem adr_eq0 {f : Int} {l : List Nat} : (PV.int .i64 f :: u8s l = [PV.int IntKind.i64 0, PV.int IntKind.u8 0, PV.int IntKind.u8 0, PV.int IntKind.u8 0, PV.int IntKind.u8 0, PV.int IntKind.u8 0, PV.int IntKind.u8 0, PV.int IntKind.u8 0, PV.int IntKind.u8 0, PV.int IntKind.u8 0, PV.int IntKind.u8 0, PV.int IntKind.u8 0, PV.int IntKind.u8 0, PV.int IntKind.u8 0, PV.int IntKind.u8 0, PV.int IntKind.u8 0, PV.int IntKind.u8 0]) ↔ f = 0 ∧ l = z16 := adr_lit
@[go_sem] theorem adr_eq {f g : Int} {a b : List Nat} : (PV.int .i64 f :: u8s a = PV.int .i64 g :: u8s b) ↔ f = g ∧ a = b := adr_inj
theorem u8s_tag16 {l : List Nat} (hl : l.length = 16) : List.map tagP (u8s l) = [some (Tag.i .u8), some (Tag.i .u8), some (Tag.i .u8), some (Tag.i .u8), some (Tag.i .u8), some (Tag.i .u8), some (Tag.i .u8), some (Tag.i .u8), some (Tag.i .u8), some (Tag.i .u8), some (Tag.i .u8), some (Tag.i .u8), some (Tag.i .u8), some (Tag.i .u8), some (Tag.i .u8), some (Tag.i .u8)] := u8s_tag hl
theorem u8s_take16 {l : List Nat} (hl : l.length = 16) : List.take 16 (u8s l) = u8s l := List.take_of_length_le (by rw [u8s_len]; omega)

theorem c_addr_May (f : Int) (l : List Nat) (hl : l.length = 16) (hle : ∀ b ∈ l, b ≤ 255) : PCall Tryz.prog 35 [adrV f l] (.bool (mayA f l)) := by
  intro H
  have t16 := u8s_take16 hl
  have tu := u8s_tag16 hl
  have tu4 := u8s_tag16 (of4L_len (fourL l))
  have e := of4_four hl hle
  refine scall_of (ord := fun _ => []) (rs := [2]) Tryz.func35 rfl (by kernel_rfl) (by kernel_rfl) (by kernel_rfl) Tryz.ntmps35 fun hb hargs => go 200 (fun _ => false) mixed ?_
  by_cases h0 : f = 0
  · subst h0
    simp (disch := omega) only [↓reduceIte, go_sem, hl, t16, adrV, adrC, tu] <;> repeat with_reducible refine And.intro (by first | omega | decide) ?_
    exact fin_drop (.inr rfl) hb (congrArg PV.bool (by rw [Bool.eq_iff_iff]; simp [mayA])) (by simp)
  by_cases h4 : f = 4
  · subst h4
    simp (disch := omega) only [↓reduceIte, go_sem, hl, t16, adrV, adrC] <;> repeat with_reducible refine And.intro (by first | omega | decide) ?_
    refine (c_addr_Four 4 l hl hle).onq (go 200 (fun _ => false) mixed ?_)
    simp (disch := omega) only [↓reduceIte, go_sem] <;> repeat with_reducible refine And.intro (by first | omega | decide) ?_
    refine (c_addr_Of4 _ (fourL_le hle)).onq (go 200 (fun _ => false) mixed ?_)
    simp (disch := omega) only [↓reduceIte, go_sem, hl, t16, adrV, adrC, tu, tu4] <;> repeat with_reducible refine And.intro (by first | omega | decide) ?_
    exact fin_drop (.inr rfl) hb (congrArg PV.bool (by rw [Bool.eq_iff_iff, e]; simp [mayA])) (by simp)
  · simp (disch := omega) only [↓reduceIte, go_sem, hl, t16, adrV, adrC, h0, h4] <;> repeat with_reducible refine And.intro (by first | omega | decide) ?_
    exact fin_drop (.inr rfl) hb (congrArg PV.bool (by rw [Bool.eq_iff_iff]; simp [mayA, h0, h4])) (by simp)

def bitsA (f : Int) : Nat := if f = 4 then 32 else if f = 6 then 128 else 0

theorem c_addr_Bits (f : Int) (l : List Nat) (hl : l.length = 16) : PCall Tryz.prog 60 [adrV f l] (.int .i64 (bitsA f : Nat)) := by
  intro H
  unfold bitsA
  refine scall_of (ord := fun _ => []) (rs := [2]) Tryz.func60 rfl (by kernel_rfl) (by kernel_rfl) (by kernel_rfl) Tryz.ntmps60 fun hb hargs => go 200 (fun _ => false) mixed ?_
  by_cases h4 : f = 4
  · simp (disch := omega) only [↓reduceIte, go_sem, hl, adrV, adrC, h4] <;> repeat with_reducible refine And.intro (by first | omega | decide) ?_
    exact fin_drop (.inr rfl) hb rfl (by simp)
  by_cases h6 : f = 6
  · simp (disch := omega) only [↓reduceIte, go_sem, hl, adrV, adrC, h4, h6] <;> repeat with_reducible refine And.intro (by first | omega | decide) ?_
    exact fin_drop (.inr rfl) hb rfl (by simp)
  · simp (disch := omega) only [↓reduceIte, go_sem, hl, adrV, adrC, h4, h6] <;> repeat with_reducible refine And.intro (by first | omega | decide) ?_
    exact fin_drop (.inr rfl) hb rfl (by simp)

theorem c_abatisref04_Bits (f : Int) (l : List Nat) (hl : l.length = 16) : PCall Tryz.prog 22 [adrV f l] (.int .i64 (bitsA f : Nat)) := by
  intro H
  unfold bitsA
  refine scall_of (ord := fun _ => []) (rs := [2]) Tryz.func22 rfl (by kernel_rfl) (by kernel_rfl) (by kernel_rfl) Tryz.ntmps22 fun hb hargs => go 200 (fun _ => false) mixed ?_
  by_cases h4 : f = 4
  · simp (disch := omega) only [↓reduceIte, go_sem, hl, adrV, adrC, h4] <;> repeat with_reducible refine And.intro (by first | omega | decide) ?_
    exact fin_drop (.inr rfl) hb rfl (by simp)
  by_cases h6 : f = 6
  · simp (disch := omega) only [↓reduceIte, go_sem, hl, adrV, adrC, h4, h6] <;> repeat with_reducible refine And.intro (by first | omega | decide) ?_
    exact fin_drop (.inr rfl) hb rfl (by simp)
  · simp (disch := omega) only [↓reduceIte, go_sem, hl, adrV, adrC, h4, h6] <;> repeat with_reducible refine And.intro (by first | omega | decide) ?_
    exact fin_drop (.inr rfl) hb rfl (by simp)

/-- The bytes from one on are 0. -/
def zeroFrom (n : Nat) (l : List Nat) : Bool := (l.drop n).all (· == 0)
theorem drop_step {l : List Nat} {k : Nat} (h : k < l.length) : zeroFrom k l = (l.getD k 0 == 0 && zeroFrom (k + 1) l) := by
  unfold zeroFrom
  rw [List.drop_eq_getElem_cons h]
  rw [List.all_cons, List.getD_eq_getElem?_getD, List.getElem?_eq_getElem h]; rfl

theorem may_zero {f : Int} {l : List Nat} (hl : l.length = 16) : mayA f l = (zeroFrom (if f = 0 then 0 else if f = 4 then 4 else 16) l && (decide (f = 0) || decide (f = 4) || decide (f = 6))) := by
  obtain ⟨a0, a1, a2, a3, a4, a5, a6, a7, a8, a9, b0, b1, b2, b3, b4, b5, rfl⟩ := len16 hl
  by_cases h0 : f = 0
  · rw [Bool.eq_iff_iff]; simp [mayA, h0, zeroFrom, z16]
  by_cases h4 : f = 4
  · rw [Bool.eq_iff_iff]; simp [mayA, h4, zeroFrom, z12]
  · simp [mayA, h0, h4, zeroFrom]

theorem c_abatisref04_May (f : Int) (l : List Nat) (hl : l.length = 16) (hle : ∀ b ∈ l, b ≤ 255) : PCall Tryz.prog 41 [adrV f l] (.bool (mayA f l)) := by
  intro H
  rw [may_zero hl]
  obtain ⟨n, hn⟩ : ∃ n, n = (if f = 0 then 0 else if f = 4 then 4 else 16) := ⟨_, rfl⟩
  have hn16 : n ≤ 16 := by rw [hn]; split <;> (try split) <;> omega
  rw [← hn]
  refine scall_of (ord := fun _ => []) (rs := [2]) Tryz.func41 rfl (by kernel_rfl) (by kernel_rfl) (by kernel_rfl) Tryz.ntmps41 fun hb hargs => go 200 (fun _ => false) mixed ?_
  by_cases h0 : f = 0
  · subst h0
    have hn0 : n = 0 := by rw [hn, if_pos rfl]
    simp (disch := omega) only [↓reduceIte, go_sem, hl, adrV, adrC, adrV] <;> repeat with_reducible refine And.intro (by first | omega | decide) ?_
    refine runs_loopA (fun k : Nat => k ≤ 16 ∧ zeroFrom n l = zeroFrom k l) (fun k => 16 - k) [false, true, true, true, true]
      (fun k => slots 34 [.any, .ptr H.length 0 0, .bool false, .int .i64 0, .int .i64 k])
      (fun k => H ++ [some (.cells 0 (.int .i64 0 :: u8s l))]) (by rfl) 0 ⟨by omega, by rw [hn0]⟩ rfl rfl ?_
    rintro k ⟨hk, hz⟩
    refine go 200 (fun _ => false) mixed ?_
    by_cases hlt : k < 16
    · have g := u8s_get (ns := l) (k := k) (by omega)
      have gl := mem_get8 hle k
      rw [drop_step (k := k) (by omega)] at hz
      by_cases hb0 : l.getD k 0 = 0
      · rw [hb0] at g hz
        simp (disch := omega) only [↓reduceIte, go_sem, hlt, hl, g] <;> repeat with_reducible refine And.intro (by first | omega | decide) ?_
        exact rnd_next (k + 1) ⟨by omega, by simpa using hz⟩ (by show 16 - (k + 1) < 16 - k; omega) rfl rfl
      · have hzf : zeroFrom n l = false := by rw [hz, beq_eq_false_iff_ne.mpr hb0]; rfl
        simp (disch := omega) only [↓reduceIte, go_sem, hlt, hl, g, hb0] <;> repeat with_reducible refine And.intro (by first | omega | decide) ?_
        exact fin_drop (.inr rfl) hb (by rw [hzf]; rfl) (by simp)
    · have hk16 : k = 16 := by omega
      subst hk16
      have hzt : zeroFrom n l = true := by rw [hz]; simp [zeroFrom, List.drop_eq_nil_of_le (show l.length ≤ 16 by omega)]
      simp (disch := omega) only [↓reduceIte, go_sem, hlt] <;> repeat with_reducible refine And.intro (by first | omega | decide) ?_
      refine go 200 (fun _ => false) mixed ?_
      simp (disch := omega) only [↓reduceIte, go_sem, hl, adrV] <;> repeat with_reducible refine And.intro (by first | omega | decide) ?_
      exact fin_drop (.inr rfl) hb (by rw [hzt]; rfl) (by simp)
  by_cases h4 : f = 4
  · subst h4
    have hn0 : n = 4 := by rw [hn]; rfl
    simp (disch := omega) only [↓reduceIte, go_sem, hl, adrV, adrC, adrV] <;> repeat with_reducible refine And.intro (by first | omega | decide) ?_
    refine runs_loopA (fun k : Nat => k ≤ 16 ∧ zeroFrom n l = zeroFrom k l) (fun k => 16 - k) [false, true, true, true, true]
      (fun k => slots 34 [.any, .ptr H.length 0 0, .bool false, .int .i64 4, .int .i64 k])
      (fun k => H ++ [some (.cells 0 (.int .i64 4 :: u8s l))]) (by rfl) 4 ⟨by omega, by rw [hn0]⟩ rfl rfl ?_
    rintro k ⟨hk, hz⟩
    refine go 200 (fun _ => false) mixed ?_
    by_cases hlt : k < 16
    · have g := u8s_get (ns := l) (k := k) (by omega)
      have gl := mem_get8 hle k
      rw [drop_step (k := k) (by omega)] at hz
      by_cases hb0 : l.getD k 0 = 0
      · rw [hb0] at g hz
        simp (disch := omega) only [↓reduceIte, go_sem, hlt, hl, g] <;> repeat with_reducible refine And.intro (by first | omega | decide) ?_
        exact rnd_next (k + 1) ⟨by omega, by simpa using hz⟩ (by show 16 - (k + 1) < 16 - k; omega) rfl rfl
      · have hzf : zeroFrom n l = false := by rw [hz, beq_eq_false_iff_ne.mpr hb0]; rfl
        simp (disch := omega) only [↓reduceIte, go_sem, hlt, hl, g, hb0] <;> repeat with_reducible refine And.intro (by first | omega | decide) ?_
        exact fin_drop (.inr rfl) hb (by rw [hzf]; rfl) (by simp)
    · have hk16 : k = 16 := by omega
      subst hk16
      have hzt : zeroFrom n l = true := by rw [hz]; simp [zeroFrom, List.drop_eq_nil_of_le (show l.length ≤ 16 by omega)]
      simp (disch := omega) only [↓reduceIte, go_sem, hlt] <;> repeat with_reducible refine And.intro (by first | omega | decide) ?_
      refine go 200 (fun _ => false) mixed ?_
      simp (disch := omega) only [↓reduceIte, go_sem, hl, adrV] <;> repeat with_reducible refine And.intro (by first | omega | decide) ?_
      exact fin_drop (.inr rfl) hb (by rw [hzt]; rfl) (by simp)
  · have hn0 : n = 16 := by rw [hn, if_neg h0, if_neg h4]
    simp (disch := omega) only [↓reduceIte, go_sem, hl, adrV, adrC, h0, h4] <;> repeat with_reducible refine And.intro (by first | omega | decide) ?_
    refine runs_loopA (fun k : Nat => k ≤ 16 ∧ zeroFrom n l = zeroFrom k l) (fun k => 16 - k) [false, true, true, true, true]
      (fun k => slots 34 [.any, .ptr H.length 0 0, .bool false, .int .i64 16, .int .i64 k])
      (fun k => H ++ [some (.cells 0 (.int .i64 f :: u8s l))]) (by rfl) 16 ⟨by omega, by rw [hn0]⟩ rfl rfl ?_
    rintro k ⟨hk, hz⟩
    refine go 200 (fun _ => false) mixed ?_
    by_cases hlt : k < 16
    · have g := u8s_get (ns := l) (k := k) (by omega)
      have gl := mem_get8 hle k
      rw [drop_step (k := k) (by omega)] at hz
      by_cases hb0 : l.getD k 0 = 0
      · rw [hb0] at g hz
        simp (disch := omega) only [↓reduceIte, go_sem, hlt, hl, g] <;> repeat with_reducible refine And.intro (by first | omega | decide) ?_
        exact rnd_next (k + 1) ⟨by omega, by simpa using hz⟩ (by show 16 - (k + 1) < 16 - k; omega) rfl rfl
      · have hzf : zeroFrom n l = false := by rw [hz, beq_eq_false_iff_ne.mpr hb0]; rfl
        simp (disch := omega) only [↓reduceIte, go_sem, hlt, hl, g, hb0] <;> repeat with_reducible refine And.intro (by first | omega | decide) ?_
        exact fin_drop (.inr rfl) hb (by rw [hzf]; rfl) (by simp)
    · have hk16 : k = 16 := by omega
      subst hk16
      have hzt : zeroFrom n l = true := by rw [hz]; simp [zeroFrom, List.drop_eq_nil_of_le (show l.length ≤ 16 by omega)]
      simp (disch := omega) only [↓reduceIte, go_sem, hlt] <;> repeat with_reducible refine And.intro (by first | omega | decide) ?_
      refine go 200 (fun _ => false) mixed ?_
      simp (disch := omega) only [↓reduceIte, go_sem, hl, h0, h4] <;> repeat with_reducible refine And.intro (by first | omega | decide) ?_
      exact fin_drop (.inr rfl) hb (by rw [hzt]; simp only [h0, h4, decide_false, Bool.false_or, Bool.true_and]; rfl) (by simp)

/-- The address of a text. -/
def parseA (s : List UInt8) : Option (Int × List Nat) :=
  match strictF s with
  | some v => some (4, of4L v)
  | none => (parseF s).map fun gs => (6, bytes6 gs)
def parseAV : Option (Int × List Nat) → PV
  | some a => .tup [adrV a.1 a.2, .bool true]
  | none => .tup [adrV 0 z16, .bool false]

theorem parseAV_bdd {n : Nat} (o : Option (Int × List Nat)) : Bdd n (parseAV o) := by
  have key : ∀ (f : Int) (l : List Nat) (b : Bool), Bdd n (.tup [adrV f l, .bool b]) := fun f l b => .tup _ fun p hp => by
    simp only [List.mem_cons, List.not_mem_nil, or_false] at hp
    rcases hp with rfl | rfl
    · exact bdd_adr
    · exact .bool _
  cases o
  · exact key _ _ _
  · exact key _ _ _

theorem parseF_le {s : List UInt8} {l : List Nat} (h : parseF s = some l) : ∀ g ∈ l, g ≤ 65535 := by
  unfold parseF at h
  generalize hx : groupsF (!(Lib.cut s [58, 58]).2.2) (Lib.cut s [58, 58]).1 = x at h
  generalize hy : groupsF true (Lib.cut s [58, 58]).2.1 = y at h
  generalize (Lib.cut s [58, 58]).2.2 = c at h
  cases x with
  | none => cases y <;> cases h
  | some a =>
    cases y with
    | none => cases h
    | some b =>
      simp only [parse2] at h
      have ha := groupsF_le _ _ _ hx
      have hb := groupsF_le _ _ _ hy
      have key : ∀ n, a ++ List.replicate n 0 ++ b = l → ∀ g ∈ l, g ≤ 65535 := by
        intro n e g hg
        rw [← e] at hg
        simp only [List.mem_append, List.mem_replicate] at hg
        rcases hg with (hg | hg) | hg
        · exact ha g hg
        · omega
        · exact hb g hg
      split at h
      · split at h
        · exact key _ (Option.some.inj h)
        · cases h
      · split at h
        · exact key _ (Option.some.inj h)
        · cases h

theorem c_addr_Parse (s : List UInt8) (hl : s.length < 1000000) : GCall 12 [.str (bs s)] (parseAV (parseA s)) := by
  intro H hG
  unfold parseA
  refine scall_ofc (ord := fun _ => []) (tdOf_ok _) (rs := [.cell 2 24, .tmp 3]) Tryz.func12 rfl (by kernel_rfl) (by kernel_rfl) (by kernel_rfl) Tryz.ntmps12 fun hb hargs => go 200 (fun _ => false) mixed ?_
  simp (disch := omega) only [↓reduceIte, go_sem] <;> repeat with_reducible refine And.intro (by first | omega | decide) ?_
  refine (c_four_Strict s hl).on hG.app (go 200 (fun _ => false) mixed ?_)
  cases hv : strictF s with
  | some v =>
    have hvl := strictF_le hv
    have t16 := u8s_take16 (of4L_len v)
    simp only [strictV]
    simp (disch := omega) only [↓reduceIte, go_sem] <;> repeat with_reducible refine And.intro (by first | omega | decide) ?_
    refine (c_addr_Of4 v hvl).on (go 200 (fun _ => false) mixed ?_)
    simp (disch := omega) only [↓reduceIte, go_sem, adrV, adrC, of4L_len, t16] <;> repeat with_reducible refine And.intro (by first | omega | decide) ?_
    exact fin_c (.inr rfl) hb (by simp only [go_sem, of4L_len, t16] <;> rfl) (parseAV_bdd (some (4, of4L v)))
  | none =>
    simp only [strictV]
    simp (disch := omega) only [↓reduceIte, go_sem] <;> repeat with_reducible refine And.intro (by first | omega | decide) ?_
    refine (c_six_Parse s hl).on hG.app (go 200 (fun _ => false) mixed ?_)
    cases hp : parseF s with
    | some gs =>
      have h8 := parse2_len hp
      have hle := parseF_le hp
      have b16 : (bytes6 gs).length = 16 := by rw [bytes6_len]; omega
      have t16 := u8s_take16 b16
      have t8 : List.take 8 (u16s gs) = u16s gs := List.take_of_length_le (by rw [u16s_len]; omega)
      simp only [parseV]
      simp (disch := omega) only [↓reduceIte, go_sem, h8, t8] <;> repeat with_reducible refine And.intro (by first | omega | decide) ?_
      refine (c_addr_Of6 gs h8 hle).on (go 200 (fun _ => false) mixed ?_)
      simp (disch := omega) only [↓reduceIte, go_sem, adrV, adrC, b16, t16] <;> repeat with_reducible refine And.intro (by first | omega | decide) ?_
      exact fin_c (.inr rfl) hb (by simp only [go_sem, b16, t16] <;> rfl) (parseAV_bdd (some (6, bytes6 gs)))
    | none =>
      simp only [parseV]
      simp (disch := omega) only [↓reduceIte, go_sem, u16s] <;> repeat with_reducible refine And.intro (by first | omega | decide) ?_
      exact fin_c (.inr rfl) hb (by simp only [go_sem] <;> rfl) (parseAV_bdd none)

/-- An address's text. -/
def printA (f : Int) (l : List Nat) : List UInt8 := if f = 4 then printF (fourL l) else if f = 6 then print6 (of6 l) else []

theorem c_addr_Print (f : Int) (l : List Nat) (hl : l.length = 16) (hle : ∀ b ∈ l, b ≤ 255) : GCall 23 [adrV f l] (.str (bs (printA f l))) := by
  intro H hG
  have t16 := u8s_take16 hl
  unfold printA
  refine scall_of (ord := fun _ => []) (rs := [2]) Tryz.func23 rfl (by kernel_rfl) (by kernel_rfl) (by kernel_rfl) Tryz.ntmps23 fun hb hargs => go 200 (fun _ => false) mixed ?_
  by_cases h4 : f = 4
  · subst h4
    simp (disch := omega) only [↓reduceIte, go_sem, hl, t16, adrV, adrC] <;> repeat with_reducible refine And.intro (by first | omega | decide) ?_
    refine (c_addr_Four 4 l hl hle).on (go 200 (fun _ => false) mixed ?_)
    simp (disch := omega) only [↓reduceIte, go_sem] <;> repeat with_reducible refine And.intro (by first | omega | decide) ?_
    refine (c_four_Print _ (fourL_le hle)).on hG.app (go 200 (fun _ => false) mixed ?_)
    simp (disch := omega) only [↓reduceIte, go_sem] <;> repeat with_reducible refine And.intro (by first | omega | decide) ?_
    exact fin_drop (.inr rfl) hb rfl (by simp)
  by_cases h6 : f = 6
  · subst h6
    simp (disch := omega) only [↓reduceIte, go_sem, hl, t16, adrV, adrC] <;> repeat with_reducible refine And.intro (by first | omega | decide) ?_
    refine (c_six_Of l hl hle).on (go 200 (fun _ => false) mixed ?_)
    simp (disch := omega) only [↓reduceIte, go_sem] <;> repeat with_reducible refine And.intro (by first | omega | decide) ?_
    refine (c_six_Print (of6 l) (of6_len l 8 (by omega)) (of6_le l hle)).on hG.app (go 200 (fun _ => false) mixed ?_)
    simp (disch := omega) only [↓reduceIte, go_sem] <;> repeat with_reducible refine And.intro (by first | omega | decide) ?_
    exact fin_drop (.inr rfl) hb rfl (by simp)
  · simp (disch := omega) only [↓reduceIte, go_sem, hl, t16, adrV, adrC, h4, h6] <;> repeat with_reducible refine And.intro (by first | omega | decide) ?_
    exact fin_drop (.inr rfl) hb rfl (by simp)
end Go.Proofs.GoC

/-
  Comparing: bytes, numbers, and the first that is not 0. No claim by itself.
-/
namespace Go.Proofs.GoC
open Go Go.Proofs.SL
set_option linter.unusedSimpArgs false
set_option linter.unusedVariables false
set_option maxRecDepth 10000
set_option maxHeartbeats 2000000

/-- Which row of bytes comes first. -/
def cmpB : List Nat → List Nat → Int
  | [], [] => 0
  | [], _ :: _ => -1
  | _ :: _, [] => 1
  | a :: as', b :: bs' => if a < b then -1 else if b < a then 1 else cmpB as' bs'

theorem ofNat_lt {a b : Nat} (ha : a ≤ 255) (hb : b ≤ 255) : UInt8.ofNat a < UInt8.ofNat b ↔ a < b := by
  rw [UInt8.lt_iff_toNat_lt, UInt8.toNat_ofNat', UInt8.toNat_ofNat', Nat.mod_eq_of_lt (by omega), Nat.mod_eq_of_lt (by omega)]

theorem cmpB_eq : ∀ (a b : List Nat), (∀ x ∈ a, x ≤ 255) → (∀ x ∈ b, x ≤ 255) → Lib.compareBytes (a.map UInt8.ofNat) (b.map UInt8.ofNat) = cmpB a b
  | [], [], _, _ => rfl
  | [], _ :: _, _, _ => rfl
  | _ :: _, [], _, _ => rfl
  | x :: a, y :: b, ha, hb => by
    have hx := ha x (by simp)
    have hy := hb y (by simp)
    simp only [List.map_cons, Lib.compareBytes, cmpB, ofNat_lt hx hy, ofNat_lt hy hx]
    rw [cmpB_eq a b (fun z hz => ha z (by simp [hz])) (fun z hz => hb z (by simp [hz]))]

section
variable {P : Program} {H : Heap} {β : Nat → Option Nat} {w : World}
theorem bytesOf_buf (hI : SL.Inv β H w) {x : Value} {i ver off n : Nat} {tip : Bool} (hx : V β H w x (.buf i ver off n 1 tip)) {cs : List PV} (ho : H[i]? = some (some (.cells ver cs))) {l : List Nat} (hl : l.length = n) (hs : ∀ j, j < n → cs[off + j]? = some (.int .u8 (l.getD j 0 : Nat))) :
    (Extern.Bytes.bytesOf x).run P w = .ok (bs (l.map UInt8.ofNat)) w := by
  obtain ⟨a, cap, rfl, hc, ha, hi, hlv⟩ := hx.buf_inv
  obtain ⟨hn, hsm⟩ := hlv (live_of ho)
  subst hl
  by_cases hz : l = []
  · subst hz
    cases a <;> rfl
  · have hne : l.length ≠ 0 := fun h => hz (List.eq_nil_of_length_eq_zero h)
    obtain ⟨b, rfl⟩ := ha hne
    cases hb : β i with
    | none => have := (hn hb).1; omega
    | some b' =>
      have hbb : b = b' := by
        rcases hsm b' hb with ⟨h, _⟩ | ⟨h, _⟩
        · exact absurd h hne
        · cases h; rfl
      subst hbb
      obtain ⟨_, hcells⟩ := hI.cells ho
      obtain ⟨c, t, fz, f, hh, hsz, hf, hV, _⟩ := hcells b hb
      have key := Lib.run_loadBytesX (P := P) (w := w) (l.map fun m : Nat => (m : Int)) ⟨b, off, none⟩ ByteArray.empty (fun j x hj => by
        rw [List.getElem?_map] at hj
        cases hlj : l[j]? with
        | none => rw [hlj] at hj; cases hj
        | some m =>
          rw [hlj] at hj
          simp only [Option.map_some, Option.some.injEq] at hj
          subst hj
          have hjl : j < l.length := by
            rcases Nat.lt_or_ge j l.length with h | h
            · exact h
            · rw [List.getElem?_eq_none h] at hlj; cases hlj
          have hcj := hs j hjl
          have hk : off + j < cs.length := by
            rcases Nat.lt_or_ge (off + j) cs.length with h | h
            · exact h
            · rw [List.getElem?_eq_none h] at hcj; cases hcj
          have hv := (hV (off + j) _ hcj).int_inv
          rw [addr_add, cell_of hh, hf _ hk, hv, List.getD_eq_getElem?_getD, hlj]; rfl)
      rw [List.length_map] at key
      refine key.trans ?_
      congr 1
      apply ByteArray.ext
      apply Array.ext'
      simp [bs, Lib.bytesOf]
end

theorem run_cmp {H : Heap} {β : Nat → Option Nat} {w : World} (hI : SL.Inv β H w) {x y : Value} {i off n i' off' n' : Nat} {tip tip' : Bool} {cs cs' : List PV} {l l' : List Nat}
    (hx : V β H w x (.buf i 0 off n 1 tip)) (hy : V β H w y (.buf i' 0 off' n' 1 tip')) (ho : H[i]? = some (some (.cells 0 cs))) (ho' : H[i']? = some (some (.cells 0 cs')))
    (hl : l.length = n) (hl' : l'.length = n') (hs : ∀ j, j < n → cs[off + j]? = some (.int .u8 (l.getD j 0 : Nat))) (hs' : ∀ j, j < n' → cs'[off' + j]? = some (.int .u8 (l'.getD j 0 : Nat)))
    (hle : ∀ b ∈ l, b ≤ 255) (hle' : ∀ b ∈ l', b ≤ 255) :
    (Extern.BytealgCompare.compare #[x, y]).run Tryz.prog w = .ok (.int .i64 (cmpB l l')) w := by
  change Sem.run Tryz.prog (do pure (goInt (Extern.BytealgCompare.cmp (← Extern.Bytes.bytesOf x) (← Extern.Bytes.bytesOf y)))) w = _
  simp only [Sem.run_bind, bytesOf_buf hI hx ho hl hs, bytesOf_buf hI hy ho' hl' hs', Result.andThen_ok, Sem.run_pure]
  rw [Lib.cmp_eq]
  simp only [bs, List.toList_toArray]
  rw [cmpB_eq l l' hle hle']
  rfl

/-- Which number comes first. -/
def cmpI (a b : Int) : Int := if a < b then -1 else if b < a then 1 else 0

/-- The first that is not 0. -/
def orF : List Int → Int
  | [] => 0
  | x :: l => if x = 0 then orF l else x
def intsP (l : List Int) : List PV := l.map fun n => .int .i64 n
@[go_sem] theorem intsP_len {l : List Int} : (intsP l).length = l.length := List.length_map ..
theorem intsP_get {l : List Int} {k : Nat} (h : k < l.length) : (intsP l).getD k .any = .int .i64 (l.getD k 0) := by
  simp [intsP, List.getD_eq_getElem?_getD, h]
theorem orF_step {l : List Int} {k : Nat} (h : k < l.length) : orF (l.drop k) = if l.getD k 0 = 0 then orF (l.drop (k + 1)) else l.getD k 0 := by
  rw [List.drop_eq_getElem_cons h, orF]
  simp [List.getD_eq_getElem?_getD, h]

/-- Which address comes first. -/
def cmpA (f : Int) (l : List Nat) (g : Int) (m : List Nat) : Int := if cmpI f g = 0 then cmpB l m else cmpI f g

theorem adr_at {x : PV} {l : List Nat} {n : Nat} (hl : l.length = n) : ∀ j, j < n → (x :: u8s l)[1 + j]? = some (.int .u8 (l.getD j 0 : Nat)) := by
  intro j hj
  rw [Nat.add_comm 1 j, List.getElem?_cons_succ]
  simp [u8s, List.getD_eq_getElem?_getD, show j < l.length by omega]

theorem cmpB_step {l m : List Nat} {k : Nat} (h : k < l.length) (h' : k < m.length) : cmpB (l.drop k) (m.drop k) = if l.getD k 0 < m.getD k 0 then -1 else if m.getD k 0 < l.getD k 0 then 1 else cmpB (l.drop (k + 1)) (m.drop (k + 1)) := by
  rw [List.drop_eq_getElem_cons h, List.drop_eq_getElem_cons h', cmpB]
  simp only [List.getD_eq_getElem?_getD, List.getElem?_eq_getElem h, List.getElem?_eq_getElem h', Option.getD_some]

end Go.Proofs.GoC

/-
  What the functions compute: mapped addresses, bits. No claim by itself.
-/
namespace Go.Proofs.GoC
open Go Go.Proofs.SL
set_option linter.unusedSimpArgs false
set_option linter.unusedVariables false
set_option maxRecDepth 10000
set_option maxHeartbeats 2000000

def pre12 : List Nat := [0, 0, 0, 0, 0, 0, 0, 0, 0, 0, 255, 255]
/-- An address, mapped. -/
def mapA (f : Int) (l : List Nat) : PV := if f = 4 then adrV 6 (pre12 ++ l.take 4) else adrV f l

def ordMap : Nat → List Nat
  | 4 => [0, 1, 2, 3, 4]
  | _ => []
theorem ordMap_4 : ordMap 4 = [0, 1, 2, 3, 4] := rfl

/-- An address, of 32 bits where it is mapped. -/
def unmapA (f : Int) (l : List Nat) : PV := if f = 6 ∧ l.take 12 = pre12 then adrV 4 (l.drop 12 ++ z12) else adrV f l

def ordUn : Nat → List Nat
  | 2 => [0, 1, 2, 3, 4]
  | _ => []
theorem ordUn_2 : ordUn 2 = [0, 1, 2, 3, 4] := rfl
theorem ordUn_3 : ordUn 3 = [] := rfl

theorem c_abatisref04_Groups (f : Int) (l : List Nat) (hl : l.length = 16) (hle : ∀ b ∈ l, b ≤ 255) : PCall Tryz.prog 51 [adrV f l] (.agg (u16s (of6 l))) := by
  intro H
  have t16 := u8s_take16 hl
  have ol := of6_len l 8 (by omega)
  refine scall_ofc (ord := fun _ => []) (tdOf_ok _) (rs := [.cell 2 53]) Tryz.func51 rfl (by kernel_rfl) (by kernel_rfl) (by kernel_rfl) Tryz.ntmps51 fun hb hargs => go 200 (fun _ => false) mixed ?_
  simp (disch := omega) only [↓reduceIte, go_sem, hl, t16, adrV, adrC] <;> repeat with_reducible refine And.intro (by first | omega | decide) ?_
  refine runs_loopA (fun k : Nat => k ≤ 8) (fun k => 8 - k)
    [false, true, true, true, true]
    (fun k => slots 27 [.any, .ptr H.length 0 0, .ptr (H.length + 1) 0 0, .ptr (H.length + 2) 0 0, .int .i64 k])
    (fun k => H ++ [some (.cells 0 (.int .i64 f :: u8s l)), some (.cells 0 (List.replicate 8 (PV.int .u16 0))), some (.cells 0 (u16s ((of6 l).take k) ++ List.replicate (8 - k) (PV.int .u16 0)))]) (by rfl) 0 (Nat.zero_le _) rfl rfl ?_
  intro k hk
  refine go 200 (fun _ => false) mixed ?_
  by_cases hlt : k < 8
  · have ga := u8s_get (ns := l) (k := 2 * k) (by omega)
    have gb := u8s_get (ns := l) (k := 2 * k + 1) (by omega)
    have la := mem_get8 hle (2 * k)
    have lb := mem_get8 hle (2 * k + 1)
    have hlen : (u16s ((of6 l).take k)).length = k := by rw [u16s_len, List.length_take]; omega
    have hg := of6_get l k (by omega)
    have f1 := fill_set (z := PV.int .u16 0) (v := PV.int .u16 (((of6 l).getD k 0 : Nat) : Int)) (n := 8) hlen (by omega)
    have b1 : (u16s ((of6 l).take k) ++ List.replicate (8 - k) (PV.int .u16 0)).length = 8 := by rw [List.length_append, hlen, List.length_replicate]; omega
    rw [hg] at f1
    generalize l.getD (2 * k) 0 = x at *
    generalize l.getD (2 * k + 1) 0 = y at *
    have hnext : u16s ((of6 l).take k) ++ [PV.int .u16 ((x * 256 + y : Nat) : Int)] ++ List.replicate (8 - (k + 1)) (PV.int .u16 0) = u16s ((of6 l).take (k + 1)) ++ List.replicate (8 - (k + 1)) (PV.int .u16 0) := by
      rw [take_snoc (d := 0) (show k < (of6 l).length by omega), hg]
      simp [u16s]
    simp (disch := omega) only [↓reduceIte, go_sem, hlt, hl, ga, gb, b1, f1] <;> repeat with_reducible refine And.intro (by first | omega | decide) ?_
    refine rnd_next (k + 1) (by omega) (by show 8 - (k + 1) < 8 - k; omega) rfl ?_
    rw [hnext]
  · simp (disch := omega) only [↓reduceIte, go_sem, hlt] <;> repeat with_reducible refine And.intro (by first | omega | decide) ?_
    have hk8 : k = 8 := by omega
    subst hk8
    have b8 : (u16s (of6 l)).length = 8 := by rw [u16s_len]; omega
    have t8 : List.take 8 (u16s (of6 l)) = u16s (of6 l) := List.take_of_length_le (by omega)
    have tg : List.take 8 (of6 l) = of6 l := List.take_of_length_le (by omega)
    refine go 200 (fun _ => false) mixed ?_
    simp (disch := omega) only [↓reduceIte, go_sem, tg, b8, t8] <;> repeat with_reducible refine And.intro (by first | omega | decide) ?_
    exact fin_c (.inr rfl) hb (by simp only [go_sem, t8, b8]) bdd_u16s

/-- A bit. -/
def bitA (f : Int) (l : List Nat) (i : Int) : Nat := if i < 0 ∨ (bitsA f : Int) ≤ i then 0 else l.getD (i.toNat / 8) 0 / 2 ^ (7 - i.toNat % 8) % 2

@[go_sem] theorem up_fdivp {a k : Nat} : (a : Int).fdiv (2 ^ k) = ((a / 2 ^ k : Nat) : Int) := by
  rw [Int.fdiv_eq_ediv_of_nonneg _ (Int.le_of_lt (Int.pow_pos (by omega)))]
  norm_cast
@[go_sem] theorem and_1 {a : Nat} (h : a ≤ 9223372036854775807) : bitOp .and .i64 (a : Int) 1 = ((a % 2 : Nat) : Int) := by
  unfold bitOp
  simp only
  have e : (BitVec.ofInt IntKind.i64.bits (a : Int) &&& BitVec.ofInt IntKind.i64.bits (1 : Int)).toNat = a % 2 := by
    rw [show (1 : Int) = ((1 : Nat) : Int) from rfl, BitVec.toNat_and, BitVec.ofInt_natCast, BitVec.ofInt_natCast, BitVec.toNat_ofNat, BitVec.toNat_ofNat]
    have : IntKind.i64.bits = 64 := rfl
    rw [this, Nat.mod_eq_of_lt (by omega), Nat.mod_eq_of_lt (by omega), Nat.and_one_is_mod]
  rw [e, w64 (by omega) (by omega)]

theorem bitsA_le (f : Int) : bitsA f ≤ 128 := by unfold bitsA; split <;> (try split) <;> omega

theorem c_abatisref04_Bit (f : Int) (l : List Nat) (hl : l.length = 16) (hle : ∀ b ∈ l, b ≤ 255) (i : Int) : PCall Tryz.prog 42 [adrV f l, .int .i64 i] (.int .i64 (bitA f l i : Nat)) := by
  intro H
  have t16 := u8s_take16 hl
  have hbl := bitsA_le f
  refine scall_of (ord := fun _ => []) (rs := [4]) Tryz.func42 rfl (by kernel_rfl) (by kernel_rfl) (by kernel_rfl) Tryz.ntmps42 fun hb hargs => go 200 (fun _ => false) mixed ?_
  by_cases h0 : i < 0
  · have e : bitA f l i = 0 := if_pos (.inl h0)
    rw [e]
    simp (disch := omega) only [↓reduceIte, go_sem, hl, t16, adrV, adrC, h0] <;> repeat with_reducible refine And.intro (by first | omega | decide) ?_
    exact fin_drop (.inr rfl) hb rfl (by simp)
  · obtain ⟨k, rfl⟩ : ∃ k : Nat, i = k := ⟨i.toNat, by omega⟩
    have e1 : bitsA f ≤ k → bitA f l k = 0 := fun h => if_pos (.inr (by omega))
    have e2 : ¬ bitsA f ≤ k → bitA f l k = l.getD (k / 8) 0 / 2 ^ (7 - k % 8) % 2 := fun h => if_neg (by omega)
    simp (disch := omega) only [↓reduceIte, go_sem, hl, t16, adrV, adrC] <;> repeat with_reducible refine And.intro (by first | omega | decide) ?_
    refine (c_abatisref04_Bits f l hl).on (go 200 (fun _ => false) mixed ?_)
    generalize bitsA f = B at *
    by_cases hk : B ≤ k
    · rw [e1 hk]
      simp (disch := omega) only [↓reduceIte, go_sem, hk] <;> repeat with_reducible refine And.intro (by first | omega | decide) ?_
      exact fin_drop (.inr rfl) hb rfl (by simp)
    · rw [e2 hk]
      have g := u8s_get (ns := l) (k := k / 8) (by omega)
      have gl := mem_get8 hle (k / 8)
      generalize l.getD (k / 8) 0 = x at *
      simp (disch := omega) only [↓reduceIte, go_sem, hk, hl, g] <;> repeat with_reducible refine And.intro (by first | omega | decide) ?_
      refine runs_loopA (fun y : Nat × Nat => k % 8 ≤ y.1 ∧ y.1 ≤ 7 ∧ y.2 = x / 2 ^ (y.1 - k % 8)) (fun y => 7 - y.1) [false, false, false, false, true, true, true]
        (fun y => slots 31 [.any, .any, .any, .any, .int .i64 0, .int .i64 y.2, .int .i64 y.1])
        (fun _ => H ++ [some (.cells 0 (.int .i64 f :: u8s l))]) (by rfl) (k % 8, x) ⟨by simp, by show k % 8 ≤ 7; omega, by simp⟩ rfl rfl ?_
      rintro ⟨j, c⟩ ⟨hj1, hj2, hc⟩
      dsimp only at hj1 hj2 hc
      have hcx : c ≤ 255 := by rw [hc]; exact Nat.le_trans (Nat.div_le_self _ _) gl
      refine go 200 (fun _ => false) mixed ?_
      by_cases hjt : j < 7
      · simp (disch := omega) only [↓reduceIte, go_sem, hjt] <;> repeat with_reducible refine And.intro (by first | omega | decide) ?_
        refine rnd_next (j + 1, c / 2) ⟨by show k % 8 ≤ j + 1; omega, by show j + 1 ≤ 7; omega, ?_⟩ (by show 7 - (j + 1) < 7 - j; omega) rfl rfl
        show c / 2 = x / 2 ^ (j + 1 - k % 8)
        rw [hc, Nat.div_div_eq_div_mul, ← Nat.pow_succ, show (j - k % 8).succ = j + 1 - k % 8 by omega]
      · have hj7 : j = 7 := by omega
        subst hj7
        simp (disch := omega) only [↓reduceIte, go_sem, hjt] <;> repeat with_reducible refine And.intro (by first | omega | decide) ?_
        refine go 200 (fun _ => false) mixed ?_
        simp (disch := omega) only [↓reduceIte, go_sem] <;> repeat with_reducible refine And.intro (by first | omega | decide) ?_
        exact fin_drop (.inr rfl) hb (by rw [hc]; rfl) (by simp)
end Go.Proofs.GoC
