/-
  Bytes and addresses of both families, as values. No claim by itself.
-/
import Derived.Test.YtmgemdgbffmnjaaGoStd
namespace Go.Proofs.GoC
open Go Go.Proofs.SL
set_option linter.unusedSimpArgs false
set_option linter.unusedVariables false
set_option maxRecDepth 10000
set_option maxHeartbeats 1100000

attribute [go_sem] Option.isSome_some Option.isSome_none

def u8s (ns : List Nat) : List PV := ns.map fun n => .int .u8 (n : Nat)

@[go_sem] theorem u8s_len {ns : List Nat} : (u8s ns).length = ns.length := List.length_map ..

theorem u8s_get {ns : List Nat} {k : Nat} (h : k < ns.length) : (u8s ns).getD k .any = .int .u8 (ns.getD k 0 : Nat) := by
  simp [u8s, List.getD_eq_getElem?_getD, h]
@[go_sem] theorem u8s_one {gs : List Nat} : (u8s gs).all PV.one = true := by simp [u8s, PV.one]
theorem bdd_u8s {n : Nat} {l : List Nat} : Bdd n (.agg (u8s l)) := .agg _ fun p hp => by
  obtain ⟨x, _, rfl⟩ := List.mem_map.mp hp
  exact .int _ _
theorem mem_get8 {gs : List Nat} (hle : ∀ g ∈ gs, g ≤ 255) (k : Nat) : gs.getD k 0 ≤ 255 := by
  rw [List.getD_eq_getElem?_getD]
  rcases Nat.lt_or_ge k gs.length with h | h
  · rw [List.getElem?_eq_getElem h]; exact hle _ (List.getElem_mem h)
  · rw [List.getElem?_eq_none h]; exact Nat.zero_le _
theorem u8s_tag {l : List Nat} {n : Nat} (hl : l.length = n) : List.map tagP (u8s l) = List.replicate n (some (Tag.i IntKind.u8)) := by
  subst hl
  induction l with
  | nil => rfl
  | cons a l ih => simp only [u8s, List.map_cons, List.length_cons, List.replicate_succ] at ih ⊢; rw [ih]; rfl

/-- An address: its family, its bytes. -/
def adrC (f : Int) (l : List Nat) : List PV := .int .i64 f :: u8s l
def adrV (f : Int) (l : List Nat) : PV := .agg (adrC f l)

theorem len16 {α : Type} {l : List α} (h : l.length = 16) : ∃ a0 a1 a2 a3 a4 a5 a6 a7 a8 a9 b0 b1 b2 b3 b4 b5, l = [a0, a1, a2, a3, a4, a5, a6, a7, a8, a9, b0, b1, b2, b3, b4, b5] := by
  match l, h with
  | [a0, a1, a2, a3, a4, a5, a6, a7, a8, a9, b0, b1, b2, b3, b4, b5], _ => exact ⟨_, _, _, _, _, _, _, _, _, _, _, _, _, _, _, _, rfl⟩

@[go_sem] theorem getD_1a {x d : PV} {l : List PV} {k : Nat} : (x :: l).getD (1 + k) d = l.getD k d := by rw [Nat.add_comm]; rfl
@[go_sem] theorem set_1a {x v : PV} {l : List PV} {k : Nat} : (x :: l).set (1 + k) v = x :: l.set k v := by rw [Nat.add_comm]; rfl

theorem u8s_inj {a b : List Nat} : u8s a = u8s b ↔ a = b := by
  constructor
  · intro h
    have : ∀ c d : List Nat, u8s c = u8s d → c = d := by
      intro c
      induction c with
      | nil => intro d hd; cases d with
        | nil => rfl
        | cons y d => simp [u8s] at hd
      | cons x c ih => intro d hd; cases d with
        | nil => simp [u8s] at hd
        | cons y d =>
          simp only [u8s, List.map_cons, List.cons.injEq, PV.int.injEq, true_and] at hd
          have h1 : x = y := Int.ofNat_inj.mp hd.1
          rw [h1, ih d hd.2]
    exact this a b h
  · intro h; rw [h]
theorem adr_inj {f g : Int} {a b : List Nat} : adrC f a = adrC g b ↔ f = g ∧ a = b := by
  simp only [adrC, List.cons.injEq, PV.int.injEq, true_and, u8s_inj]
theorem adr_tag {f : Int} {l : List Nat} (hl : l.length = 16) : List.map tagP (adrC f l) = some (Tag.i .i64) :: List.replicate 16 (some (Tag.i .u8)) := by
  simp only [adrC, List.map_cons, u8s_tag hl, tagP]
theorem bdd_adr {n : Nat} {f : Int} {l : List Nat} : Bdd n (adrV f l) := .agg _ fun p hp => by
  rcases List.mem_cons.mp hp with rfl | hp
  · exact .int _ _
  · obtain ⟨x, _, rfl⟩ := List.mem_map.mp hp
    exact .int _ _

def z12 : List Nat := [0, 0, 0, 0, 0, 0, 0, 0, 0, 0, 0, 0]
def z16 : List Nat := [0, 0, 0, 0, 0, 0, 0, 0, 0, 0, 0, 0, 0, 0, 0, 0]
theorem adr_lit {f : Int} {l : List Nat} : (adrC f l = [PV.int IntKind.i64 0, PV.int IntKind.u8 0, PV.int IntKind.u8 0, PV.int IntKind.u8 0, PV.int IntKind.u8 0, PV.int IntKind.u8 0, PV.int IntKind.u8 0, PV.int IntKind.u8 0, PV.int IntKind.u8 0, PV.int IntKind.u8 0, PV.int IntKind.u8 0, PV.int IntKind.u8 0, PV.int IntKind.u8 0, PV.int IntKind.u8 0, PV.int IntKind.u8 0, PV.int IntKind.u8 0, PV.int IntKind.u8 0]) ↔ f = 0 ∧ l = z16 := by
  rw [show [PV.int IntKind.i64 0, PV.int IntKind.u8 0, PV.int IntKind.u8 0, PV.int IntKind.u8 0, PV.int IntKind.u8 0, PV.int IntKind.u8 0, PV.int IntKind.u8 0, PV.int IntKind.u8 0, PV.int IntKind.u8 0, PV.int IntKind.u8 0, PV.int IntKind.u8 0, PV.int IntKind.u8 0, PV.int IntKind.u8 0, PV.int IntKind.u8 0, PV.int IntKind.u8 0, PV.int IntKind.u8 0, PV.int IntKind.u8 0] = adrC 0 z16 from rfl, adr_inj]

@[go_sem] theorem adr_eq0 {f : Int} {l : List Nat} : (PV.int .i64 f :: u8s l = [PV.int IntKind.i64 0, PV.int IntKind.u8 0, PV.int IntKind.u8 0, PV.int IntKind.u8 0, PV.int IntKind.u8 0, PV.int IntKind.u8 0, PV.int IntKind.u8 0, PV.int IntKind.u8 0, PV.int IntKind.u8 0, PV.int IntKind.u8 0, PV.int IntKind.u8 0, PV.int IntKind.u8 0, PV.int IntKind.u8 0, PV.int IntKind.u8 0, PV.int IntKind.u8 0, PV.int IntKind.u8 0, PV.int IntKind.u8 0]) ↔ f = 0 ∧ l = z16 := adr_lit
@[go_sem] theorem adr_eq {f g : Int} {a b : List Nat} : (PV.int .i64 f :: u8s a = PV.int .i64 g :: u8s b) ↔ f = g ∧ a = b := adr_inj
theorem u8s_tag16 {l : List Nat} (hl : l.length = 16) : List.map tagP (u8s l) = [some (Tag.i .u8), some (Tag.i .u8), some (Tag.i .u8), some (Tag.i .u8), some (Tag.i .u8), some (Tag.i .u8), some (Tag.i .u8), some (Tag.i .u8), some (Tag.i .u8), some (Tag.i .u8), some (Tag.i .u8), some (Tag.i .u8), some (Tag.i .u8), some (Tag.i .u8), some (Tag.i .u8), some (Tag.i .u8)] := u8s_tag hl
theorem u8s_take16 {l : List Nat} (hl : l.length = 16) : List.take 16 (u8s l) = u8s l := List.take_of_length_le (by rw [u8s_len]; omega)

end Go.Proofs.GoC
