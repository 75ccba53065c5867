/-
  What the functions compute: texts of addresses of 128 bits. No claim by itself.
-/
import Derived.Test.YtdgikagnkbphoaaDoorGoRow6
namespace Go.Proofs.GoC
open Go Go.Proofs.SL
set_option linter.unusedSimpArgs false
set_option linter.unusedVariables false
set_option maxRecDepth 10000
set_option maxHeartbeats 2000000

@[go_sem] theorem or_u32_16 {a b : Nat} (hb : b < 65536) (h : a * 65536 + b < 4294967296) : bitOp .or .u32 ((a * 65536 : Nat) : Int) (b : Int) = ((a * 65536 + b : Nat) : Int) := or_addk (k := .u32) (s := 16) hb rfl h

theorem run_in8 : ∀ a b c d e f g h : Bool, (runF [a, b, c, d, e, f, g, h]).1 + (runF [a, b, c, d, e, f, g, h]).2 ≤ 8 := by decide +kernel
theorem run_in (zs : List Bool) (hl : zs.length = 8) : (runF zs).1 + (runF zs).2 ≤ 8 := by
  obtain ⟨a, b, c, d, e, f, g, h, rfl⟩ := len8 hl
  exact run_in8 a b c d e f g h

def mapd (gs : List Nat) : Bool := gs.take 6 == [0, 0, 0, 0, 0, 65535]

/-- An address's text. -/
def print6 (gs : List Nat) : List UInt8 :=
  if mapd gs then [58, 58, 102, 102, 102, 102, 58] ++ printF (gs.getD 6 0 * 65536 + gs.getD 7 0)
  else if (runF (zeros gs)).2 = 0 then rowF gs
  else rowF (gs.take (runF (zeros gs)).1) ++ [58, 58] ++ rowF (gs.drop ((runF (zeros gs)).1 + (runF (zeros gs)).2))

theorem grp_all {H : Heap} {gs : List Nat} (hl : gs.length = 8) (hle : ∀ g ∈ gs, g ≤ 65535) : Grp (H ++ [some (.cells 0 (u16s gs))]) H.length 0 gs :=
  ⟨⟨u16s gs, by rw [get_tail0]; rfl, by rw [u16s_len]; omega, fun k hk => by rw [Nat.zero_add]; exact u16s_get hk⟩, fun k hk => by
    have := hle gs[k] (List.getElem_mem hk)
    simpa [List.getD_eq_getElem?_getD, hk] using this, by omega⟩
theorem grp_take {H : Heap} {gs : List Nat} (hl : gs.length = 8) (hle : ∀ g ∈ gs, g ≤ 65535) (n : Nat) : Grp (H ++ [some (.cells 0 (u16s gs))]) H.length 0 (gs.take n) :=
  ⟨⟨u16s gs, by rw [get_tail0]; rfl, by rw [u16s_len, List.length_take]; omega, fun k hk => by
    rw [List.length_take] at hk
    rw [Nat.zero_add, u16s_get (by omega)]
    simp [List.getD_eq_getElem?_getD, List.getElem?_take, show k < n by omega]⟩, fun k hk => by
    have hm : (gs.take n)[k] ∈ gs := List.mem_of_mem_take (List.getElem_mem hk)
    have := hle _ hm
    rwa [List.getD_eq_getElem?_getD, List.getElem?_eq_getElem hk, Option.getD_some], by rw [List.length_take]; omega⟩
theorem grp_drop {H : Heap} {gs : List Nat} (hl : gs.length = 8) (hle : ∀ g ∈ gs, g ≤ 65535) (n : Nat) (hn : n ≤ 8) : Grp (H ++ [some (.cells 0 (u16s gs))]) H.length n (gs.drop n) :=
  ⟨⟨u16s gs, by rw [get_tail0]; rfl, by rw [u16s_len, List.length_drop]; omega, fun k hk => by
    rw [List.length_drop] at hk
    rw [u16s_get (by omega)]
    simp [List.getD_eq_getElem?_getD, List.getElem?_drop]⟩, fun k hk => by
    have hm : (gs.drop n)[k] ∈ gs := List.mem_of_mem_drop (List.getElem_mem hk)
    have := hle _ hm
    rwa [List.getD_eq_getElem?_getD, List.getElem?_eq_getElem hk, Option.getD_some], by rw [List.length_drop]; omega⟩

theorem u16s_tag {gs : List Nat} (hl : gs.length = 8) : List.map tagP (u16s gs) = [some (Tag.i IntKind.u16), some (Tag.i IntKind.u16), some (Tag.i IntKind.u16), some (Tag.i IntKind.u16), some (Tag.i IntKind.u16), some (Tag.i IntKind.u16), some (Tag.i IntKind.u16), some (Tag.i IntKind.u16)] := by
  obtain ⟨a, b, c, d, e, f, g, h, rfl⟩ := len8 hl
  rfl
theorem u16s_inj {a b : List Nat} : u16s a = u16s b ↔ a = b := by
  constructor
  · intro h
    have : ∀ c d : List Nat, u16s c = u16s d → c = d := by
      intro c
      induction c with
      | nil => intro d hd; cases d with
        | nil => rfl
        | cons y d => simp [u16s] at hd
      | cons x c ih => intro d hd; cases d with
        | nil => simp [u16s] at hd
        | cons y d =>
          simp only [u16s, List.map_cons, List.cons.injEq, PV.int.injEq, true_and] at hd
          have h1 : x = y := Int.ofNat_inj.mp hd.1
          rw [h1, ih d hd.2]
    exact this a b h
  · intro h; rw [h]
theorem mapd_iff {gs : List Nat} (hl : gs.length = 8) : (u16s gs = [PV.int IntKind.u16 0, PV.int IntKind.u16 0, PV.int IntKind.u16 0, PV.int IntKind.u16 0, PV.int IntKind.u16 0, PV.int IntKind.u16 65535, PV.int IntKind.u16 (gs.getD 6 0 : Nat), PV.int IntKind.u16 (gs.getD 7 0 : Nat)]) ↔ mapd gs = true := by
  rw [show [PV.int IntKind.u16 0, PV.int IntKind.u16 0, PV.int IntKind.u16 0, PV.int IntKind.u16 0, PV.int IntKind.u16 0, PV.int IntKind.u16 65535, PV.int IntKind.u16 (gs.getD 6 0 : Nat), PV.int IntKind.u16 (gs.getD 7 0 : Nat)] = u16s [0, 0, 0, 0, 0, 65535, gs.getD 6 0, gs.getD 7 0] from rfl, u16s_inj]
  obtain ⟨a, b, c, d, e, f, g, h, rfl⟩ := len8 hl
  simp [mapd]

theorem mem_get {gs : List Nat} (hle : ∀ g ∈ gs, g ≤ 65535) (k : Nat) : gs.getD k 0 ≤ 65535 := by
  rw [List.getD_eq_getElem?_getD]
  rcases Nat.lt_or_ge k gs.length with h | h
  · rw [List.getElem?_eq_getElem h]; exact hle _ (List.getElem_mem h)
  · rw [List.getElem?_eq_none h]; exact Nat.zero_le _

theorem rowF_len (gs : List Nat) (hle : ∀ g ∈ gs, g ≤ 65535) : (rowF gs).length ≤ gs.length * 5 := by
  have := joinL_len [58] 4 (gs.map hexF) (fun p hp => by
    obtain ⟨n, hn, rfl⟩ := List.mem_map.mp hp
    exact hexF_len _ (hle n hn))
  simpa [rowF] using this

theorem c_six_Print (gs : List Nat) (hl : gs.length = 8) (hle : ∀ g ∈ gs, g ≤ 65535) : GCall 17 [.agg (u16s gs)] (.str (bs (print6 gs))) := by
  intro H hG
  have g6 := u16s_get (ns := gs) (k := 6) (by omega)
  have g7 := u16s_get (ns := gs) (k := 7) (by omega)
  refine scall_of (ord := fun _ => []) (rs := [2]) Tryd.func17 rfl (by kernel_rfl) (by kernel_rfl) (by kernel_rfl) Tryd.ntmps17 fun hb hargs => go 200 (fun _ => false) mixed ?_
  have t8 : List.take 8 (u16s gs) = u16s gs := List.take_of_length_le (by rw [u16s_len]; omega)
  simp (disch := omega) only [↓reduceIte, go_sem, hl, t8] <;> repeat with_reducible refine And.intro (by first | omega | decide) ?_
  refine (c_six_Run gs hl).on (go 200 (fun _ => false) mixed ?_)
  have hr8 := run_in _ (zeros_len.trans hl)
  unfold print6
  have tg := u16s_tag hl
  have hmi := mapd_iff hl
  have l6 := mem_get hle 6
  have l7 := mem_get hle 7
  generalize gs.getD 6 0 = x6 at *
  generalize gs.getD 7 0 = x7 at *
  obtain ⟨r, hr⟩ : ∃ r, r = runF (zeros gs) := ⟨_, rfl⟩
  rw [← hr] at hr8 ⊢
  cases hm : mapd gs with
  | true =>
    rw [hm] at hmi
    simp (disch := omega) only [↓reduceIte, go_sem, hl, g6, g7, t8, tg, hmi] <;> repeat with_reducible refine And.intro (by first | omega | decide) ?_
    refine (c_four_Print (x6 * 65536 + x7) (by omega)).on hG.app (go 200 (fun _ => false) mixed ?_)
    have := printF_len (x6 * 65536 + x7) (by omega)
    simp (disch := omega) only [↓reduceIte, go_sem, List.length_cons, List.length_nil] <;> repeat with_reducible refine And.intro (by first | omega | decide) ?_
    exact fin_drop (.inr rfl) hb (by simp [retV]) (by simp)
  | false =>
    rw [hm] at hmi
    simp only [Bool.false_eq_true, if_false]
    by_cases h0 : r.2 = 0
    · rw [if_pos h0]
      simp (disch := omega) only [↓reduceIte, go_sem, hl, g6, g7, t8, tg, hmi, h0] <;> repeat with_reducible refine And.intro (by first | omega | decide) ?_
      have hx := c_six_hex (H := H ++ [some (.cells 0 (u16s gs))]) hG.app (grp_all hl hle)
      rw [hl] at hx
      refine hx.mono ?_
      rintro r' H' ⟨rfl, rfl⟩
      refine go 200 (fun _ => false) mixed ?_
      simp (disch := omega) only [↓reduceIte, go_sem] <;> repeat with_reducible refine And.intro (by first | omega | decide) ?_
      exact fin_drop (.inr rfl) hb rfl (by simp)
    · rw [if_neg h0]
      have hx := c_six_hex (H := H ++ [some (.cells 0 (u16s gs))]) hG.app (grp_take hl hle r.1)
      rw [List.length_take, hl, Nat.min_eq_left (by omega)] at hx
      have hy := c_six_hex (H := H ++ [some (.cells 0 (u16s gs))]) hG.app (grp_drop hl hle (r.1 + r.2) hr8)
      rw [List.length_drop, hl] at hy
      have l1 := rowF_len (gs.take r.1) (fun g hg => hle g (List.mem_of_mem_take hg))
      have l2 := rowF_len (gs.drop (r.1 + r.2)) (fun g hg => hle g (List.mem_of_mem_drop hg))
      rw [List.length_take, hl] at l1
      rw [List.length_drop, hl] at l2
      simp (disch := omega) only [↓reduceIte, go_sem, hl, g6, g7, t8, tg, hmi, h0, Nat.sub_zero] <;> repeat with_reducible refine And.intro (by first | omega | decide) ?_
      refine ⟨_, hx, go 200 (fun _ => false) mixed ?_⟩
      simp (disch := omega) only [↓reduceIte, go_sem, List.length_append, List.length_cons, List.length_nil] <;> repeat with_reducible refine And.intro (by first | omega | decide) ?_
      refine ⟨_, hy, go 200 (fun _ => false) mixed ?_⟩
      simp (disch := omega) only [↓reduceIte, go_sem, List.length_append, List.length_cons, List.length_nil] <;> repeat with_reducible refine And.intro (by first | omega | decide) ?_
      exact fin_drop (.inr rfl) hb rfl (by simp)
end Go.Proofs.GoC
