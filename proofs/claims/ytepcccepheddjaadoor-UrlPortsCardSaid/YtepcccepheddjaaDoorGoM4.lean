/-
  What the functions compute: the address of 128 bits of a text. No claim by itself.
-/
import Derived.Test.YtepcccepheddjaaDoorGoM3
namespace Go.Proofs.GoC
open Go Go.Proofs.SL
set_option linter.unusedSimpArgs false
set_option linter.unusedVariables false
set_option maxRecDepth 10000
set_option maxHeartbeats 2000000

theorem GTab.maxLen {H : Heap} (h : GTab H) {β : Nat → Option Nat} {w : World} (hI : SL.Inv β H w) : ∃ m, w.cell? ⟨0, 0, none⟩ = some (.int .i64 m) := by
  obtain ⟨cs, t, fz, ⟨m, rfl⟩, h2⟩ := h.len 0 (by kernel_rfl)
  exact ⟨m, by simp [World.cell?, h2.block hI]⟩

def cutV (x : List UInt8 × List UInt8 × Bool) : PV := .tup [.str (bs x.1), .str (bs x.2.1), .bool x.2.2]

theorem c_strings_Cut (l sep : List UInt8) (hl : l.length < 1000000) : GCall 9 [.str (bs l), .str (bs sep)] (cutV (Lib.cut l sep)) := by
  intro H hG
  refine scall_lift Tryd.func9 rfl (by kernel_rfl) fun β w vs hI hs hv => ?_
  obtain ⟨v, u, rfl, h1, h2⟩ := vals2 hs hv
  rw [h1.str_inv, h2.str_inv]
  obtain ⟨m, hm⟩ := hG.maxLen hI
  refine (Tryd.strings_Cut (bs l) (bs sep) m w (by rw [bs_size]; omega) hm).mono fun e w' ⟨he, n, hw⟩ => ⟨_, he, ?_, fun β' w2 => ?_⟩
  · rw [hw]; exact ⟨rfl, rfl, rfl, Nat.le_refl _, fun _ _ => rfl⟩
  · rw [show (bs l).data.toList = l by simp [bs], show (bs sep).data.toList = sep by simp [bs]]
    refine .tup _ _ rfl fun i v p hv hp => ?_
    rcases i with _ | _ | _ | i
    · cases hv; cases hp; exact .str _
    · cases hv; cases hp; exact .str _
    · cases hv; cases hp; exact .bool _
    · simp at hv

theorem take_u16s {ns : List Nat} : List.take ns.length (u16s ns) = u16s ns := List.take_of_length_le (by rw [u16s_len]; exact Nat.le_refl _)
theorem app_u16s {a b : List Nat} : u16s a ++ u16s b = u16s (a ++ b) := by simp [u16s]
def zz : List Nat := [0, 0, 0, 0, 0, 0, 0, 0]
theorem zlit : [PV.int IntKind.u16 0, PV.int IntKind.u16 0, PV.int IntKind.u16 0, PV.int IntKind.u16 0, PV.int IntKind.u16 0, PV.int IntKind.u16 0, PV.int IntKind.u16 0, PV.int IntKind.u16 0] = u16s zz := rfl
theorem d8 : zz.drop 8 = [] := rfl
theorem zz_len : zz.length = 8 := rfl
theorem takes_u16s {n : Nat} {l : List Nat} : List.take n (u16s l) = u16s (l.take n) := by simp [u16s, List.map_take]
theorem drops_u16s {n : Nat} {l : List Nat} : List.drop n (u16s l) = u16s (l.drop n) := by simp [u16s, List.map_drop]
theorem zz_drop (n : Nat) : zz.drop n = List.replicate (8 - n) 0 := by
  rw [show zz = List.replicate 8 0 from rfl, List.drop_replicate]
theorem mid (ns ms : List Nat) (h : ns.length + ms.length ≤ 8) : List.take (8 - ms.length) (ns ++ List.drop ns.length zz) ++ ms ++ List.drop 8 (ns ++ List.drop ns.length zz) = ns ++ List.replicate (8 - (ns.length + ms.length)) 0 ++ ms := by
  have h1 : List.drop 8 (ns ++ List.drop ns.length zz) = [] := List.drop_eq_nil_of_le (by rw [List.length_append, List.length_drop, zz_len]; omega)
  rw [h1, List.append_nil, zz_drop, List.take_append, List.take_of_length_le (by omega), List.take_replicate, show min (8 - ms.length - ns.length) (8 - ns.length) = 8 - (ns.length + ms.length) by omega]
theorem copy_u16s {ns : List Nat} : ((u16s ns).all fun x => decide (x.cells.length = 1) && x.cells.all PV.one) = true := by
  simp [u16s, PV.cells, PV.one]

theorem parseV_bdd (x : Option (List Nat)) {n : Nat} : Bdd n (parseV x) := by
  cases x with
  | none =>
    refine bdd_tup.mpr fun q hq => ?_
    simp only [List.mem_cons, List.not_mem_nil, or_false] at hq
    rcases hq with rfl | rfl
    · exact bdd_agg.mpr u16s_bdd
    · exact .bool _
  | some gs =>
    refine bdd_tup.mpr fun q hq => ?_
    simp only [List.mem_cons, List.not_mem_nil, or_false] at hq
    rcases hq with rfl | rfl
    · exact bdd_agg.mpr u16s_bdd
    · exact .bool _

theorem groups_len (last : Bool) : ∀ (ps : List (List UInt8)) (l : List Nat), groupsGo last ps = some l → l.length ≤ 2 * ps.length
  | [], l, h => by simp only [groupsGo, Option.some.injEq] at h; subst h; simp
  | p :: ps, l, h => by
    simp only [groupsGo] at h
    split at h
    · cases h
    · rename_i m hm
      cases hg : groupsGo last ps with
      | none => rw [hg] at h; cases h
      | some k =>
        rw [hg] at h
        simp only [Option.map_some, Option.some.injEq] at h
        have h1 := groups_len last ps k hg
        have h2 := (part6_ne hm).2
        subst h
        simp only [List.length_append, List.length_cons]; omega

theorem groups_short (last : Bool) (s : List UInt8) (hs : s.length < 1000000) (l : List Nat) (h : groupsF last s = some l) : l.length ≤ 2000000 := by
  unfold groupsF at h
  split at h
  · cases h; simp
  · have h1 := groups_len last _ l h
    have h2 := splitA_len 58 s [] []
    simp only [List.length_nil] at h2; omega

theorem c_six_Parse (s : List UInt8) (hl : s.length < 1000000) : GCall 28 [.str (bs s)] (parseV (parseF s)) := by
  intro H hG
  refine scall_ofc (ord := fun _ => []) (tdOf_ok _) (rs := [.cell 2 57, .tmp 3]) Tryd.func28 rfl (by kernel_rfl) (by kernel_rfl) (by kernel_rfl) Tryd.ntmps28 fun hb hargs => go 200 (fun _ => false) mixed ?_
  simp (disch := omega) only [↓reduceIte, go_sem] <;> repeat with_reducible refine And.intro (by first | omega | decide) ?_
  refine (c_strings_Cut s [58, 58] hl).on hG.app (go 200 (fun _ => false) mixed ?_)
  unfold parseF cutV
  have hc1 : (Lib.cut s [58, 58]).1.length < 1000000 := by
    unfold Lib.cut; split
    · simp only [List.length_take]; omega
    · exact hl
  have hc2 : (Lib.cut s [58, 58]).2.1.length < 1000000 := by
    unfold Lib.cut; split
    · simp only [List.length_drop]; omega
    · simp
  generalize (Lib.cut s [58, 58]).1 = l at *
  generalize (Lib.cut s [58, 58]).2.1 = r at *
  generalize (Lib.cut s [58, 58]).2.2 = c at *
  simp (disch := omega) only [↓reduceIte, go_sem] <;> repeat with_reducible refine And.intro (by first | omega | decide) ?_
  refine (c_six_row (!c) l hc1).on hG.app (go 200 (fun _ => false) mixed ?_)
  have hla := groups_short (!c) l hc1
  have hlb := groups_short true r hc2
  generalize groupsF (!c) l = a at *
  have rv : ∀ x : List Nat, x ≠ [] → rowV (some x) = .tup [.sl 1 (u16s x), .bool true] := fun x hx => by
    cases x with
    | nil => exact absurd rfl hx
    | cons a l => rfl
  rcases a with _ | ns
  · simp only [rowV]
    simp (disch := omega) only [↓reduceIte, go_sem] <;> repeat with_reducible refine And.intro (by first | omega | decide) ?_
    refine (c_six_row true r hc2).on hG.app (go 200 (fun _ => false) mixed ?_)
    generalize groupsF true r = b at *
    rcases b with _ | ms
    · simp only [rowV]
      cases c with
      | true =>
        have hp : parse2 true none none = none := rfl
        simp (disch := omega) only [↓reduceIte, go_sem, zlit, takes_u16s, drops_u16s, app_u16s, zz_len, List.length_append, List.length_take, List.length_drop, List.length_nil, Nat.zero_add, Nat.add_zero] <;> repeat with_reducible refine And.intro (by first | omega | decide) ?_
        rw [hp]
        refine fin_c (.inr rfl) hb ?_ (parseV_bdd _)
        simp (disch := omega) only [↓reduceIte, go_sem, parseV, zlit, takes_u16s, drops_u16s, app_u16s, zz_len, List.length_append, List.length_take, List.length_drop, List.length_nil, Nat.zero_add, Nat.add_zero] <;> repeat with_reducible refine And.intro (by first | omega | decide) ?_
        rfl
      | false =>
        have hp : parse2 false none none = none := rfl
        simp (disch := omega) only [↓reduceIte, go_sem, zlit, takes_u16s, drops_u16s, app_u16s, zz_len, List.length_append, List.length_take, List.length_drop, List.length_nil, Nat.zero_add, Nat.add_zero] <;> repeat with_reducible refine And.intro (by first | omega | decide) ?_
        rw [hp]
        refine fin_c (.inr rfl) hb ?_ (parseV_bdd _)
        simp (disch := omega) only [↓reduceIte, go_sem, parseV, zlit, takes_u16s, drops_u16s, app_u16s, zz_len, List.length_append, List.length_take, List.length_drop, List.length_nil, Nat.zero_add, Nat.add_zero] <;> repeat with_reducible refine And.intro (by first | omega | decide) ?_
        rfl
    · by_cases hms : ms = []
      · subst hms
        simp only [rowV]
        cases c with
        | true =>
          have hp : parse2 true none (some []) = none := rfl
          simp (disch := omega) only [↓reduceIte, go_sem, zlit, takes_u16s, drops_u16s, app_u16s, zz_len, List.length_append, List.length_take, List.length_drop, List.length_nil, Nat.zero_add, Nat.add_zero] <;> repeat with_reducible refine And.intro (by first | omega | decide) ?_
          rw [hp]
          refine fin_c (.inr rfl) hb ?_ (parseV_bdd _)
          simp (disch := omega) only [↓reduceIte, go_sem, parseV, zlit, takes_u16s, drops_u16s, app_u16s, zz_len, List.length_append, List.length_take, List.length_drop, List.length_nil, Nat.zero_add, Nat.add_zero] <;> repeat with_reducible refine And.intro (by first | omega | decide) ?_
          rfl
        | false =>
          have hp : parse2 false none (some []) = none := rfl
          simp (disch := omega) only [↓reduceIte, go_sem, zlit, takes_u16s, drops_u16s, app_u16s, zz_len, List.length_append, List.length_take, List.length_drop, List.length_nil, Nat.zero_add, Nat.add_zero] <;> repeat with_reducible refine And.intro (by first | omega | decide) ?_
          rw [hp]
          refine fin_c (.inr rfl) hb ?_ (parseV_bdd _)
          simp (disch := omega) only [↓reduceIte, go_sem, parseV, zlit, takes_u16s, drops_u16s, app_u16s, zz_len, List.length_append, List.length_take, List.length_drop, List.length_nil, Nat.zero_add, Nat.add_zero] <;> repeat with_reducible refine And.intro (by first | omega | decide) ?_
          rfl
      · rw [rv ms hms]
        cases c with
        | true =>
          have hp : parse2 true none (some ms) = none := rfl
          simp (disch := omega) only [↓reduceIte, go_sem, zlit, takes_u16s, drops_u16s, app_u16s, zz_len, List.length_append, List.length_take, List.length_drop, List.length_nil, Nat.zero_add, Nat.add_zero] <;> repeat with_reducible refine And.intro (by first | omega | decide) ?_
          rw [hp]
          refine fin_c (.inr rfl) hb ?_ (parseV_bdd _)
          simp (disch := omega) only [↓reduceIte, go_sem, parseV, zlit, takes_u16s, drops_u16s, app_u16s, zz_len, List.length_append, List.length_take, List.length_drop, List.length_nil, Nat.zero_add, Nat.add_zero] <;> repeat with_reducible refine And.intro (by first | omega | decide) ?_
          rfl
        | false =>
          have hp : parse2 false none (some ms) = none := rfl
          simp (disch := omega) only [↓reduceIte, go_sem, zlit, takes_u16s, drops_u16s, app_u16s, zz_len, List.length_append, List.length_take, List.length_drop, List.length_nil, Nat.zero_add, Nat.add_zero] <;> repeat with_reducible refine And.intro (by first | omega | decide) ?_
          rw [hp]
          refine fin_c (.inr rfl) hb ?_ (parseV_bdd _)
          simp (disch := omega) only [↓reduceIte, go_sem, parseV, zlit, takes_u16s, drops_u16s, app_u16s, zz_len, List.length_append, List.length_take, List.length_drop, List.length_nil, Nat.zero_add, Nat.add_zero] <;> repeat with_reducible refine And.intro (by first | omega | decide) ?_
          rfl
  · by_cases hns : ns = []
    · subst hns
      simp only [rowV]
      simp (disch := omega) only [↓reduceIte, go_sem] <;> repeat with_reducible refine And.intro (by first | omega | decide) ?_
      refine (c_six_row true r hc2).on hG.app (go 200 (fun _ => false) mixed ?_)
      generalize groupsF true r = b at *
      rcases b with _ | ms
      · simp only [rowV]
        cases c with
        | true =>
          have hp : parse2 true (some []) none = none := rfl
          simp (disch := omega) only [↓reduceIte, go_sem, zlit, takes_u16s, drops_u16s, app_u16s, zz_len, List.length_append, List.length_take, List.length_drop, List.length_nil, Nat.zero_add, Nat.add_zero] <;> repeat with_reducible refine And.intro (by first | omega | decide) ?_
          rw [hp]
          refine fin_c (.inr rfl) hb ?_ (parseV_bdd _)
          simp (disch := omega) only [↓reduceIte, go_sem, parseV, zlit, takes_u16s, drops_u16s, app_u16s, zz_len, List.length_append, List.length_take, List.length_drop, List.length_nil, Nat.zero_add, Nat.add_zero] <;> repeat with_reducible refine And.intro (by first | omega | decide) ?_
          rfl
        | false =>
          have hp : parse2 false (some []) none = none := rfl
          simp (disch := omega) only [↓reduceIte, go_sem, zlit, takes_u16s, drops_u16s, app_u16s, zz_len, List.length_append, List.length_take, List.length_drop, List.length_nil, Nat.zero_add, Nat.add_zero] <;> repeat with_reducible refine And.intro (by first | omega | decide) ?_
          rw [hp]
          refine fin_c (.inr rfl) hb ?_ (parseV_bdd _)
          simp (disch := omega) only [↓reduceIte, go_sem, parseV, zlit, takes_u16s, drops_u16s, app_u16s, zz_len, List.length_append, List.length_take, List.length_drop, List.length_nil, Nat.zero_add, Nat.add_zero] <;> repeat with_reducible refine And.intro (by first | omega | decide) ?_
          rfl
      · by_cases hms : ms = []
        · subst hms
          simp only [rowV]
          cases c with
          | true =>
            have hp : parse2 true (some []) (some []) = some ([] ++ List.replicate (8 - (0 + 0)) 0 ++ []) := rfl
            simp (disch := omega) only [↓reduceIte, go_sem, zlit, takes_u16s, drops_u16s, app_u16s, zz_len, List.length_append, List.length_take, List.length_drop, List.length_nil, Nat.zero_add, Nat.add_zero] <;> repeat with_reducible refine And.intro (by first | omega | decide) ?_
            rw [hp]
            refine fin_c (.inr rfl) hb ?_ (parseV_bdd _)
            simp (disch := omega) only [↓reduceIte, go_sem, parseV, zlit, takes_u16s, drops_u16s, app_u16s, zz_len, List.length_append, List.length_take, List.length_drop, List.length_nil, Nat.zero_add, Nat.add_zero] <;> repeat with_reducible refine And.intro (by first | omega | decide) ?_
            rfl
          | false =>
            have hp : parse2 false (some []) (some []) = none := rfl
            simp (disch := omega) only [↓reduceIte, go_sem, zlit, takes_u16s, drops_u16s, app_u16s, zz_len, List.length_append, List.length_take, List.length_drop, List.length_nil, Nat.zero_add, Nat.add_zero] <;> repeat with_reducible refine And.intro (by first | omega | decide) ?_
            rw [hp]
            refine fin_c (.inr rfl) hb ?_ (parseV_bdd _)
            simp (disch := omega) only [↓reduceIte, go_sem, parseV, zlit, takes_u16s, drops_u16s, app_u16s, zz_len, List.length_append, List.length_take, List.length_drop, List.length_nil, Nat.zero_add, Nat.add_zero] <;> repeat with_reducible refine And.intro (by first | omega | decide) ?_
            rfl
        · rw [rv ms hms]
          cases c with
          | true =>
            by_cases h8 : ([] : List Nat).length + (ms : List Nat).length < 8
            · have hlA : ([] : List Nat).length ≤ 2000000 := by first | exact hla _ rfl | simp
              have hlB : (ms : List Nat).length ≤ 2000000 := by first | exact hlb _ rfl | simp
              have hp : parse2 true (some []) (some ms) = some (([] : List Nat) ++ List.replicate (8 - (([] : List Nat).length + (ms : List Nat).length)) 0 ++ (ms : List Nat)) := by simp only [parse2, Bool.false_eq_true, if_false, if_true]; rw [if_pos h8]
              have hm := mid ([] : List Nat) (ms : List Nat) (by omega)
              have k1 : ¬ 8 ≤ ms.length := by (try simp only [List.length_nil, Nat.zero_add, Nat.add_zero] at h8); omega
              have k2 : ([] : List Nat).length ≤ 8 := by omega
              have k3 : (ms : List Nat).length ≤ 8 := by omega
              have k4 : 8 - (8 - (ms : List Nat).length) = (ms : List Nat).length := by omega
              have k5 : 8 - (ms : List Nat).length + (ms : List Nat).length = 8 := by omega
              have ca : True := trivial
              have cb := copy_u16s (ns := ms)
              simp only [PV.cells] at cb
              simp (disch := omega) only [↓reduceIte, go_sem, k1, zlit, takes_u16s, drops_u16s, app_u16s, zz_len, List.length_append, List.length_take, List.length_drop, List.length_nil, Nat.zero_add, Nat.add_zero, k4, k5, Nat.min_self, ca, cb] <;> repeat with_reducible refine And.intro (by first | omega | decide) ?_
              rw [hp]
              refine fin_c (.inr rfl) hb ?_ (parseV_bdd _)
              simp (disch := omega) only [↓reduceIte, go_sem, parseV, zlit, takes_u16s, drops_u16s, app_u16s, zz_len, List.length_append, List.length_take, List.length_drop, List.length_nil, Nat.zero_add, Nat.add_zero, k4, k5, Nat.min_self] <;> repeat with_reducible refine And.intro (by first | omega | decide) ?_
              congr 3
              simp only [List.length_nil, List.drop_zero, List.nil_append, Nat.zero_add] at hm
              rw [List.take_length, hm, d8, List.append_nil, List.take_of_length_le (by simp; omega), List.take_of_length_le (by simp; omega)]
            · have hlA : ([] : List Nat).length ≤ 2000000 := by first | exact hla _ rfl | simp
              have hlB : (ms : List Nat).length ≤ 2000000 := by first | exact hlb _ rfl | simp
              have hp : parse2 true (some []) (some ms) = none := by simp only [parse2, Bool.false_eq_true, if_false, if_true]; rw [if_neg h8]
              have k1 : 8 ≤ ms.length := by (try simp only [List.length_nil, Nat.zero_add, Nat.add_zero] at h8); omega
              simp (disch := omega) only [↓reduceIte, go_sem, k1, zlit, takes_u16s, drops_u16s, app_u16s, zz_len, List.length_append, List.length_take, List.length_drop, List.length_nil, Nat.zero_add, Nat.add_zero] <;> repeat with_reducible refine And.intro (by first | omega | decide) ?_
              rw [hp]
              refine fin_c (.inr rfl) hb ?_ (parseV_bdd _)
              simp (disch := omega) only [↓reduceIte, go_sem, parseV, zlit, takes_u16s, drops_u16s, app_u16s, zz_len, List.length_append, List.length_take, List.length_drop, List.length_nil, Nat.zero_add, Nat.add_zero] <;> repeat with_reducible refine And.intro (by first | omega | decide) ?_
              rfl
          | false =>
            by_cases h8 : ([] : List Nat).length + (ms : List Nat).length = 8
            · have hlA : ([] : List Nat).length ≤ 2000000 := by first | exact hla _ rfl | simp
              have hlB : (ms : List Nat).length ≤ 2000000 := by first | exact hlb _ rfl | simp
              have hp : parse2 false (some []) (some ms) = some (([] : List Nat) ++ List.replicate (8 - (([] : List Nat).length + (ms : List Nat).length)) 0 ++ (ms : List Nat)) := by simp only [parse2, Bool.false_eq_true, if_false, if_true]; rw [if_pos h8]
              have hm := mid ([] : List Nat) (ms : List Nat) (by omega)
              have k1 : ms.length = 8 := by (try simp only [List.length_nil, Nat.zero_add, Nat.add_zero] at h8); omega
              have k2 : ([] : List Nat).length ≤ 8 := by omega
              have k3 : (ms : List Nat).length ≤ 8 := by omega
              have k4 : 8 - (8 - (ms : List Nat).length) = (ms : List Nat).length := by omega
              have k5 : 8 - (ms : List Nat).length + (ms : List Nat).length = 8 := by omega
              have ca : True := trivial
              have cb := copy_u16s (ns := ms)
              simp only [PV.cells] at cb
              simp (disch := omega) only [↓reduceIte, go_sem, k1, zlit, takes_u16s, drops_u16s, app_u16s, zz_len, List.length_append, List.length_take, List.length_drop, List.length_nil, Nat.zero_add, Nat.add_zero, k4, k5, Nat.min_self, ca, cb] <;> repeat with_reducible refine And.intro (by first | omega | decide) ?_
              rw [hp]
              refine fin_c (.inr rfl) hb ?_ (parseV_bdd _)
              simp (disch := omega) only [↓reduceIte, go_sem, parseV, zlit, takes_u16s, drops_u16s, app_u16s, zz_len, List.length_append, List.length_take, List.length_drop, List.length_nil, Nat.zero_add, Nat.add_zero, k4, k5, Nat.min_self] <;> repeat with_reducible refine And.intro (by first | omega | decide) ?_
              congr 3
              simp [d8, k1, List.take_of_length_le]
            · have hlA : ([] : List Nat).length ≤ 2000000 := by first | exact hla _ rfl | simp
              have hlB : (ms : List Nat).length ≤ 2000000 := by first | exact hlb _ rfl | simp
              have hp : parse2 false (some []) (some ms) = none := by simp only [parse2, Bool.false_eq_true, if_false, if_true]; rw [if_neg h8]
              have k1 : ¬ ms.length = 8 := by (try simp only [List.length_nil, Nat.zero_add, Nat.add_zero] at h8); omega
              simp (disch := omega) only [↓reduceIte, go_sem, k1, zlit, takes_u16s, drops_u16s, app_u16s, zz_len, List.length_append, List.length_take, List.length_drop, List.length_nil, Nat.zero_add, Nat.add_zero] <;> repeat with_reducible refine And.intro (by first | omega | decide) ?_
              rw [hp]
              refine fin_c (.inr rfl) hb ?_ (parseV_bdd _)
              simp (disch := omega) only [↓reduceIte, go_sem, parseV, zlit, takes_u16s, drops_u16s, app_u16s, zz_len, List.length_append, List.length_take, List.length_drop, List.length_nil, Nat.zero_add, Nat.add_zero] <;> repeat with_reducible refine And.intro (by first | omega | decide) ?_
              rfl
    · rw [rv ns hns]
      simp (disch := omega) only [↓reduceIte, go_sem] <;> repeat with_reducible refine And.intro (by first | omega | decide) ?_
      refine (c_six_row true r hc2).on hG.app (go 200 (fun _ => false) mixed ?_)
      generalize groupsF true r = b at *
      rcases b with _ | ms
      · simp only [rowV]
        cases c with
        | true =>
          have hp : parse2 true (some ns) none = none := rfl
          simp (disch := omega) only [↓reduceIte, go_sem, zlit, takes_u16s, drops_u16s, app_u16s, zz_len, List.length_append, List.length_take, List.length_drop, List.length_nil, Nat.zero_add, Nat.add_zero] <;> repeat with_reducible refine And.intro (by first | omega | decide) ?_
          rw [hp]
          refine fin_c (.inr rfl) hb ?_ (parseV_bdd _)
          simp (disch := omega) only [↓reduceIte, go_sem, parseV, zlit, takes_u16s, drops_u16s, app_u16s, zz_len, List.length_append, List.length_take, List.length_drop, List.length_nil, Nat.zero_add, Nat.add_zero] <;> repeat with_reducible refine And.intro (by first | omega | decide) ?_
          rfl
        | false =>
          have hp : parse2 false (some ns) none = none := rfl
          simp (disch := omega) only [↓reduceIte, go_sem, zlit, takes_u16s, drops_u16s, app_u16s, zz_len, List.length_append, List.length_take, List.length_drop, List.length_nil, Nat.zero_add, Nat.add_zero] <;> repeat with_reducible refine And.intro (by first | omega | decide) ?_
          rw [hp]
          refine fin_c (.inr rfl) hb ?_ (parseV_bdd _)
          simp (disch := omega) only [↓reduceIte, go_sem, parseV, zlit, takes_u16s, drops_u16s, app_u16s, zz_len, List.length_append, List.length_take, List.length_drop, List.length_nil, Nat.zero_add, Nat.add_zero] <;> repeat with_reducible refine And.intro (by first | omega | decide) ?_
          rfl
      · by_cases hms : ms = []
        · subst hms
          simp only [rowV]
          cases c with
          | true =>
            by_cases h8 : (ns : List Nat).length + ([] : List Nat).length < 8
            · have hlA : (ns : List Nat).length ≤ 2000000 := by first | exact hla _ rfl | simp
              have hlB : ([] : List Nat).length ≤ 2000000 := by first | exact hlb _ rfl | simp
              have hp : parse2 true (some ns) (some []) = some ((ns : List Nat) ++ List.replicate (8 - ((ns : List Nat).length + ([] : List Nat).length)) 0 ++ ([] : List Nat)) := by simp only [parse2, Bool.false_eq_true, if_false, if_true]; rw [if_pos h8]
              have hm := mid (ns : List Nat) ([] : List Nat) (by omega)
              have k1 : ¬ 8 ≤ ns.length := by (try simp only [List.length_nil, Nat.zero_add, Nat.add_zero] at h8); omega
              have k2 : (ns : List Nat).length ≤ 8 := by omega
              have k3 : ([] : List Nat).length ≤ 8 := by omega
              have k4 : 8 - (8 - ([] : List Nat).length) = ([] : List Nat).length := by omega
              have k5 : 8 - ([] : List Nat).length + ([] : List Nat).length = 8 := by omega
              have ca := copy_u16s (ns := ns)
              simp only [PV.cells] at ca
              have cb : True := trivial
              simp (disch := omega) only [↓reduceIte, go_sem, k1, zlit, takes_u16s, drops_u16s, app_u16s, zz_len, List.length_append, List.length_take, List.length_drop, List.length_nil, Nat.zero_add, Nat.add_zero, k4, k5, Nat.min_self, ca, cb] <;> repeat with_reducible refine And.intro (by first | omega | decide) ?_
              rw [hp]
              refine fin_c (.inr rfl) hb ?_ (parseV_bdd _)
              simp (disch := omega) only [↓reduceIte, go_sem, parseV, zlit, takes_u16s, drops_u16s, app_u16s, zz_len, List.length_append, List.length_take, List.length_drop, List.length_nil, Nat.zero_add, Nat.add_zero, k4, k5, Nat.min_self] <;> repeat with_reducible refine And.intro (by first | omega | decide) ?_
              congr 3
              rw [List.take_append_drop, List.take_length, d8, List.append_nil, zz_drop, List.take_of_length_le (by simp; omega), List.take_of_length_le (by simp; omega)]
            · have hlA : (ns : List Nat).length ≤ 2000000 := by first | exact hla _ rfl | simp
              have hlB : ([] : List Nat).length ≤ 2000000 := by first | exact hlb _ rfl | simp
              have hp : parse2 true (some ns) (some []) = none := by simp only [parse2, Bool.false_eq_true, if_false, if_true]; rw [if_neg h8]
              have k1 : 8 ≤ ns.length := by (try simp only [List.length_nil, Nat.zero_add, Nat.add_zero] at h8); omega
              simp (disch := omega) only [↓reduceIte, go_sem, k1, zlit, takes_u16s, drops_u16s, app_u16s, zz_len, List.length_append, List.length_take, List.length_drop, List.length_nil, Nat.zero_add, Nat.add_zero] <;> repeat with_reducible refine And.intro (by first | omega | decide) ?_
              rw [hp]
              refine fin_c (.inr rfl) hb ?_ (parseV_bdd _)
              simp (disch := omega) only [↓reduceIte, go_sem, parseV, zlit, takes_u16s, drops_u16s, app_u16s, zz_len, List.length_append, List.length_take, List.length_drop, List.length_nil, Nat.zero_add, Nat.add_zero] <;> repeat with_reducible refine And.intro (by first | omega | decide) ?_
              rfl
          | false =>
            by_cases h8 : (ns : List Nat).length + ([] : List Nat).length = 8
            · have hlA : (ns : List Nat).length ≤ 2000000 := by first | exact hla _ rfl | simp
              have hlB : ([] : List Nat).length ≤ 2000000 := by first | exact hlb _ rfl | simp
              have hp : parse2 false (some ns) (some []) = some ((ns : List Nat) ++ List.replicate (8 - ((ns : List Nat).length + ([] : List Nat).length)) 0 ++ ([] : List Nat)) := by simp only [parse2, Bool.false_eq_true, if_false, if_true]; rw [if_pos h8]
              have hm := mid (ns : List Nat) ([] : List Nat) (by omega)
              have k1 : ns.length = 8 := by (try simp only [List.length_nil, Nat.zero_add, Nat.add_zero] at h8); omega
              have k2 : (ns : List Nat).length ≤ 8 := by omega
              have k3 : ([] : List Nat).length ≤ 8 := by omega
              have k4 : 8 - (8 - ([] : List Nat).length) = ([] : List Nat).length := by omega
              have k5 : 8 - ([] : List Nat).length + ([] : List Nat).length = 8 := by omega
              have ca := copy_u16s (ns := ns)
              simp only [PV.cells] at ca
              have cb : True := trivial
              simp (disch := omega) only [↓reduceIte, go_sem, k1, zlit, takes_u16s, drops_u16s, app_u16s, zz_len, List.length_append, List.length_take, List.length_drop, List.length_nil, Nat.zero_add, Nat.add_zero, k4, k5, Nat.min_self, ca, cb] <;> repeat with_reducible refine And.intro (by first | omega | decide) ?_
              rw [hp]
              refine fin_c (.inr rfl) hb ?_ (parseV_bdd _)
              simp (disch := omega) only [↓reduceIte, go_sem, parseV, zlit, takes_u16s, drops_u16s, app_u16s, zz_len, List.length_append, List.length_take, List.length_drop, List.length_nil, Nat.zero_add, Nat.add_zero, k4, k5, Nat.min_self] <;> repeat with_reducible refine And.intro (by first | omega | decide) ?_
              congr 3
              simp [d8, k1, List.take_of_length_le, List.drop_eq_nil_of_le k2]
            · have hlA : (ns : List Nat).length ≤ 2000000 := by first | exact hla _ rfl | simp
              have hlB : ([] : List Nat).length ≤ 2000000 := by first | exact hlb _ rfl | simp
              have hp : parse2 false (some ns) (some []) = none := by simp only [parse2, Bool.false_eq_true, if_false, if_true]; rw [if_neg h8]
              have k1 : ¬ ns.length = 8 := by (try simp only [List.length_nil, Nat.zero_add, Nat.add_zero] at h8); omega
              simp (disch := omega) only [↓reduceIte, go_sem, k1, zlit, takes_u16s, drops_u16s, app_u16s, zz_len, List.length_append, List.length_take, List.length_drop, List.length_nil, Nat.zero_add, Nat.add_zero] <;> repeat with_reducible refine And.intro (by first | omega | decide) ?_
              rw [hp]
              refine fin_c (.inr rfl) hb ?_ (parseV_bdd _)
              simp (disch := omega) only [↓reduceIte, go_sem, parseV, zlit, takes_u16s, drops_u16s, app_u16s, zz_len, List.length_append, List.length_take, List.length_drop, List.length_nil, Nat.zero_add, Nat.add_zero] <;> repeat with_reducible refine And.intro (by first | omega | decide) ?_
              rfl
        · rw [rv ms hms]
          cases c with
          | true =>
            by_cases h8 : (ns : List Nat).length + (ms : List Nat).length < 8
            · have hlA : (ns : List Nat).length ≤ 2000000 := by first | exact hla _ rfl | simp
              have hlB : (ms : List Nat).length ≤ 2000000 := by first | exact hlb _ rfl | simp
              have hp : parse2 true (some ns) (some ms) = some ((ns : List Nat) ++ List.replicate (8 - ((ns : List Nat).length + (ms : List Nat).length)) 0 ++ (ms : List Nat)) := by simp only [parse2, Bool.false_eq_true, if_false, if_true]; rw [if_pos h8]
              have hm := mid (ns : List Nat) (ms : List Nat) (by omega)
              have k1 : ¬ 8 ≤ ns.length + ms.length := by (try simp only [List.length_nil, Nat.zero_add, Nat.add_zero] at h8); omega
              have k2 : (ns : List Nat).length ≤ 8 := by omega
              have k3 : (ms : List Nat).length ≤ 8 := by omega
              have k4 : 8 - (8 - (ms : List Nat).length) = (ms : List Nat).length := by omega
              have k5 : 8 - (ms : List Nat).length + (ms : List Nat).length = 8 := by omega
              have ca := copy_u16s (ns := ns)
              simp only [PV.cells] at ca
              have cb := copy_u16s (ns := ms)
              simp only [PV.cells] at cb
              simp (disch := omega) only [↓reduceIte, go_sem, k1, zlit, takes_u16s, drops_u16s, app_u16s, zz_len, List.length_append, List.length_take, List.length_drop, List.length_nil, Nat.zero_add, Nat.add_zero, k4, k5, Nat.min_self, ca, cb] <;> repeat with_reducible refine And.intro (by first | omega | decide) ?_
              rw [hp]
              refine fin_c (.inr rfl) hb ?_ (parseV_bdd _)
              simp (disch := omega) only [↓reduceIte, go_sem, parseV, zlit, takes_u16s, drops_u16s, app_u16s, zz_len, List.length_append, List.length_take, List.length_drop, List.length_nil, Nat.zero_add, Nat.add_zero, k4, k5, Nat.min_self] <;> repeat with_reducible refine And.intro (by first | omega | decide) ?_
              congr 3
              rw [List.take_length, List.take_length, hm, d8, List.append_nil, List.take_of_length_le (by simp; omega), List.take_of_length_le (by simp; omega)]
            · have hlA : (ns : List Nat).length ≤ 2000000 := by first | exact hla _ rfl | simp
              have hlB : (ms : List Nat).length ≤ 2000000 := by first | exact hlb _ rfl | simp
              have hp : parse2 true (some ns) (some ms) = none := by simp only [parse2, Bool.false_eq_true, if_false, if_true]; rw [if_neg h8]
              have k1 : 8 ≤ ns.length + ms.length := by (try simp only [List.length_nil, Nat.zero_add, Nat.add_zero] at h8); omega
              simp (disch := omega) only [↓reduceIte, go_sem, k1, zlit, takes_u16s, drops_u16s, app_u16s, zz_len, List.length_append, List.length_take, List.length_drop, List.length_nil, Nat.zero_add, Nat.add_zero] <;> repeat with_reducible refine And.intro (by first | omega | decide) ?_
              rw [hp]
              refine fin_c (.inr rfl) hb ?_ (parseV_bdd _)
              simp (disch := omega) only [↓reduceIte, go_sem, parseV, zlit, takes_u16s, drops_u16s, app_u16s, zz_len, List.length_append, List.length_take, List.length_drop, List.length_nil, Nat.zero_add, Nat.add_zero] <;> repeat with_reducible refine And.intro (by first | omega | decide) ?_
              rfl
          | false =>
            by_cases h8 : (ns : List Nat).length + (ms : List Nat).length = 8
            · have hlA : (ns : List Nat).length ≤ 2000000 := by first | exact hla _ rfl | simp
              have hlB : (ms : List Nat).length ≤ 2000000 := by first | exact hlb _ rfl | simp
              have hp : parse2 false (some ns) (some ms) = some ((ns : List Nat) ++ List.replicate (8 - ((ns : List Nat).length + (ms : List Nat).length)) 0 ++ (ms : List Nat)) := by simp only [parse2, Bool.false_eq_true, if_false, if_true]; rw [if_pos h8]
              have hm := mid (ns : List Nat) (ms : List Nat) (by omega)
              have k1 : ns.length + ms.length = 8 := by (try simp only [List.length_nil, Nat.zero_add, Nat.add_zero] at h8); omega
              have k2 : (ns : List Nat).length ≤ 8 := by omega
              have k3 : (ms : List Nat).length ≤ 8 := by omega
              have k4 : 8 - (8 - (ms : List Nat).length) = (ms : List Nat).length := by omega
              have k5 : 8 - (ms : List Nat).length + (ms : List Nat).length = 8 := by omega
              have ca := copy_u16s (ns := ns)
              simp only [PV.cells] at ca
              have cb := copy_u16s (ns := ms)
              simp only [PV.cells] at cb
              simp (disch := omega) only [↓reduceIte, go_sem, k1, zlit, takes_u16s, drops_u16s, app_u16s, zz_len, List.length_append, List.length_take, List.length_drop, List.length_nil, Nat.zero_add, Nat.add_zero, k4, k5, Nat.min_self, ca, cb] <;> repeat with_reducible refine And.intro (by first | omega | decide) ?_
              rw [hp]
              refine fin_c (.inr rfl) hb ?_ (parseV_bdd _)
              simp (disch := omega) only [↓reduceIte, go_sem, parseV, zlit, takes_u16s, drops_u16s, app_u16s, zz_len, List.length_append, List.length_take, List.length_drop, List.length_nil, Nat.zero_add, Nat.add_zero, k4, k5, Nat.min_self] <;> repeat with_reducible refine And.intro (by first | omega | decide) ?_
              congr 3
              rw [List.take_length, List.take_length, hm, d8, List.append_nil, List.take_of_length_le (by simp; omega), List.take_of_length_le (by simp; omega)]
            · have hlA : (ns : List Nat).length ≤ 2000000 := by first | exact hla _ rfl | simp
              have hlB : (ms : List Nat).length ≤ 2000000 := by first | exact hlb _ rfl | simp
              have hp : parse2 false (some ns) (some ms) = none := by simp only [parse2, Bool.false_eq_true, if_false, if_true]; rw [if_neg h8]
              have k1 : ¬ ns.length + ms.length = 8 := by (try simp only [List.length_nil, Nat.zero_add, Nat.add_zero] at h8); omega
              simp (disch := omega) only [↓reduceIte, go_sem, k1, zlit, takes_u16s, drops_u16s, app_u16s, zz_len, List.length_append, List.length_take, List.length_drop, List.length_nil, Nat.zero_add, Nat.add_zero] <;> repeat with_reducible refine And.intro (by first | omega | decide) ?_
              rw [hp]
              refine fin_c (.inr rfl) hb ?_ (parseV_bdd _)
              simp (disch := omega) only [↓reduceIte, go_sem, parseV, zlit, takes_u16s, drops_u16s, app_u16s, zz_len, List.length_append, List.length_take, List.length_drop, List.length_nil, Nat.zero_add, Nat.add_zero] <;> repeat with_reducible refine And.intro (by first | omega | decide) ?_
              rfl
end Go.Proofs.GoC

/-
  What the functions compute: the document's address of 128 bits of a text. No claim by itself.
-/
namespace Go.Proofs.GoC
open Go Go.Proofs.SL
set_option linter.unusedSimpArgs false
set_option linter.unusedVariables false
set_option maxRecDepth 10000
set_option maxHeartbeats 2000000

theorem part6_le {last : Bool} {p : List UInt8} {l : List Nat} (h : part6 last p = some l) : ∀ n ∈ l, n ≤ 65535 := by
  unfold part6 at h
  split at h
  · rename_i n hn
    cases h
    intro x hx
    simp only [List.mem_singleton] at hx
    subst hx; exact hexP_le hn
  · split at h
    · cases hs : strictF p with
      | none => rw [hs] at h; cases h
      | some v =>
        rw [hs] at h; cases h
        have := strictF_le hs
        intro x hx
        simp only [List.mem_cons, List.not_mem_nil, or_false] at hx
        rcases hx with rfl | rfl <;> omega
    · cases h
theorem groups_le (last : Bool) : ∀ (ps : List (List UInt8)) (l : List Nat), groupsGo last ps = some l → ∀ n ∈ l, n ≤ 65535
  | [], l, h => by simp only [groupsGo, Option.some.injEq] at h; subst h; simp
  | p :: ps, l, h => by
    simp only [groupsGo] at h
    split at h
    · cases h
    · rename_i m hm
      cases hg : groupsGo last ps with
      | none => rw [hg] at h; cases h
      | some k =>
        rw [hg] at h
        simp only [Option.map_some, Option.some.injEq] at h
        subst h
        intro x hx
        rcases List.mem_append.mp hx with h | h
        · exact part6_le hm x h
        · exact groups_le last ps k hg x h
theorem groupsF_le (last : Bool) (s : List UInt8) (l : List Nat) (h : groupsF last s = some l) : ∀ n ∈ l, n ≤ 65535 := by
  unfold groupsF at h
  split at h
  · cases h; simp
  · exact groups_le last _ l h

theorem set_copy {base : List Nat} {k : Nat} {v : Nat} (off : Nat) (A : List Nat) (hA : A.length = off + k) (h : off + k < base.length) : (u16s (A ++ base.drop (off + k))).set (off + k) (PV.int IntKind.u16 (v : Nat)) = u16s (A ++ [v] ++ base.drop (off + k + 1)) := by
  have : (A ++ base.drop (off + k)).set (off + k) v = A ++ [v] ++ base.drop (off + k + 1) := by
    rw [List.set_append_right _ _ (by omega), hA, Nat.sub_self, List.drop_eq_getElem_cons h, List.set_cons_zero]
    simp
  rw [← this]
  simp [u16s, List.map_set]

theorem index_room : ∀ (s : List UInt8) (k : Nat), Lib.index s [58, 58] = k → k + 2 ≤ s.length
  | [], k, h => by simp [Lib.index] at h
  | b :: l, k, h => by
    simp only [Lib.index] at h
    split at h
    · rename_i hp
      have hk : k = 0 := by omega
      subst hk
      cases l with
      | nil => simp [List.isPrefixOf] at hp
      | cons c l => simp
    · split at h
      · omega
      · rename_i h1
        have h2 : Lib.index l [58, 58] ≠ -1 := by simpa using h1
        have h3 := Lib.index_ge l [58, 58]
        have := index_room l (Lib.index l [58, 58]).toNat (by omega)
        simp only [List.length_cons]; omega

end Go.Proofs.GoC

/-
  The laws SixParse and SixRound. No claim by itself.
-/
namespace Go.Proofs.GoC
open Go Go.Proofs.SL
set_option linter.unusedSimpArgs false
set_option linter.unusedVariables false
set_option maxRecDepth 10000
set_option maxHeartbeats 2000000

theorem parse2_len {c : Bool} {a b : Option (List Nat)} {gs : List Nat} (h : parse2 c a b = some gs) : gs.length = 8 := by
  cases a with
  | none => cases h
  | some a =>
    cases b with
    | none => cases h
    | some b =>
      simp only [parse2] at h
      cases c with
      | true =>
        simp only [if_true] at h
        split at h
        · simp only [Option.some.injEq] at h
          rw [← h]; simp only [List.length_append, List.length_replicate]; omega
        · simp at h
      | false =>
        simp only [Bool.false_eq_true, if_false] at h
        split at h
        · simp only [Option.some.injEq] at h
          rw [← h]; simp only [List.length_append, List.length_replicate]; omega
        · simp at h

theorem parseV_two (x : Option (List Nat)) (hx : ∀ gs, x = some gs → gs.length = 8) : ∃ (gs : List Nat) (b : Bool), parseV x = .tup [.agg (u16s gs), .bool b] ∧ gs.length = 8 := by
  cases x with
  | none => exact ⟨_, _, rfl, rfl⟩
  | some gs => exact ⟨gs, true, rfl, hx gs rfl⟩

end Go.Proofs.GoC
