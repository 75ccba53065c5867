/-
  What the functions compute: a cache's keys and entries, New, Room, key. No claim by itself.
-/
import Derived.Test.YtcmbnoloimdlaaaGoMaps
import Derived.Test.YtcmbnoloimdlaaaGoMapL
import Derived.Test.YtcmbnoloimdlaaaGoCmpS
import Derived.Test.YtcmbnoloimdlaaaGoCmp
import Derived.Test.YtcmbnoloimdlaaaGoAdr
import Derived.Test.YtcmbnoloimdlaaaGoText1
import Derived.Test.YtcmbnoloimdlaaaGoAround
import Derived.Test.YtcmbnoloimdlaaaSlHp
namespace Go.Proofs.GoC
open Go Go.Proofs.SL
set_option linter.unusedSimpArgs false
set_option linter.unusedVariables false
set_option maxRecDepth 10000
set_option maxHeartbeats 4000000

def cutS (n most : Int) : Int := let m := if 1 > n then 1 else n; if most < m then most else m
theorem cutS_le {n most : Int} (h : 1 ≤ most) : 1 ≤ cutS n most ∧ cutS n most ≤ most := by unfold cutS; simp only; constructor <;> split <;> (try split) <;> (try split at *) <;> omega

theorem c_cache_New {H : Heap} (n : Int) : SCall Try.prog 8 [.int .i64 n] H fun r H' => r = .ptr (H.length + 1) 0 0 ∧ H' = H ++ [some (.map []), some (.cells 0 [.int .i64 (cutS n 64), .mp H.length])] := by
  refine scall_of (ord := fun _ => []) (rs := [2]) Try.func8 rfl (by kernel_rfl) (by kernel_rfl) (by kernel_rfl) Try.ntmps8 fun hb hargs => go 200 (fun _ => false) mixed ?_
  simp (disch := omega) only [↓reduceIte, go_sem] <;> repeat with_reducible refine And.intro (by first | omega | decide) ?_
  exact Ends.same (.inr rfl) ⟨rfl, by simp [cutS]⟩

theorem c_cache_Cache_Room {H : Heap} {i : Nat} {room : Int} {q : PV} (h : H[i]? = some (some (.cells 0 [.int .i64 room, q]))) : SCall Try.prog 15 [.ptr i 0 0] H fun r H' => r = .int .i64 room ∧ H' = H := by
  have oc := obj_of h
  refine scall_of (ord := fun _ => []) (rs := [2]) Try.func15 rfl (by kernel_rfl) (by kernel_rfl) (by kernel_rfl) Try.ntmps15 fun hb hargs => go 200 (fun _ => false) mixed ?_
  simp (disch := omega) only [↓reduceIte, go_sem, oc] <;> repeat with_reducible refine And.intro (by first | omega | decide) ?_
  exact fin rfl rfl

theorem c_cache_key (name : List UInt8) (hn : name.length < 1000000) (kind : Int) : PCall Try.prog 28 [.str (bs name), .int .i64 kind] (.agg [.str (bs (lowF name)), .int .i64 kind]) := by
  intro H
  refine scall_ofc (ord := fun _ => []) (tdOf_ok _) (rs := [.cell 4 37]) Try.func28 rfl (by kernel_rfl) (by kernel_rfl) (by kernel_rfl) Try.ntmps28 fun hb hargs => go 200 (fun _ => false) mixed ?_
  simp (disch := omega) only [↓reduceIte, go_sem] <;> repeat with_reducible refine And.intro (by first | omega | decide) ?_
  refine (c_text_Lower name hn).on (go 200 (fun _ => false) mixed ?_)
  simp (disch := omega) only [↓reduceIte, go_sem] <;> repeat with_reducible refine And.intro (by first | omega | decide) ?_
  exact fin_c (.inr rfl) hb (by simp (disch := omega) only [↓reduceIte, go_sem] <;> repeat with_reducible refine And.intro (by first | omega | decide) ?_ <;> rfl) (bdd_agg.mpr fun p hp => by simp only [List.mem_cons, List.not_mem_nil, or_false] at hp; rcases hp with rfl | rfl <;> simp)

def ordCG : Nat → List Nat
  | 1 => [2012]
  | _ => []
theorem ordCG_1 : ordCG 1 = [2012] := rfl
theorem lookM_nil {p z : PV} : lookM p z [] = (z, false) := rfl
theorem keysB_nil {d : TD} : keysB d [] = true := rfl

theorem get_none {H : Heap} {i j : Nat} {room : Int} (h : H[i]? = some (some (.cells 0 [.int .i64 room, .mp j]))) (hm : H[j]? = some (some (.map []))) (name : List UInt8) (hn : name.length < 1000000) (kind now : Int) :
    SCall Try.prog 20 [.ptr i 0 0, .str (bs name), .int .i64 kind, .int .i64 now] H fun r H' => r = .tup [.nils, .bool false] ∧ H' = H := by
  have hi := lt_of_get h
  have hj := lt_of_get hm
  have oc := obj_of h
  have hk := c_cache_key name hn kind
  refine scall_of (ord := ordCG) (rs := [8, 9]) Try.func20 rfl (by kernel_rfl) (by kernel_rfl) (by kernel_rfl) Try.ntmps20 fun hb hargs => go 200 (fun _ => false) mixed ?_
  simp (disch := omega) only [↓reduceIte, go_sem, ordCG_1, oc] <;> repeat with_reducible refine And.intro (by first | omega | decide) ?_
  refine ⟨_, fun L => hk _, go 200 (fun _ => false) mixed ?_⟩
  simp (disch := omega) only [↓reduceIte, go_sem, hm, oc, lookM_nil, keysB_nil] <;> repeat with_reducible refine And.intro (by first | omega | decide) ?_
  exact fin_drop (.inr rfl) hb rfl (by simp)


structure CKey where
  name : List UInt8
  typ : Int
  deriving DecidableEq
def ckC (k : CKey) : List PV := [.str (bs k.name), .int .i64 k.typ]
def ckV (k : CKey) : PV := .agg (ckC k)
theorem ckC_inj {a b : CKey} : ckC a = ckC b ↔ a = b := by
  cases a; cases b; simp [ckC, bs_inj]
theorem ckV_inj {a b : CKey} : ckV a = ckV b ↔ a = b := by simp only [ckV, PV.agg.injEq, ckC_inj]
theorem ckC_len {k : CKey} : (ckC k).length = 2 := rfl
theorem ckC_take {k : CKey} : List.take 2 (ckC k) = ckC k := rfl
theorem ckC_drop {k : CKey} : List.drop 2 (ckC k) = [] := rfl
theorem ckC_one {k : CKey} : (ckC k).all PV.one = true := rfl
theorem ckC_tag {k : CKey} : List.map tagP (ckC k) = [some .s, some (.i .i64)] := rfl
theorem bdd_ck {n : Nat} {k : CKey} : Bdd n (.agg (ckC k)) := .agg _ fun p hp => by
  simp only [ckC, List.mem_cons, List.not_mem_nil, or_false] at hp
  rcases hp with rfl | rfl <;> simp
theorem ck_rep : KeyRep ckV := fun a b => by
  rw [Bool.eq_iff_iff]; simp [keyB, ckV, ckC_inj]
def ck0 : CKey := ⟨[], 0⟩
theorem ckC_0 : ckC ck0 = [.str (bs []), .int .i64 0] := rfl

def cmpC (a b : CKey) : Int := if cmpL a.name b.name = 0 then cmpI a.typ b.typ else cmpL a.name b.name
theorem cmpC_ord : Ord3 cmpC :=
  (cmpL_ord.lex cmpI_ord).comap (fun k : CKey => (k.name, k.typ)) fun a b h => by
    cases a; cases b; simp only [Prod.mk.injEq] at h; simp [h]

theorem c_cache_compare (a b : CKey) : PCall Try.prog 36 [ckV a, ckV b] (.int .i64 (cmpC a b)) := by
  intro H
  refine scall_of (ord := fun _ => []) (rs := [4]) Try.func36 rfl (by kernel_rfl) (by kernel_rfl) (by kernel_rfl) Try.ntmps36 fun hb hargs => go 200 (fun _ => false) mixed ?_
  simp (disch := omega) only [↓reduceIte, go_sem, ckV, ckC] <;> repeat with_reducible refine And.intro (by first | omega | decide) ?_
  refine (c_cmp_Compare_string a.name b.name).onq (go 200 (fun _ => false) mixed ?_)
  simp (disch := omega) only [↓reduceIte, go_sem] <;> repeat with_reducible refine And.intro (by first | omega | decide) ?_
  refine (c_cmp_Compare_int a.typ b.typ).onq (go 200 (fun _ => false) mixed ?_)
  simp (disch := omega) only [↓reduceIte, go_sem] <;> repeat with_reducible refine And.intro (by first | omega | decide) ?_
  refine (c_cmp_Or_int [cmpL a.name b.name, cmpI a.typ b.typ] (by simp)).onq (go 200 (fun _ => false) mixed ?_)
  have e : orF [cmpL a.name b.name, cmpI a.typ b.typ] = cmpC a b := by
    simp only [orF, cmpC]
    (repeat' split) <;> first | rfl | omega
  rw [e]
  simp (disch := omega) only [↓reduceIte, go_sem] <;> repeat with_reducible refine And.intro (by first | omega | decide) ?_
  exact fin_drop (.inr rfl) hb rfl (by simp)

/-! Lists of addresses. -/
abbrev Ads := List (Int × List Nat)
structure AdOk (a : Int × List Nat) : Prop where
  len : a.2.length = 16
  le : ∀ b ∈ a.2, b ≤ 255
structure AdsOk (l : Ads) : Prop where
  ok : ∀ a ∈ l, AdOk a
  len : l.length < 1000000
def adC (a : Int × List Nat) : List PV := adrC a.1 a.2
def adsV (l : Ads) : List PV := l.map fun a => .agg (adC a)
@[go_sem] theorem adsV_len {l : Ads} : (adsV l).length = l.length := List.length_map ..
theorem adC_len {a : Int × List Nat} (h : AdOk a) : (adC a).length = 17 := by simp [adC, adrC, u8s_len, h.len]
theorem adC_one {a : Int × List Nat} : (adC a).all PV.one = true := by unfold adC adrC; rw [List.all_cons, u8s_one]; rfl
theorem adC_take {a : Int × List Nat} (h : AdOk a) : List.take 17 (adC a) = adC a := List.take_of_length_le (by rw [adC_len h]; omega)
theorem adsV_cells {l : Ads} (h : AdsOk l) : ∀ x ∈ adsV l, x.cells.length = 17 := by
  intro x hx
  obtain ⟨e, he, rfl⟩ := List.mem_map.mp hx
  exact adC_len (h.ok e he)
theorem adsV_bdd {l : Ads} {n : Nat} : ∀ x ∈ adsV l, Bdd n x := by
  intro x hx
  obtain ⟨e, he, rfl⟩ := List.mem_map.mp hx
  exact bdd_adr
theorem adsV_flat {l : Ads} (h : AdsOk l) : (flat (adsV l)).length = l.length * 17 := by rw [flat_length (adsV_cells h), adsV_len]
@[go_sem] theorem adsV_take {l : Ads} {n : Nat} : List.take n (adsV l) = adsV (l.take n) := by simp [adsV, List.map_take]

/-- An entry. -/
structure Ent where
  l : Ads
  til : Int
def entC (e : Ent) : List PV := [.sl 17 (adsV e.l), .int .i64 e.til]
def entV (e : Ent) : PV := .agg (entC e)
theorem entC_len {e : Ent} : (entC e).length = 2 := rfl
theorem entC_one {e : Ent} : (entC e).all PV.one = true := rfl
theorem entC_take {e : Ent} : List.take 2 (entC e) = entC e := rfl
theorem entC_drop {e : Ent} : List.drop 2 (entC e) = [] := rfl
abbrev Ents := List (CKey × Ent)
def EntsOk (es : Ents) : Prop := ∀ e ∈ es, AdsOk e.2.l
theorem keysB_ck {es : Ents} (k : TK) (s b : Nat) (z : PV) : keysB ⟨k, s, true, b, z, some [.s, .i .i64]⟩ (mapV ckV entV es) = true :=
  keys_map fun e he => by
    show (true && decide (List.map tagP (ckC e.1) = [Tag.s, Tag.i .i64].map some)) = true
    rw [ckC_tag]; rfl

/-- A cache in the heap. -/
structure CaAt (H : Heap) (i j : Nat) (room : Int) (es : Ents) : Prop where
  cell : H[i]? = some (some (.cells 0 [.int .i64 room, .mp j]))
  map : H[j]? = some (some (.map (mapV ckV entV es)))
  ok : EntsOk es
theorem CaAt.ne {H : Heap} {i j : Nat} {room : Int} {es : Ents} (h : CaAt H i j room es) : i ≠ j := fun e => by
  have := h.cell; rw [e, h.map] at this; cases this
theorem CaAt.app {H L : Heap} {i j : Nat} {room : Int} {es : Ents} (h : CaAt H i j room es) : CaAt (H ++ L) i j room es :=
  ⟨by rw [List.getElem?_append_left (lt_of_get h.cell)]; exact h.cell, by rw [List.getElem?_append_left (lt_of_get h.map)]; exact h.map, h.ok⟩
theorem CaAt.setN {H : Heap} {i j n : Nat} {x : Option OB} {room : Int} {es : Ents} (h : CaAt H i j room es) (hi : n ≠ i) (hj : n ≠ j) : CaAt (H.set n x) i j room es :=
  ⟨by rw [get_set_ne hi]; exact h.cell, by rw [get_set_ne hj]; exact h.map, h.ok⟩

theorem c_cache_Cache_Len {H : Heap} {i j : Nat} {room : Int} {es : Ents} (h : CaAt H i j room es) : SCall Try.prog 14 [.ptr i 0 0] H fun r H' => r = .int .i64 (es.length : Nat) ∧ H' = H := by
  have oc := obj_of h.cell
  have om := h.map
  refine scall_of (ord := fun _ => []) (rs := [2]) Try.func14 rfl (by kernel_rfl) (by kernel_rfl) (by kernel_rfl) Try.ntmps14 fun hb hargs => go 200 (fun _ => false) mixed ?_
  simp (disch := omega) only [↓reduceIte, go_sem, oc, om, mapV_len] <;> repeat with_reducible refine And.intro (by first | omega | decide) ?_
  exact fin rfl rfl

def tilF (k : CKey) (es : Ents) : Int × Bool := match findA k es with
  | some e => (e.til, true)
  | none => (0, false)
theorem ca_has {es : Ents} {k : CKey} {e : Ent} (z : PV) (h : findA k es = some e) : lookM (.agg [.str (bs k.name), .int .i64 k.typ]) z (mapV ckV entV es) = (entV e, true) := look_has (kf := ckV) (vf := entV) ck_rep z h
theorem ca_not {es : Ents} {k : CKey} (z : PV) (h : findA k es = none) : lookM (.agg [.str (bs k.name), .int .i64 k.typ]) z (mapV ckV entV es) = (z, false) := look_not (kf := ckV) (vf := entV) ck_rep z h

theorem c_cache_Cache_Until {H : Heap} {i j : Nat} {room : Int} {es : Ents} (h : CaAt H i j room es) (name : List UInt8) (hn : name.length < 1000000) (kind : Int) :
    SCall Try.prog 18 [.ptr i 0 0, .str (bs name), .int .i64 kind] H fun r H' => r = .tup [.int .i64 (tilF ⟨lowF name, kind⟩ es).1, .bool (tilF ⟨lowF name, kind⟩ es).2] ∧ H' = H := by
  have hi := lt_of_get h.cell
  have hj := lt_of_get h.map
  have oc := obj_of h.cell
  have om := h.map
  have hk := c_cache_key name hn kind
  have kb := @keysB_ck es
  refine scall_of (ord := ordCG) (rs := [6, 7]) Try.func18 rfl (by kernel_rfl) (by kernel_rfl) (by kernel_rfl) Try.ntmps18 fun hb hargs => go 200 (fun _ => false) mixed ?_
  simp (disch := omega) only [↓reduceIte, go_sem, ordCG_1, oc] <;> repeat with_reducible refine And.intro (by first | omega | decide) ?_
  refine ⟨_, fun L => hk _, go 200 (fun _ => false) mixed ?_⟩
  unfold tilF
  cases hf : findA (⟨lowF name, kind⟩ : CKey) es with
  | some e =>
    have lm := fun z => ca_has z hf
    dsimp only at lm
    simp (disch := omega) only [↓reduceIte, go_sem, om, oc, kb, lm, entV, entC] <;> repeat with_reducible refine And.intro (by first | omega | decide) ?_
    exact fin_drop (.inr rfl) hb rfl (by simp)
  | none =>
    have lm := fun z => ca_not z hf
    dsimp only at lm
    simp (disch := omega) only [↓reduceIte, go_sem, om, oc, kb, lm] <;> repeat with_reducible refine And.intro (by first | omega | decide) ?_
    exact fin_drop (.inr rfl) hb rfl (by simp)
end Go.Proofs.GoC
