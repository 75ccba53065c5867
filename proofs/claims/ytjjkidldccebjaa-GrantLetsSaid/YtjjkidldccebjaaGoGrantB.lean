/-
  What the functions compute: a book of grants. No claim by itself.
-/
import Derived.Test.YtjjkidldccebjaaGoGrantA
import Derived.Test.YtjjkidldccebjaaGoMaps
namespace Go.Proofs.GoC
open Go Go.Proofs.SL
set_option linter.unusedSimpArgs false
set_option linter.unusedVariables false
set_option maxRecDepth 10000
set_option maxHeartbeats 4000000

theorem keyC_len {k : GKey} (h : KeyOk k) : (keyC k).length = 24 := by simp [keyC, orgC, adrC, u8s, h.len]
theorem keyC_take {k : GKey} (h : KeyOk k) : List.take 24 (keyC k) = keyC k := List.take_of_length_le (by rw [keyC_len h]; omega)
theorem keyC_one {k : GKey} : (keyC k).all PV.one = true := by simp [keyC, orgC, adrC, u8s, PV.one]
theorem keyC_tag {k : GKey} (h : KeyOk k) : List.map tagP (keyC k) = [some .s, some .s, some (.i .i64), some .s, some .s, some (.i .i64), some .s, some (.i .i64), some (.i .u8), some (.i .u8), some (.i .u8), some (.i .u8), some (.i .u8), some (.i .u8), some (.i .u8), some (.i .u8), some (.i .u8), some (.i .u8), some (.i .u8), some (.i .u8), some (.i .u8), some (.i .u8), some (.i .u8), some (.i .u8)] := by
  simp only [keyC, orgC, adrC, List.cons_append, List.nil_append, List.map_cons, tagP, u8s_tag16 h.len]
theorem bdd_key {n : Nat} {k : GKey} : Bdd n (.agg (keyC k)) := .agg _ fun p hp => by
  simp only [keyC, orgC, adrC, u8s, List.cons_append, List.nil_append, List.mem_cons, List.mem_map] at hp
  rcases hp with rfl | rfl | rfl | rfl | rfl | rfl | rfl | rfl | ⟨x, _, rfl⟩ <;> simp
theorem key_rep : KeyRep keyV := fun a b => by
  rw [Bool.eq_iff_iff]; simp [keyB, keyV, keyC_inj]

abbrev Grants := List (GKey × Int)
def untV (n : Int) : PV := .int .i64 n
def KeysOk (es : Grants) : Prop := ∀ e ∈ es, KeyOk e.1
theorem keysB_ok {es : Grants} (h : KeysOk es) (k : TK) (s b : Nat) (z : PV) : keysB ⟨k, s, true, b, z, some [.s, .s, .i .i64, .s, .s, .i .i64, .s, .i .i64, .i .u8, .i .u8, .i .u8, .i .u8, .i .u8, .i .u8, .i .u8, .i .u8, .i .u8, .i .u8, .i .u8, .i .u8, .i .u8, .i .u8, .i .u8, .i .u8]⟩ (mapV keyV untV es) = true :=
  keys_map fun e he => by
    show (true && decide (List.map tagP (keyC e.1) = _)) = true
    rw [keyC_tag (h e he)]; rfl

def ordGr : Nat → List Nat
  | 1 => [0, 1, 2, 3, 4, 5, 6, 7, 8, 9, 10]
  | 5 => [0, 1, 2, 3, 4, 5, 6, 7, 8, 9, 10]
  | 8 => [1006]
  | _ => []
theorem ordGr_1 : ordGr 1 = [0, 1, 2, 3, 4, 5, 6, 7, 8, 9, 10] := rfl
theorem ordGr_5 : ordGr 5 = [0, 1, 2, 3, 4, 5, 6, 7, 8, 9, 10] := rfl
theorem ordGr_6 : ordGr 6 = [] := rfl
theorem ordGr_8 : ordGr 8 = [1006] := rfl

/-- A book in the heap. -/
structure BkAt (H : Heap) (i j : Nat) (room : Int) (es : Grants) : Prop where
  cell : H[i]? = some (some (.cells 0 [.int .i64 room, .mp j]))
  map : H[j]? = some (some (.map (mapV keyV untV es)))
  ok : KeysOk es
theorem BkAt.ne {H : Heap} {i j : Nat} {room : Int} {es : Grants} (h : BkAt H i j room es) : i ≠ j := fun e => by
  have := h.cell; rw [e, h.map] at this; cases this

def roomF (n : Int) : Int := let m := if 1 > n then 1 else n; if 64 < m then 64 else m

theorem c_grant_New {H : Heap} (n : Int) : SCall Try.prog 12 [.int .i64 n] H fun r H' => r = .ptr (H.length + 1) 0 0 ∧ H' = H ++ [some (.map []), some (.cells 0 [.int .i64 (roomF n), .mp H.length])] := by
  refine scall_ofd (ord := ordGr) (tdOf_ok _) (rs := [.tmp 2]) Try.func12 rfl (by kernel_rfl) (by kernel_rfl) (by kernel_rfl) Try.ntmps12 fun hb hargs => go 200 (fun _ => false) mixed ?_
  simp (disch := omega) only [↓reduceIte, go_sem] <;> repeat with_reducible refine And.intro (by first | omega | decide) ?_
  exact EndsD.same (.inr rfl) (by simp (disch := omega) only [↓reduceIte, go_sem] <;> repeat with_reducible refine And.intro (by first | omega | decide) ?_) ⟨rfl, by simp [roomF]⟩

theorem c_grant_Book_Len {H : Heap} {i j : Nat} {room : Int} {es : Grants} (h : BkAt H i j room es) : SCall Try.prog 18 [.ptr i 0 0] H fun r H' => r = .int .i64 (es.length : Nat) ∧ H' = H := by
  have oc := obj_of h.cell
  have om := h.map
  refine scall_of (ord := fun _ => []) (rs := [2]) Try.func18 rfl (by kernel_rfl) (by kernel_rfl) (by kernel_rfl) Try.ntmps18 fun hb hargs => go 200 (fun _ => false) mixed ?_
  simp (disch := omega) only [↓reduceIte, go_sem, oc, om, mapV_len] <;> repeat with_reducible refine And.intro (by first | omega | decide) ?_
  exact fin rfl rfl

def untilF (k : GKey) (es : Grants) : Int × Bool := match findA k es with
  | some u => (u, true)
  | none => (0, false)

theorem c_grant_Book_Until {H : Heap} {i j : Nat} {room : Int} {es : Grants} (h : BkAt H i j room es) (k : GKey) (hk : KeyOk k) :
    SCall Try.prog 37 [.ptr i 0 0, .agg (keyC k)] H fun r H' => r = .tup [.int .i64 (untilF k es).1, .bool (untilF k es).2] ∧ H' = H := by
  have hi := lt_of_get h.cell
  have hj := lt_of_get h.map
  have oc := obj_of h.cell
  have om := h.map
  have kl := keyC_len hk
  have kt := keyC_take hk
  have kg := keyC_tag hk
  have kb := keysB_ok h.ok
  refine scall_of (ord := ordGr) (rs := [4,5]) Try.func37 rfl (by kernel_rfl) (by kernel_rfl) (by kernel_rfl) Try.ntmps37 fun hb hargs => go 200 (fun _ => false) mixed ?_
  unfold untilF
  cases hf : findA k es with
  | some u =>
    have lm : ∀ z, lookM (.agg (keyC k)) z (mapV keyV untV es) = (untV u, true) := fun z => look_has (vf := untV) key_rep z hf
    simp (disch := omega) only [↓reduceIte, go_sem, oc, om, ordGr_1, ordGr_5, ordGr_6, ordGr_8, kl, kt, kg, kb, lm, keyC_one, untV] <;> repeat with_reducible refine And.intro (by first | omega | decide) ?_
    exact fin_drop (.inr rfl) hb rfl (by simp)
  | none =>
    have lm : ∀ z, lookM (.agg (keyC k)) z (mapV keyV untV es) = (z, false) := fun z => look_not (vf := untV) key_rep z hf
    simp (disch := omega) only [↓reduceIte, go_sem, oc, om, ordGr_1, ordGr_5, ordGr_6, ordGr_8, kl, kt, kg, kb, lm, keyC_one, untV] <;> repeat with_reducible refine And.intro (by first | omega | decide) ?_
    exact fin_drop (.inr rfl) hb rfl (by simp)

def holdsF (k : GKey) (now : Int) (es : Grants) : Bool := (untilF k es).2 && decide (now < (untilF k es).1)

theorem c_grant_Book_Holds {H : Heap} {i j : Nat} {room : Int} {es : Grants} (h : BkAt H i j room es) (k : GKey) (hk : KeyOk k) (now : Int) :
    SCall Try.prog 14 [.ptr i 0 0, .agg (keyC k), .int .i64 now] H fun r H' => r = .bool (holdsF k now es) ∧ H' = H := by
  have hi := lt_of_get h.cell
  have hj := lt_of_get h.map
  have oc := obj_of h.cell
  have om := h.map
  have kl := keyC_len hk
  have kt := keyC_take hk
  have kg := keyC_tag hk
  have kb := keysB_ok h.ok
  refine scall_of (ord := ordGr) (rs := [6]) Try.func14 rfl (by kernel_rfl) (by kernel_rfl) (by kernel_rfl) Try.ntmps14 fun hb hargs => go 200 (fun _ => false) mixed ?_
  unfold holdsF untilF
  cases hf : findA k es with
  | some u =>
    have lm : ∀ z, lookM (.agg (keyC k)) z (mapV keyV untV es) = (untV u, true) := fun z => look_has (vf := untV) key_rep z hf
    simp (disch := omega) only [↓reduceIte, go_sem, oc, om, ordGr_1, ordGr_5, ordGr_6, ordGr_8, kl, kt, kg, kb, lm, keyC_one, untV] <;> repeat with_reducible refine And.intro (by first | omega | decide) ?_
    exact fin_drop (.inr rfl) hb rfl (by simp)
  | none =>
    have lm : ∀ z, lookM (.agg (keyC k)) z (mapV keyV untV es) = (z, false) := fun z => look_not (vf := untV) key_rep z hf
    simp (disch := omega) only [↓reduceIte, go_sem, oc, om, ordGr_1, ordGr_5, ordGr_6, ordGr_8, kl, kt, kg, kb, lm, keyC_one, untV] <;> repeat with_reducible refine And.intro (by first | omega | decide) ?_
    exact fin_drop (.inr rfl) hb rfl (by simp)

def z16L : List Nat := [0, 0, 0, 0, 0, 0, 0, 0, 0, 0, 0, 0, 0, 0, 0, 0]
def key0 : GKey := ⟨⟨[], [], 0⟩, ⟨[], [], 0⟩, [], 0, z16⟩
theorem keyC_0 : keyC key0 = [.str (bs []), .str (bs []), .int .i64 0, .str (bs []), .str (bs []), .int .i64 0, .str (bs []), .int .i64 0, .int .u8 0, .int .u8 0, .int .u8 0, .int .u8 0, .int .u8 0, .int .u8 0, .int .u8 0, .int .u8 0, .int .u8 0, .int .u8 0, .int .u8 0, .int .u8 0, .int .u8 0, .int .u8 0, .int .u8 0, .int .u8 0] := rfl
theorem put_ok {k : GKey} {u : Int} (hk : KeyOk k) : ∀ {es : Grants}, KeysOk es → KeysOk (putA k u es)
  | [], h => by intro e he; simp only [putA, List.mem_singleton] at he; subst he; exact hk
  | e :: es, h => by
    intro x hx
    unfold putA at hx
    split at hx
    · rcases List.mem_cons.mp hx with rfl | hx
      · exact hk
      · exact h x (List.mem_cons_of_mem _ hx)
    · rcases List.mem_cons.mp hx with rfl | hx
      · exact h _ (by simp)
      · exact put_ok hk (fun y hy => h y (List.mem_cons_of_mem _ hy)) x hx

/-- A grant is put where there is room. -/
theorem put_room {H : Heap} {i j : Nat} {room : Int} {es : Grants} (h : BkAt H i j room es) (k : GKey) (hk : KeyOk k) (until_ now : Int) (hr : (es.length : Int) ≠ room ∨ (findA k es).isSome = true) :
    SCall Try.prog 13 [.ptr i 0 0, .agg (keyC k), .int .i64 until_, .int .i64 now] H fun r H' => r = .tup [.agg (keyC key0), .bool false] ∧ BkAt H' i j room (if until_ ≤ now then es else putA k until_ es) ∧ Keeps [j] H H' := by
  have hi := lt_of_get h.cell
  have hj := lt_of_get h.map
  have hne := h.ne
  have oc := obj_of h.cell
  have om := h.map
  have kl := keyC_len hk
  have kt := keyC_take hk
  have kg := keyC_tag hk
  have kb := keysB_ok h.ok
  have pm : putM (.agg (keyC k)) (.int .i64 until_) (mapV keyV untV es) = mapV keyV untV (putA k until_ es) := put_map key_rep k until_ es
  refine scall_ofd (ord := ordGr) (tdOf_ok _) (rs := [.cell 8 30, .tmp 9]) Try.func13 rfl (by kernel_rfl) (by kernel_rfl) (by kernel_rfl) Try.ntmps13 fun hb hargs => go 200 (fun _ => false) mixed ?_
  by_cases hu : until_ ≤ now
  · rw [if_pos hu]
    simp (disch := omega) only [↓reduceIte, go_sem, oc, om, ordGr_1, ordGr_5, ordGr_6, ordGr_8, kl, kt, kg, kb, keyC_one, untV, hu] <;> repeat with_reducible refine And.intro (by first | omega | decide) ?_
    exact EndsD.same (.inr rfl) (by simp (disch := omega) only [↓reduceIte, go_sem, keyC_0] <;> repeat with_reducible refine And.intro (by first | omega | decide) ?_) ⟨rfl, ⟨by rw [List.getElem?_append_left hi]; exact h.cell, by rw [List.getElem?_append_left hj]; exact h.map, h.ok⟩, Keeps.app⟩
  · rw [if_neg hu]
    cases hf : findA k es with
    | some u =>
      have lm : ∀ z, lookM (.agg (keyC k)) z (mapV keyV untV es) = (untV u, true) := fun z => look_has (vf := untV) key_rep z hf
      simp (disch := omega) only [↓reduceIte, go_sem, oc, om, ordGr_1, ordGr_5, ordGr_6, ordGr_8, kl, kt, kg, kb, lm, pm, keyC_one, untV, hu] <;> repeat with_reducible refine And.intro (by first | omega | decide) ?_
      exact EndsD.same (.inr rfl) (by simp (disch := omega) only [↓reduceIte, go_sem, keyC_0] <;> repeat with_reducible refine And.intro (by first | omega | decide) ?_) ⟨rfl, ⟨by rw [List.getElem?_append_left (by simpa using hi), List.getElem?_set_ne (Ne.symm hne)]; exact h.cell, by rw [List.getElem?_append_left (by simpa using hj), List.getElem?_set_self hj], put_ok hk h.ok⟩, (Keeps.setF (by simp)).trans Keeps.app⟩
    | none =>
      have lm : ∀ z, lookM (.agg (keyC k)) z (mapV keyV untV es) = (z, false) := fun z => look_not (vf := untV) key_rep z hf
      have hr2 : ((es.length : Nat) : Int) ≠ room := by
        rcases hr with h | h
        · exact h
        · rw [hf] at h; cases h
      simp (disch := omega) only [↓reduceIte, go_sem, oc, om, ordGr_1, ordGr_5, ordGr_6, ordGr_8, kl, kt, kg, kb, lm, pm, keyC_one, untV, hu, mapV_len, hr2] <;> repeat with_reducible refine And.intro (by first | omega | decide) ?_
      exact EndsD.same (.inr rfl) (by simp (disch := omega) only [↓reduceIte, go_sem, keyC_0] <;> repeat with_reducible refine And.intro (by first | omega | decide) ?_) ⟨rfl, ⟨by rw [List.getElem?_append_left (by simpa using hi), List.getElem?_set_ne (Ne.symm hne)]; exact h.cell, by rw [List.getElem?_append_left (by simpa using hj), List.getElem?_set_self hj], put_ok hk h.ok⟩, (Keeps.setF (by simp)).trans Keeps.app⟩
end Go.Proofs.GoC
