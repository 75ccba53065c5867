/-
  SL: what a law is handed, as abstract values: structs and arrays of numbers, texts and truths. No claim by itself.
-/
import Derived.Test.YtdgikagnkbphoaaDoorSlRow
import Derived.Test.YtdgikagnkbphoaaDoorSlLift
import Derived.OpenShut
import Derived.ChangeReads
import Derived.WideKeyArgs
namespace Go.Proofs.SL
open Go Go.RowKit
set_option linter.unusedSimpArgs false
set_option linter.unusedVariables false

section
variable {H : Type} {enc : TypeId × Value → H} {P : Program} {w w' : World} {base : Nat} {sp : Nat → Bool} {held : Bool}

theorem trod_up (hB : Below w.heap.size w w') {t : TypeId} {v : Value} {d : DataW H} {ps : List MemPlace} (h : DataW.Trod enc P w base sp held t v d ps) : DataW.Trod enc P w' base sp held t v d ps := by
  obtain ⟨n, hn⟩ := h
  exact ⟨n, DataW.trod_carry n _ _ _ hn (fun p hp => hB.same (DataW.trod_lt n _ _ _ hn p hp))⟩

/-- A number that its kind holds; a text that is not too long. -/
def wfP : PV → Prop
  | .int k n => k.min ≤ n ∧ n ≤ k.max
  | .str s => s.size ≤ maxLen
  | _ => True

theorem take_split {cs : List Value} {a b : Nat} (h : cs.length = a + b) : cs = cs.take a ++ (cs.drop a).take b := by
  have : (cs.drop a).take b = cs.drop a := List.take_of_length_le (by rw [List.length_drop]; omega)
  rw [this, List.take_append_drop]

theorem trod_flds {g : TypeId → Option (List Tag)} {n : Nat} {cs : List Value} (IH : ∀ t l, g t = some l → l.length = P.cellsOf t → ∀ (cs : List Value) (x : DataW H × List MemPlace), DataW.trod enc P w base sp held n t cs = some x →
    ∃ ps : List PV, cs = ps.map valP ∧ ps.map tagP = l.map some ∧ (∀ p ∈ ps, wfP p) ∧ x.2 = []) :
    ∀ (fs : List Field) (xs : List (DataW H × List MemPlace)) (o : Nat) (l : List Tag), tagsFs P g fs o = some l → xs.length = fs.length →
      (∀ (i : Nat) (f : Field), fs[i]? = some f → DataW.trod enc P w base sp held n f.type ((cs.drop f.offset).take (P.cellsOf f.type)) = xs[i]?) →
      ∃ ps : List PV, (cs.drop o).take l.length = ps.map valP ∧ ps.map tagP = l.map some ∧ (∀ p ∈ ps, wfP p) ∧ xs.flatMap (·.2) = []
  | [], xs, o, l, hl, hxl, hx => by
    simp only [tagsFs, Option.some.injEq] at hl
    subst hl
    have : xs = [] := List.eq_nil_of_length_eq_zero hxl
    subst this
    exact ⟨[], by simp, by simp, by simp, by simp⟩
  | f :: fs, xs, o, l, hl, hxl, hx => by
    simp only [tagsFs] at hl
    split at hl
    · rename_i hf
      split at hl
      · rename_i lf hlf
        split at hl
        · rename_i hn
          split at hl
          · rename_i r hr
            cases hl
            cases xs with
            | nil => simp at hxl
            | cons y xs =>
              have h0 := hx 0 f rfl
              simp only [List.getElem?_cons_zero] at h0
              obtain ⟨qs, q1, q2, q3, q4⟩ := IH _ _ hlf hn _ _ h0
              obtain ⟨ps, p1, p2, p3, p4⟩ := trod_flds IH fs xs (o + lf.length) r hr (by simpa using hxl) (fun i f hf => by simpa using hx (i + 1) f (by simpa using hf))
              refine ⟨qs ++ ps, ?_, ?_, ?_, ?_⟩
              · rw [List.length_append, List.take_add, List.map_append, ← p1, ← q1, List.drop_drop, hf.1, hn]
              · rw [List.map_append, q2, p2, List.map_append]
              · intro p hp
                rcases List.mem_append.mp hp with h | h
                · exact q3 p h
                · exact p3 p h
              · rw [List.flatMap_cons, p4, q4]; rfl
          · cases hl
        · cases hl
      · cases hl
    · cases hl

theorem trod_flat : ∀ (m : Nat) (t : TypeId) (l : List Tag), tagsOf P m t = some l → l.length = P.cellsOf t → ∀ (n : Nat) (cs : List Value) (x : DataW H × List MemPlace), DataW.trod enc P w base sp held n t cs = some x →
    ∃ ps : List PV, cs = ps.map valP ∧ ps.map tagP = l.map some ∧ (∀ p ∈ ps, wfP p) ∧ x.2 = []
  | 0, _, _, h => by simp [tagsOf] at h
  | m + 1, t, l, hl => by
    intro hlt n cs x h
    unfold tagsOf at hl
    cases hu : P.underlying t with
    | none => simp [hu] at hl
    | some u =>
      rw [hu] at hl
      cases u <;> simp only at hl <;> try (cases hl; done)
      case bool =>
        cases hl
        obtain ⟨b, rfl, rfl⟩ := DataW.trod_bool hu h
        exact ⟨[.bool b], rfl, rfl, by simp [wfP], rfl⟩
      case string =>
        cases hl
        obtain ⟨s, rfl, rfl, hs⟩ := DataW.trod_string hu h
        exact ⟨[.str s], rfl, rfl, by simpa [wfP] using hs, rfl⟩
      case int k =>
        cases hl
        obtain ⟨b, rfl, rfl, hw⟩ := DataW.trod_int hu h
        exact ⟨[.int k b], rfl, rfl, by simpa [wfP] using wf_in hw, rfl⟩
      case array k e =>
        split at hl
        · rename_i l' hl'
          split at hl
          · rename_i hn
            cases hl
            obtain ⟨xs, q, rfl, rfl, hlen, hxl, hx⟩ := DataW.trod_array hu h
            have hcell : cs.length = k * P.cellsOf e := by
              rw [hlen, ← hlt, List.length_flatten, List.map_replicate, List.sum_replicate_nat, hn]
            have key : ∀ j, j ≤ k → ∃ ps : List PV, cs.take (j * P.cellsOf e) = ps.map valP ∧ ps.map tagP = (List.replicate j l').flatten.map some ∧ (∀ p ∈ ps, wfP p) ∧ ((xs.take j).flatMap (·.2)) = [] := by
              intro j
              induction j with
              | zero => intro _; exact ⟨[], by simp, by simp, by simp, by simp⟩
              | succ j ih =>
                intro hj
                obtain ⟨ps, p1, p2, p3, p4⟩ := ih (by omega)
                have hxj : xs[j]? = some xs[j] := List.getElem?_eq_getElem (by omega)
                have h1 := hx j (by omega)
                rw [hxj] at h1
                obtain ⟨qs, q1, q2, q3, q4⟩ := trod_flat m e l' hl' hn q _ _ h1
                refine ⟨ps ++ qs, ?_, ?_, ?_, ?_⟩
                · rw [Nat.succ_mul, List.take_add, p1, q1, List.map_append]
                · rw [List.map_append, p2, q2, List.replicate_succ', List.flatten_append, List.map_append]; simp
                · intro p hp
                  rcases List.mem_append.mp hp with h | h
                  · exact p3 p h
                  · exact q3 p h
                · rw [List.take_add_one, hxj, List.flatMap_append, p4]; simpa using q4
            obtain ⟨ps, p1, p2, p3, p4⟩ := key k (Nat.le_refl _)
            refine ⟨ps, ?_, p2, p3, ?_⟩
            · rw [← p1, List.take_of_length_le (by omega)]
            · rw [List.take_of_length_le (by omega)] at p4; exact p4
          · cases hl
        · cases hl
      case struct fs =>
        split at hl
        · obtain ⟨xs, q, rfl, rfl, hlen, hxl, hx⟩ := DataW.trod_struct hu h
          obtain ⟨ps, p1, p2, p3, p4⟩ := trod_flds (cs := cs) (fun t l h1 h2 cs x h3 => trod_flat m t l h1 h2 q cs x h3) fs.toList xs 0 l hl (by simpa using hxl) (fun i f hf => hx i f (by simpa using hf))
          refine ⟨ps, ?_, p2, p3, p4⟩
          rw [← p1, List.drop_zero, List.take_of_length_le (by omega)]
        · cases hl

theorem mapM_same {α β : Type} {f g : α → Option β} : ∀ {l : List α}, (∀ x ∈ l, f x = g x) → l.mapM f = l.mapM g
  | [], _ => rfl
  | a :: l, h => by rw [List.mapM_cons, List.mapM_cons, h a (by simp), mapM_same fun x hx => h x (List.mem_cons_of_mem _ hx)]

theorem tagsFs_mem {g : TypeId → Option (List Tag)} : ∀ {fs : List Field} {o : Nat} {l : List Tag}, tagsFs P g fs o = some l → ∀ f ∈ fs, ∃ lf, g f.type = some lf
  | [], _, _, _ => by simp
  | f :: fs, o, l, hl => by
    simp only [tagsFs] at hl
    split at hl
    · split at hl
      · rename_i lf hlf
        split at hl
        · split at hl
          · rename_i r hr
            intro f' hf'
            rcases List.mem_cons.mp hf' with rfl | h
            · exact ⟨lf, hlf⟩
            · exact tagsFs_mem hr f' h
          · cases hl
        · cases hl
      · cases hl
    · cases hl

/-- What holds numbers, texts and truths alone reads the same in every memory. -/
theorem trod_free (w' : World) (b' : Nat) (sp' : Nat → Bool) : ∀ (m : Nat) (t : TypeId) (l : List Tag), tagsOf P m t = some l → ∀ (n : Nat) (cs : List Value), DataW.trod enc P w base sp held n t cs = DataW.trod enc P w' b' sp' held n t cs
  | 0, _, _, h => by simp [tagsOf] at h
  | m + 1, t, l, hl => by
    intro n cs
    cases n with
    | zero => rfl
    | succ n =>
    unfold tagsOf at hl
    rw [DataW.trod.eq_def, DataW.trod.eq_def]
    simp only
    cases hu : P.underlying t with
    | none => simp [hu] at hl
    | some u =>
      rw [hu] at hl
      cases u <;> simp only at hl <;> try (cases hl; done)
      case array k e =>
        split at hl
        · rename_i l' hl'
          simp only
          rw [mapM_same fun i _ => trod_free w' b' sp' m e l' hl' n _]
        · cases hl
      case struct fs =>
        split at hl
        · simp only
          rw [mapM_same fun f hf => by
            obtain ⟨lf, hlf⟩ := tagsFs_mem hl f hf
            exact trod_free w' b' sp' m f.type lf hlf n _]
        · cases hl
      all_goals (rcases cs with _ | ⟨c, _ | ⟨c2, cs⟩⟩ <;> try rfl) <;> cases c <;> rfl

theorem trod_still (w' : World) {b' : Nat} {sp' : Nat → Bool} {t : TypeId} {v : Value} {d : DataW H} {ps : List MemPlace} (hl : (tagsOf P 12 t).isSome = true) (h : DataW.Trod enc P w base sp held t v d ps) : DataW.Trod enc P w' b' sp' held t v d ps := by
  obtain ⟨n, hn⟩ := h
  obtain ⟨l, hl⟩ := Option.isSome_iff_exists.mp hl
  exact ⟨n, by rw [← hn]; exact (trod_free w' b' sp' 12 t l hl n _).symm⟩

/-- A struct or an array of numbers, texts and truths that a law is handed. -/
theorem open_flat {r : Reach} {b0 : Nat} {t : TypeId} {l : List Tag} {v : Value} {d : DataW H} {ps : List MemPlace} (hl : tagsOf P 12 t = some l) (hn : l.length = P.cellsOf t)
    (hagg : (match P.underlying t with | some (.array _ _) => true | some (.struct _) => true | _ => false) = true) (hval : Value.okWide P w r b0 t v) (h : DataW.Trod enc P w base sp held t v d ps) :
    ∃ (qs : List PV), v = .agg (qs.map valP).toArray ∧ qs.map tagP = l.map some ∧ (∀ p ∈ qs, wfP p) ∧ ps = [] := by
  obtain ⟨n, hn'⟩ := h
  obtain ⟨qs, q1, q2, q3, q4⟩ := trod_flat 12 t l hl hn n _ _ hn'
  refine ⟨qs, ?_, q2, q3, q4⟩
  have : ∃ cs, v = .agg cs := by
    unfold Value.okWide at hval
    split at hagg <;> rename_i hu <;> simp only [hu] at hval
    · cases v <;> first | exact ⟨_, rfl⟩ | simp [Value.okWide] at hval
    · cases v <;> first | exact ⟨_, rfl⟩ | simp [Value.okWide] at hval
    · cases hagg
  obtain ⟨cs, rfl⟩ := this
  have q1 : cs.toList = qs.map valP := q1
  rw [← q1]

theorem V.flat {β : Nat → Option Nat} {H' : Heap} {w2 : World} {qs : List PV} {l : List Tag} (h : qs.map tagP = l.map some) : V β H' w2 (.agg (qs.map valP).toArray) (.agg qs) := by
  refine .agg _ _ (by simp) fun i v p hv hp => ?_
  simp only [List.getElem?_toArray, List.getElem?_map, hp, Option.map_some, Option.some.injEq] at hv
  subst hv
  have ht : ∃ g, tagP p = some g := by
    have h1 := congrArg (·[i]?) h
    simp only [List.getElem?_map, hp, Option.map_some] at h1
    cases hl : l[i]? with
    | none => rw [hl] at h1; cases h1
    | some g => rw [hl] at h1; simp only [Option.map_some, Option.some.injEq] at h1; exact ⟨g, h1⟩
  obtain ⟨g, hg⟩ := ht
  cases p <;> simp only [tagP] at hg <;> first
    | (cases hg; done)
    | exact .bool _
    | exact .int _ _
    | exact .str _

theorem tag_int {p : PV} {k : IntKind} (h : tagP p = some (.i k)) : ∃ n, p = .int k n := by
  cases p <;> simp [tagP] at h
  subst h; exact ⟨_, rfl⟩
theorem tag_str {p : PV} (h : tagP p = some .s) : ∃ n, p = .str n := by
  cases p <;> simp [tagP] at h
  exact ⟨_, rfl⟩
/-- Cells that are all bytes. -/
theorem tag_u8s : ∀ (n : Nat) (qs : List PV), qs.map tagP = (List.replicate n (Tag.i .u8)).map some → (∀ p ∈ qs, wfP p) → ∃ ns : List Nat, qs = ns.map (fun n => PV.int .u8 (n : Nat)) ∧ ns.length = n ∧ ∀ n ∈ ns, n ≤ 255
  | 0, qs, h, _ => ⟨[], by simpa using h, rfl, by simp⟩
  | n + 1, [], h, _ => by simp at h
  | n + 1, q :: qs, h, hw => by
    simp only [List.map_cons, List.replicate_succ, List.cons.injEq] at h
    obtain ⟨m, rfl⟩ := tag_int h.1
    obtain ⟨ns, rfl, h2, h3⟩ := tag_u8s n qs h.2 fun p hp => hw p (List.mem_cons_of_mem _ hp)
    have hb : (0 : Int) ≤ m ∧ m ≤ 255 := hw (.int .u8 m) (by simp)
    exact ⟨m.toNat :: ns, by simp; omega, by simp [h2], by
      intro x hx
      rcases List.mem_cons.mp hx with rfl | hx
      · omega
      · exact h3 x hx⟩
theorem tag_u16s : ∀ (n : Nat) (qs : List PV), qs.map tagP = (List.replicate n (Tag.i .u16)).map some → (∀ p ∈ qs, wfP p) → ∃ ns : List Nat, qs = ns.map (fun n => PV.int .u16 (n : Nat)) ∧ ns.length = n ∧ ∀ n ∈ ns, n ≤ 65535
  | 0, qs, h, _ => ⟨[], by simpa using h, rfl, by simp⟩
  | n + 1, [], h, _ => by simp at h
  | n + 1, q :: qs, h, hw => by
    simp only [List.map_cons, List.replicate_succ, List.cons.injEq] at h
    obtain ⟨m, rfl⟩ := tag_int h.1
    obtain ⟨ns, rfl, h2, h3⟩ := tag_u16s n qs h.2 fun p hp => hw p (List.mem_cons_of_mem _ hp)
    have hb : (0 : Int) ≤ m ∧ m ≤ 65535 := hw (.int .u16 m) (by simp)
    exact ⟨m.toNat :: ns, by simp; omega, by simp [h2], by
      intro x hx
      rcases List.mem_cons.mp hx with rfl | hx
      · omega
      · exact h3 x hx⟩

theorem cells_nil {qs : List PV} (h : qs.map tagP = ([] : List Tag).map some) : qs = [] := by simpa using h
theorem cells_cons {g : Tag} {l : List Tag} {qs : List PV} (h : qs.map tagP = (g :: l).map some) (hw : ∀ p ∈ qs, wfP p) :
    ∃ q qs', qs = q :: qs' ∧ tagP q = some g ∧ wfP q ∧ qs'.map tagP = l.map some ∧ ∀ p ∈ qs', wfP p := by
  cases qs with
  | nil => simp at h
  | cons q qs =>
    simp only [List.map_cons, List.cons.injEq] at h
    exact ⟨q, qs, rfl, h.1, hw q (by simp), h.2, fun p hp => hw p (List.mem_cons_of_mem _ hp)⟩
theorem cell_nat {q : PV} {k : IntKind} (m : Int) (h0 : k.min = 0) (hm : k.max = m) (h : tagP q = some (.i k)) (w : wfP q) : ∃ n : Nat, q = .int k n ∧ n ≤ m.toNat := by
  obtain ⟨z, rfl⟩ := tag_int h
  have w : k.min ≤ z ∧ z ≤ k.max := w
  rw [h0, hm] at w
  exact ⟨z.toNat, by rw [show ((z.toNat : Nat) : Int) = z by omega], by omega⟩
theorem cell_u8 {q : PV} (h : tagP q = some (.i .u8)) (w : wfP q) : ∃ n : Nat, q = .int .u8 n ∧ n ≤ 255 := cell_nat 255 rfl rfl h w
theorem cell_u16 {q : PV} (h : tagP q = some (.i .u16)) (w : wfP q) : ∃ n : Nat, q = .int .u16 n ∧ n ≤ 65535 := cell_nat 65535 rfl rfl h w
theorem cell_u32 {q : PV} (h : tagP q = some (.i .u32)) (w : wfP q) : ∃ n : Nat, q = .int .u32 n ∧ n ≤ 4294967295 := cell_nat 4294967295 rfl rfl h w
theorem cell_u64 {q : PV} (h : tagP q = some (.i .u64)) (w : wfP q) : ∃ n : Nat, q = .int .u64 n ∧ n ≤ 18446744073709551615 := cell_nat 18446744073709551615 rfl rfl h w
theorem cell_i64 {q : PV} (h : tagP q = some (.i .i64)) (w : wfP q) : ∃ n : Int, q = .int .i64 n ∧ -9223372036854775808 ≤ n ∧ n ≤ 9223372036854775807 := by
  obtain ⟨z, rfl⟩ := tag_int h
  exact ⟨z, rfl, w⟩
theorem cell_i32 {q : PV} (h : tagP q = some (.i .i32)) (w : wfP q) : ∃ n : Int, q = .int .i32 n ∧ -2147483648 ≤ n ∧ n ≤ 2147483647 := by
  obtain ⟨z, rfl⟩ := tag_int h
  exact ⟨z, rfl, w⟩
theorem cell_str {q : PV} (h : tagP q = some .s) (w : wfP q) : ∃ l : List UInt8, q = .str (bs l) ∧ l.length ≤ maxLen := by
  obtain ⟨z, rfl⟩ := tag_str h
  obtain ⟨l, rfl⟩ := bs_of z
  exact ⟨l, rfl, by have : (bs l).size ≤ maxLen := w; simpa [bs, ByteArray.size] using this⟩
theorem cell_bool {q : PV} (h : tagP q = some .b) (w : wfP q) : ∃ n : Bool, q = .bool n := by
  cases q <;> simp [tagP] at h
  exact ⟨_, rfl⟩
end
end Go.Proofs.SL
