/-
  SL: types whose values are numbers, texts and truths, cell by cell: '==' of them. No claim by itself.
-/
import Derived.Test.YtdgikagnkbphoaaDoorSlCore
import Derived.Laws.StructEq
import Derived.ChangeKeysEq
namespace Go.Proofs.SL
open Go
set_option linter.unusedSimpArgs false
set_option linter.unusedVariables false

inductive Tag where
  | b
  | s
  | i (k : IntKind)
  deriving DecidableEq

def tagV : Value → Option Tag
  | .bool _ => some .b
  | .string _ => some .s
  | .int k _ => some (.i k)
  | _ => none

def tagP : PV → Option Tag
  | .bool _ => some .b
  | .str _ => some .s
  | .int k _ => some (.i k)
  | _ => none

/-- The kinds of a struct's cells, field by field. -/
def tagsFs (P : Program) (g : TypeId → Option (List Tag)) : List Field → Nat → Option (List Tag)
  | [], _ => some []
  | f :: fs, o => if f.offset = o ∧ (f.name != "_") = true then match g f.type with
      | some l => if l.length = P.cellsOf f.type then match tagsFs P g fs (o + l.length) with
          | some r => some (l ++ r)
          | none => none
        else none
      | none => none
    else none

/-- The kinds of a type's cells, where they are all numbers, texts and truths. -/
def tagsOf (P : Program) : Nat → TypeId → Option (List Tag)
  | 0, _ => none
  | d + 1, t => match P.underlying t with
    | some .bool => some [.b]
    | some .string => some [.s]
    | some (.int k) => some [.i k]
    | some (.array n e) => match tagsOf P d e with
      | some l => if l.length = P.cellsOf e then some (List.replicate n l).flatten else none
      | none => none
    | some (.struct fs) => if P.stoodInHeld t = false then tagsFs P (tagsOf P d) fs.toList 0 else none
    | _ => none

def Shp (P : Program) (t : TypeId) (x : Value) : Prop :=
  match P.underlying t with
  | some (.array _ _) | some (.struct _) => ∃ cs, x = .agg cs
  | _ => ∀ cs, x ≠ .agg cs

section
variable {P : Program} (w : World)

theorem tagV_cells {x : Value} {g : Tag} (h : tagV x = some g) : x.cells = #[x] := by
  cases x <;> first | rfl | (simp [tagV] at h; done)

theorem part_tag {e : TypeId} {d off : Nat} {l : List Tag} (hl : tagsOf P d e = some l) (hn : l.length = P.cellsOf e) {xs : Array Value} {p q : List (Option Tag)} (hp : p.length = off)
    (hx : xs.toList.map tagV = p ++ l.map some ++ q) : ∃ x, (part e xs off).run P w = .ok x w ∧ Shp P e x ∧ x.cells.toList.map tagV = l.map some ∧ x.cells.toList = (xs.toList.drop off).take l.length := by
  cases d with
  | zero => simp [tagsOf] at hl
  | succ d =>
    have hch : ((xs.toList.drop off).take l.length).map tagV = l.map some := by
      rw [List.map_take, List.map_drop, hx, ← hp, List.append_assoc, List.drop_left, ← List.length_map (f := some), List.take_left]
    cases hu : P.underlying e with
    | none => simp [tagsOf, hu] at hl
    | some u =>
      have aggc : (∃ n e', u = .array n e') ∨ (∃ fs, u = .struct fs) → ∃ x, (part e xs off).run P w = .ok x w ∧ Shp P e x ∧ x.cells.toList.map tagV = l.map some ∧ x.cells.toList = (xs.toList.drop off).take l.length := by
        intro hk
        obtain ⟨i, hi⟩ := info_of_underlying hu
        have he : (xs.extract off (off + P.cellsOf e)).toList = (xs.toList.drop off).take l.length := by
          rw [Array.toList_extract, hn]
          simp [List.extract]
        refine ⟨.agg (xs.extract off (off + P.cellsOf e)), ?_, ?_, ?_, he⟩
        · rcases hk with ⟨n, e', rfl⟩ | ⟨fs, rfl⟩ <;> simp [part, isAgg, run_underlying hu, run_sizeOf w hi]
        · rcases hk with ⟨n, e', rfl⟩ | ⟨fs, rfl⟩ <;> simp [Shp, hu]
        · show (xs.extract off (off + P.cellsOf e)).toList.map tagV = _
          rw [he]; exact hch
      have one : ∀ g, l = [g] → (∀ n e', u ≠ .array n e') → (∀ fs, u ≠ .struct fs) → ∃ x, (part e xs off).run P w = .ok x w ∧ Shp P e x ∧ x.cells.toList.map tagV = l.map some ∧ x.cells.toList = (xs.toList.drop off).take l.length := by
        intro g hg h1 h2
        subst hg
        have hlen : off < xs.toList.length := by
          have := congrArg List.length hx
          simp only [List.length_map, List.length_append, List.length_cons, List.length_nil] at this
          omega
        have hdt : (xs.toList.drop off).take 1 = [xs.toList[off]] := by
          rw [List.drop_eq_getElem_cons hlen]; simp
        have ht : tagV xs.toList[off] = some g := by
          have := hch
          simp only [List.length_cons, List.length_nil, Nat.zero_add, hdt, List.map_cons, List.map_nil, List.cons.injEq, and_true] at this
          exact this
        refine ⟨xs.toList[off], ?_, ?_, ?_, ?_⟩
        · have hxo : xs[off]? = some xs.toList[off] := by
            rw [← Array.getElem?_toList, List.getElem?_eq_getElem hlen]
          have hia : (isAgg e).run P w = .ok false w := by
            cases u <;> first | (simp [isAgg, run_underlying hu]; done) | exact absurd rfl (h1 _ _) | exact absurd rfl (h2 _)
          simp [part, hia, hxo]
        · unfold Shp
          rw [hu]
          cases u <;> first | exact absurd rfl (h1 _ _) | exact absurd rfl (h2 _) | (intro cs hc; rw [hc] at ht; simp [tagV] at ht)
        · rw [tagV_cells ht]; simpa using ht
        · rw [tagV_cells ht]; simp only [List.length_cons, List.length_nil, Nat.zero_add, hdt]
      cases u <;> simp only [tagsOf, hu] at hl <;> first
        | exact aggc (.inl ⟨_, _, rfl⟩)
        | exact aggc (.inr ⟨_, rfl⟩)
        | (cases hl; exact one _ rfl (by simp) (by simp))
        | (cases hl; done)

theorem split_eq {α : Type} {xs ys : List α} {off n : Nat} : (xs.drop off).take n = (ys.drop off).take n ∧ xs.drop (off + n) = ys.drop (off + n) ↔ xs.drop off = ys.drop off := by
  constructor
  · rintro ⟨h1, h2⟩
    rw [← List.take_append_drop n (xs.drop off), ← List.take_append_drop n (ys.drop off), h1, List.drop_drop, List.drop_drop, h2]
  · intro h
    exact ⟨by rw [h], by rw [← List.drop_drop, ← List.drop_drop, h]⟩

def EqT (P : Program) (dd : Nat) (e : TypeId) (l : List Tag) : Prop :=
  ∀ (w : World) (x y : Value), Shp P e x → Shp P e y → x.cells.toList.map tagV = l.map some → y.cells.toList.map tagV = l.map some →
    ∃ r : Bool, (Op.equalIn dd e x y).run P w = .ok r w ∧ (r = true ↔ x.cells.toList = y.cells.toList)

theorem eqItems_tag {dd d : Nat} {e : TypeId} {l : List Tag} (hl : tagsOf P d e = some l) (hn : l.length = P.cellsOf e) (IH : EqT P dd e l) {xs ys : Array Value} :
    ∀ (n i : Nat) (p p' : List (Option Tag)), p.length = i * P.cellsOf e → p'.length = i * P.cellsOf e → xs.toList.map tagV = p ++ (List.replicate n l).flatten.map some → ys.toList.map tagV = p' ++ (List.replicate n l).flatten.map some →
      ∃ r : Bool, (Op.eqItems dd e (P.cellsOf e) xs ys (List.range' i n)).run P w = .ok r w ∧ (r = true ↔ xs.toList.drop (i * P.cellsOf e) = ys.toList.drop (i * P.cellsOf e))
  | 0, i, p, p', hp, hp', hx, hy => by
    refine ⟨true, by simp [Op.eqItems], ?_⟩
    have h1 := congrArg List.length hx
    have h2 := congrArg List.length hy
    simp only [List.length_map, List.replicate_zero, List.flatten_nil, List.map_nil, List.append_nil] at h1 h2
    rw [List.drop_eq_nil_of_le (by omega), List.drop_eq_nil_of_le (by omega)]
    simp
  | n + 1, i, p, p', hp, hp', hx, hy => by
    have hr : (List.replicate (n + 1) l).flatten.map some = l.map some ++ (List.replicate n l).flatten.map some := by
      rw [List.replicate_succ, List.flatten_cons, List.map_append]
    rw [hr] at hx hy
    obtain ⟨x, hx1, hx2, hx3, hx4⟩ := part_tag w hl hn (xs := xs) (p := p) (q := (List.replicate n l).flatten.map some) hp (by rw [hx]; simp)
    obtain ⟨y, hy1, hy2, hy3, hy4⟩ := part_tag w hl hn (xs := ys) (p := p') (q := (List.replicate n l).flatten.map some) hp' (by rw [hy]; simp)
    obtain ⟨r, hr1, hr2⟩ := IH w x y hx2 hy2 hx3 hy3
    obtain ⟨r', hr3, hr4⟩ := eqItems_tag hl hn IH (xs := xs) (ys := ys) n (i + 1) (p ++ l.map some) (p' ++ l.map some) (by simp [hp, hn, Nat.succ_mul]) (by simp [hp', hn, Nat.succ_mul]) (by rw [hx, List.append_assoc]) (by rw [hy, List.append_assoc])
    rw [hx4, hy4, hn] at hr2
    rw [Nat.succ_mul] at hr4
    rw [List.range'_succ]
    simp only [Op.eqItems, Sem.run_bind, hx1, hy1, hr1, Result.andThen_ok]
    cases r
    · refine ⟨false, by simp, ?_⟩
      simp only [Bool.false_eq_true, false_iff]
      intro h
      exact absurd (hr2.mpr (split_eq.mpr h).1) (by simp)
    · refine ⟨r', by simpa using hr3, ?_⟩
      rw [hr4]
      exact ⟨fun h => split_eq.mp ⟨hr2.mp rfl, h⟩, fun h => (split_eq.mpr h).2⟩

theorem eqFields_tag {dd d : Nat} {xs ys : Array Value} (IH : ∀ e l, tagsOf P d e = some l → EqT P dd e l) :
    ∀ (fs : List Field) (o : Nat) (l : List Tag) (p p' : List (Option Tag)), tagsFs P (tagsOf P d) fs o = some l → p.length = o → p'.length = o → xs.toList.map tagV = p ++ l.map some → ys.toList.map tagV = p' ++ l.map some →
      ∃ r : Bool, (Op.eqFields dd xs ys fs).run P w = .ok r w ∧ (r = true ↔ xs.toList.drop o = ys.toList.drop o)
  | [], o, l, p, p', hl, hp, hp', hx, hy => by
    simp only [tagsFs, Option.some.injEq] at hl
    subst hl
    refine ⟨true, by simp [Op.eqFields], ?_⟩
    have h1 := congrArg List.length hx
    have h2 := congrArg List.length hy
    simp only [List.length_map, List.map_nil, List.append_nil] at h1 h2
    rw [List.drop_eq_nil_of_le (by omega), List.drop_eq_nil_of_le (by omega)]
    simp
  | f :: fs, o, l, p, p', hl, hp, hp', hx, hy => by
    simp only [tagsFs] at hl
    split at hl
    · rename_i hf
      split at hl
      · rename_i lf hlf
        split at hl
        · rename_i hn
          split at hl
          · rename_i r hr
            cases hl
            rw [List.map_append] at hx hy
            have hne : f.name ≠ "_" := by simpa using hf.2
            obtain ⟨x, hx1, hx2, hx3, hx4⟩ := part_tag w hlf hn (xs := xs) (p := p) (q := r.map some) (hp.trans hf.1.symm) (by rw [hx]; simp)
            obtain ⟨y, hy1, hy2, hy3, hy4⟩ := part_tag w hlf hn (xs := ys) (p := p') (q := r.map some) (hp'.trans hf.1.symm) (by rw [hy]; simp)
            obtain ⟨r1, hr1, hr2⟩ := IH _ _ hlf w x y hx2 hy2 hx3 hy3
            obtain ⟨r2, hr3, hr4⟩ := eqFields_tag IH fs (o + lf.length) r (p ++ lf.map some) (p' ++ lf.map some) hr (by simp [hp]) (by simp [hp']) (by rw [hx, List.append_assoc]) (by rw [hy, List.append_assoc])
            rw [hx4, hy4, hf.1] at hr2
            simp only [Op.eqFields, hne, ne_eq, not_false_eq_true, if_true, Sem.run_bind, hx1, hy1, hr1, Result.andThen_ok]
            cases r1
            · refine ⟨false, by simp, ?_⟩
              simp only [Bool.false_eq_true, false_iff]
              intro h
              exact absurd (hr2.mpr (split_eq.mpr h).1) (by simp)
            · refine ⟨r2, by simpa using hr3, ?_⟩
              rw [hr4]
              exact ⟨fun h => split_eq.mp ⟨hr2.mp rfl, h⟩, fun h => (split_eq.mpr h).2⟩
          · cases hl
        · cases hl
      · cases hl
    · cases hl

theorem eq_tag (dd : Nat) : ∀ (d : Nat) (e : TypeId) (l : List Tag), tagsOf P d e = some l → EqT P (dd + d) e l
  | 0, _, _, h => by simp [tagsOf] at h
  | d + 1, e, l, hl => by
    intro w x y sx sy hx hy
    unfold tagsOf at hl
    unfold Shp at sx sy
    cases hu : P.underlying e with
    | none => simp [hu] at hl
    | some u =>
      rw [hu] at hl sx sy
      have sc : ∀ {g : Tag} {z : Value}, (∀ cs, z ≠ .agg cs) → z.cells.toList.map tagV = [g].map some → tagV z = some g := by
        intro g z hz ht
        have hc : z.cells = #[z] := by cases z <;> first | rfl | exact absurd rfl (hz _)
        rw [hc] at ht
        simpa using ht
      cases u <;> simp only at hl sx sy <;> try (cases hl; done)
      case bool =>
        cases hl
        have hx' := sc sx hx
        have hy' := sc sy hy
        clear hx hy sx sy
        cases x <;> simp [tagV] at hx'
        cases y <;> simp [tagV] at hy'
        rename_i a b
        exact ⟨a == b, by rw [show dd + (d + 1) = (dd + d) + 1 from rfl]; exact run_equalIn_bool' w (dd + d) e a b hu, by simp [Value.cells]⟩
      case string =>
        cases hl
        have hx' := sc sx hx
        have hy' := sc sy hy
        clear hx hy sx sy
        cases x <;> simp [tagV] at hx'
        cases y <;> simp [tagV] at hy'
        rename_i a b
        refine ⟨a == b, by rw [show dd + (d + 1) = (dd + d) + 1 from rfl, beq_toListBytes]; exact run_equalIn_string w (dd + d) e a b hu, ?_⟩
        rw [beq_toListBytes]
        simp only [beq_iff_eq, Value.cells, List.cons.injEq, Value.string.injEq, and_true]
        exact ⟨fun h => by
          have : a.data.toList = b.data.toList := by rw [ByteArray.toList_eq, ByteArray.toList_eq] at h; exact h
          exact ByteArray.ext (Array.toList_inj.mp this), fun h => by rw [h]⟩
      case int k =>
        cases hl
        have hx' := sc sx hx
        have hy' := sc sy hy
        clear hx hy sx sy
        cases x <;> simp [tagV] at hx'
        cases y <;> simp [tagV] at hy'
        subst hx'; subst hy'
        rename_i a k b
        exact ⟨a == b, by rw [show dd + (d + 1) = (dd + d) + 1 from rfl]; exact run_equalIn_int w (dd + d) e _ _ a b hu, by simp [Value.cells]⟩
      case array n e' =>
        obtain ⟨xs, rfl⟩ := sx
        obtain ⟨ys, rfl⟩ := sy
        split at hl
        · rename_i l' hl'
          split at hl
          · rename_i hn
            cases hl
            have hi : ∃ i, P.info? e' = some i := by
              cases d with
              | zero => simp [tagsOf] at hl'
              | succ d' =>
                unfold tagsOf at hl'
                cases hue : P.underlying e' with
                | none => simp [hue] at hl'
                | some _ => exact info_of_underlying hue
            obtain ⟨i, hi⟩ := hi
            obtain ⟨r, hr1, hr2⟩ := eqItems_tag w hl' hn (eq_tag dd d e' l' hl') (xs := xs) (ys := ys) n 0 [] [] (by simp) (by simp) (by simpa using show xs.toList.map tagV = _ from hx) (by simpa using show ys.toList.map tagV = _ from hy)
            refine ⟨r, ?_, ?_⟩
            · rw [show dd + (d + 1) = (dd + d) + 1 from rfl, run_equalIn_array w (dd + d) xs ys hu hi, List.range_eq_range']
              exact hr1
            · rw [hr2]; simp [Value.cells]
          · cases hl
        · cases hl
      case struct fs =>
        obtain ⟨xs, rfl⟩ := sx
        obtain ⟨ys, rfl⟩ := sy
        split at hl
        · rename_i hs
          have hfs : P.fieldsOf e = fs := by simp [Program.fieldsOf, hu]
          obtain ⟨r, hr1, hr2⟩ := eqFields_tag w (xs := xs) (ys := ys) (fun e l h => eq_tag dd d e l h) fs.toList 0 l [] [] hl rfl rfl (by simpa using show xs.toList.map tagV = _ from hx) (by simpa using show ys.toList.map tagV = _ from hy)
          refine ⟨r, ?_, ?_⟩
          · rw [show dd + (d + 1) = (dd + d) + 1 from rfl, run_equalIn_struct w (dd + d) e xs ys (by rw [hfs]; exact hu) hs, hfs]
            exact hr1
          · rw [hr2]; simp [Value.cells]
        · cases hl
end

end Go.Proofs.SL
