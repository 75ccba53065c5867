/-
  SL: from a contract in the empty heap to what a row asks for. No claim by itself.
-/
import Derived.Test.YtdgikagnkbphoaaDoorSlStr
import Derived.Below
namespace Go.Proofs.SL
open Go Go.RowKit

/-- A law that gives true, whatever the world: its call returns true, and all that was there stays. -/
theorem law_walk {P : Program} {f : FuncId} {args : List PV} (h : PCall P f args (.bool true)) {vs : Array Value} {w : World} (hs : vs.size = args.length)
    (hv : ∀ (i : Nat) (v : Value) (p : PV), vs[i]? = some v → args[i]? = some p → V (fun _ => none) [] w v p) :
    Calls P f vs w fun e w' => e = .returned (.bool true) ∧ Below w.heap.size w w' := by
  refine ((h []).2 (fun _ => none) w vs ⟨fun i o ho => by simp at ho, fun i j b hi _ => by obtain ⟨o, ho⟩ := hi; simp at ho⟩ hs hv).mono ?_
  rintro e w' ⟨v, r, β', H', rfl, h1, h2, h3, rfl, h5⟩
  rw [h3.bool_inv]
  refine ⟨rfl, h2.os, h2.tape, h2.output, h2.size, fun k hk => (h2.imm k ⟨hk, fun i hi => ?_⟩).1⟩
  obtain ⟨o, ho⟩ := hi
  simp at ho

theorem wf_in {k : IntKind} {n : Int} (h : (Lit.int k n).wf = true) : k.min ≤ n ∧ n ≤ k.max := by
  simpa only [Lit.wf, Bool.and_eq_true, decide_eq_true_eq] using h
theorem i64_of {n : Int} (h : (Lit.int .i64 n).wf = true) : -9223372036854775808 ≤ n ∧ n ≤ 9223372036854775807 := wf_in h
theorem nat_of {n m : Int} (h : 0 ≤ n ∧ n ≤ m) : ∃ k : Nat, n = k ∧ k ≤ m.toNat := ⟨n.toNat, by omega, by omega⟩
theorem u8_of {n : Int} (h : (Lit.int .u8 n).wf = true) : ∃ m : Nat, n = m ∧ m ≤ 255 := nat_of (m := 255) (wf_in h)
theorem u16_of {n : Int} (h : (Lit.int .u16 n).wf = true) : ∃ m : Nat, n = m ∧ m ≤ 65535 := nat_of (m := 65535) (wf_in h)
theorem u32_of {n : Int} (h : (Lit.int .u32 n).wf = true) : ∃ m : Nat, n = m ∧ m ≤ 4294967295 := nat_of (m := 4294967295) (wf_in h)
theorem u64_of {n : Int} (h : (Lit.int .u64 n).wf = true) : ∃ m : Nat, n = m ∧ m ≤ 18446744073709551615 := nat_of (m := 18446744073709551615) (wf_in h)

end Go.Proofs.SL
