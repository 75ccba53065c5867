/-
  The library's Join and Itoa at this program, as contracts of SL. No claim by itself.
-/
import Derived.Test.YtmgemdgbffmnjaaGoM1
import Derived.Test.YtmgemdgbffmnjaaSlM5
import Derived.Test.YtmgemdgbffmnjaaShelf
import Derived.Lib.TrailingZeros
import Derived.Sort.Grow
import Derived.Lib.ItoaNum
namespace Go.Proofs.GoC
open Go Go.Proofs.SL Go.RowKit Go.Sort
set_option linter.unusedSimpArgs false
set_option linter.unusedVariables false
set_option maxRecDepth 10000

theorem join_says : JoinSays Try.prog 95 := ⟨fun a c sep w => Try.strings_Join_none a c sep w, fun bk o c xs sep w h1 h2 h3 h4 h5 => Try.strings_Join bk o c xs sep w h1 h2 h3 h4 h5⟩

theorem c_strings_Join {H : Heap} (l : List (List UInt8)) (sep : List UInt8) (p : PV)
    (hp : (p = .nils ∧ l = []) ∨ p = .sl 1 (strs l) ∨ ∃ i ver tip, p = .buf i ver 0 l.length 1 tip ∧ H[i]? = some (some (.cells ver (strs l)))) (hl : l.length ≤ 1000000000) (hlen : (joinL sep l).length ≤ 140737488355328) :
    SCall Try.prog 95 [p, .str (bs sep)] H fun r' H' => r' = .str (bs (joinL sep l)) ∧ H' = H :=
  join_call Try.func95 rfl (by kernel_rfl) join_says l sep p hp hl hlen

/-- A variable's block stands in the heap, if the program has the variable. -/
def GVar (H : Heap) (name : String) (Q : Array Value → Prop) : Prop := ∀ b, Try.prog.globalNamed name = some b → ∃ (cs : Array Value) (t : TypeId) (fz : Nat × Nat), Q cs ∧ HasG H b (.cells cs t fz)
def powCells : Array Value := (Lib.pow10Tab.map fun z => Value.int .u64 z).toArray
def debTab : List Int := List.map (fun n : Nat => (n : Int)) Lib.deBruijn64tab
def debCells : Array Value := (debTab.map fun z => Value.int .u8 z).toArray

/-- The library's tables that the code comes to stand in the heap; and a number of its own. -/
structure GTab (H : Heap) : Prop where
  pow : GVar H "internal/strconv.uint64pow10" fun cs => cs = powCells
  deb : GVar H "math/bits.deBruijn64tab" fun cs => cs = debCells
  len : GVar H "internal/bytealg.MaxLen" fun cs => ∃ m, cs = #[.int .i64 m]

theorem GVar.app {H L : Heap} {name : String} {Q : Array Value → Prop} (h : GVar H name Q) : GVar (H ++ L) name Q := fun b hb => by
  obtain ⟨cs, t, fz, h1, h2⟩ := h b hb
  exact ⟨cs, t, fz, h1, h2.app⟩

theorem GTab.app {H L : Heap} (h : GTab H) : GTab (H ++ L) := ⟨h.pow.app, h.deb.app, h.len.app⟩

/-- A contract of a function that comes to the table. -/
def GCall (f : FuncId) (args : List PV) (r : PV) : Prop := ∀ H, GTab H → SCall Try.prog f args H fun r' H' => r' = r ∧ H' = H

theorem GCall.on {f : FuncId} {args : List PV} {r : PV} (h : GCall f args r) {G : PV → Heap → Prop} {H : Heap} (hg : GTab H) (k : G r H) : SCall Try.prog f args H G :=
  (h H hg).mono fun r' H' ⟨h1, h2⟩ => by subst h1; subst h2; exact k

theorem decF_lib (n : Nat) : Lib.decDigits n = decF n := by
  induction n using Nat.strongRecOn with
  | _ n ih =>
    rw [Lib.decDigits, decF.eq_1]
    split
    · rename_i h; rw [Nat.mod_eq_of_lt h]
    · rw [ih (n / 10) (by omega)]

end Go.Proofs.GoC
