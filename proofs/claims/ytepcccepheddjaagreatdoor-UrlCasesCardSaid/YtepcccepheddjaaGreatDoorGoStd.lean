/-
  The library's Join and Itoa at this program, as contracts of SL. No claim by itself.
-/
import Derived.Test.YtepcccepheddjaaGreatDoorGoM1
import Derived.Test.YtepcccepheddjaaGreatDoorSlM5
import Derived.Test.YtepcccepheddjaaGreatDoorShelf
import Derived.Lib.TrailingZeros
namespace Go.Proofs.GoC
open Go Go.Proofs.SL Go.RowKit Go.Sort
set_option linter.unusedSimpArgs false
set_option linter.unusedVariables false
set_option maxRecDepth 10000

theorem join_says : JoinSays Tryz.prog 80 := ⟨fun a c sep w => Tryz.strings_Join_none a c sep w, fun bk o c xs sep w h1 h2 h3 h4 h5 => Tryz.strings_Join bk o c xs sep w h1 h2 h3 h4 h5⟩

theorem c_strings_Join {H : Heap} (l : List (List UInt8)) (sep : List UInt8) (p : PV)
    (hp : (p = .nils ∧ l = []) ∨ p = .sl 1 (strs l) ∨ ∃ i ver tip, p = .buf i ver 0 l.length 1 tip ∧ H[i]? = some (some (.cells ver (strs l)))) (hl : l.length ≤ 1000000000) (hlen : (joinL sep l).length ≤ 140737488355328) :
    SCall Tryz.prog 80 [p, .str (bs sep)] H fun r' H' => r' = .str (bs (joinL sep l)) ∧ H' = H :=
  join_call Tryz.func80 rfl (by kernel_rfl) join_says l sep p hp hl hlen

/-- A variable's block stands in the heap, if the program has the variable. -/
def GVar (H : Heap) (name : String) (Q : Array Value → Prop) : Prop := ∀ b, Tryz.prog.globalNamed name = some b → ∃ (cs : Array Value) (t : TypeId) (fz : Nat × Nat), Q cs ∧ HasG H b (.cells cs t fz)
def powCells : Array Value := (Lib.pow10Tab.map fun z => Value.int .u64 z).toArray
def debTab : List Int := List.map (fun n : Nat => (n : Int)) Lib.deBruijn64tab
def debCells : Array Value := (debTab.map fun z => Value.int .u8 z).toArray

/-- The library's tables that the code comes to stand in the heap; and a number of its own. -/
structure GTab (H : Heap) : Prop where
  pow : GVar H "internal/strconv.uint64pow10" fun cs => cs = powCells
  deb : GVar H "math/bits.deBruijn64tab" fun cs => cs = debCells
  len : GVar H "internal/bytealg.MaxLen" fun cs => ∃ m, cs = #[.int .i64 m]

theorem GVar.app {H L : Heap} {name : String} {Q : Array Value → Prop} (h : GVar H name Q) : GVar (H ++ L) name Q := fun b hb => by
  obtain ⟨cs, t, fz, h1, h2⟩ := h b hb
  exact ⟨cs, t, fz, h1, h2.app⟩

theorem GTab.app {H L : Heap} (h : GTab H) : GTab (H ++ L) := ⟨h.pow.app, h.deb.app, h.len.app⟩

theorem tab_named : Tryz.prog.globalNamed "internal/strconv.uint64pow10" = some ((Tryz.prog.globalNamed "internal/strconv.uint64pow10").getD 0) := by kernel_rfl

theorem GTab.tab {H : Heap} (h : GTab H) {β : Nat → Option Nat} {w : World} (hI : SL.Inv β H w) : Lib.TabIs Tryz.prog w "internal/strconv.uint64pow10" .u64 Lib.pow10Tab := by
  obtain ⟨cs, t, fz, rfl, h2⟩ := h.pow _ tab_named
  unfold Lib.TabIs World.var?
  rw [tab_named]
  simp only [Option.bind_some, h2.block hI]
  rfl

/-- A contract of a function that comes to the table. -/
def GCall (f : FuncId) (args : List PV) (r : PV) : Prop := ∀ H, GTab H → SCall Tryz.prog f args H fun r' H' => r' = r ∧ H' = H

theorem GCall.on {f : FuncId} {args : List PV} {r : PV} (h : GCall f args r) {G : PV → Heap → Prop} {H : Heap} (hg : GTab H) (k : G r H) : SCall Tryz.prog f args H G :=
  (h H hg).mono fun r' H' ⟨h1, h2⟩ => by subst h1; subst h2; exact k

theorem decF_lib (n : Nat) : Lib.decDigits n = decF n := by
  induction n using Nat.strongRecOn with
  | _ n ih =>
    rw [Lib.decDigits, decF.eq_1]
    split
    · rename_i h; rw [Nat.mod_eq_of_lt h]
    · rw [ih (n / 10) (by omega)]

theorem below_grow (w : World) (k : Nat) (os : Array Obj) : Below w.heap.size w (grow (w.drewN k) os) := by
  refine ⟨rfl, rfl, rfl, ?_, fun i hi => ?_⟩
  · simp [grow, World.drewN]
  · simp [grow, World.drewN, Array.getElem?_append, hi]

theorem c_strconv_Itoa (n : Nat) (h : n ≤ 9223372036854775807) : GCall 61 [.int .i64 n] (.str (bs (decF n))) := by
  intro H hG
  refine scall_lift Tryz.func61 rfl (by kernel_rfl) fun β w vs hI hs hv => ?_
  obtain ⟨v, rfl, hx⟩ := vals1 hs hv
  rw [hx.int_inv]
  refine (Tryz.strconv_Itoa (n : Int) (by omega) (by omega) w (hG.tab hI)).mono fun e w' ⟨he, k, os, hw⟩ => ⟨_, he, ?_, fun β' w2 => ?_⟩
  · rw [hw]; exact below_grow w k os
  · rw [show Lib.itoa (n : Int) = decF n by unfold Lib.itoa; rw [if_neg (by omega)]; simp [decF_lib]]
    exact .str _

theorem c_text_Decimal (n : Nat) (h : n ≤ 9223372036854775807) : GCall 34 [.int .i64 n] (.str (bs (decF n))) := by
  intro H hG
  refine scall_of (ord := fun _ => []) (rs := [2]) Tryz.func34 rfl (by kernel_rfl) (by kernel_rfl) (by kernel_rfl) Tryz.ntmps34 fun hb _ => go 100 (fun t => false) mixed ?_
  simp only [↓reduceIte, go_sem]
  refine (c_strconv_Itoa n h).on hG (go 100 (fun t => false) mixed ?_)
  simp only [↓reduceIte, go_sem]
  exact fin rfl rfl
end Go.Proofs.GoC
