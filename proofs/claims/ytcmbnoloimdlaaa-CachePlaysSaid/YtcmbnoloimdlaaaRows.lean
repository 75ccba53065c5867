/-
  No cell of these rows narrows 'for every input' (looked for: loops, veiled, ifaces, maps, wideKeys, modest, calm, conditions, laid).
  DERIVED. THE GIVEN ROWS OF THIS SEAT. 5 by the template 'for every input the law returns true; each argument reads behind the call as it read before'; 0 by the template 'total and deterministic' (their statements: YtcmbnoloimdlaaaTotals.lean).
  GIVEN WITH THE SEED: the statements are not yours to turn. If you find one false, say at which input.
  Laid BY PROGRAM, IN A SANDBOX (cutbox-rows.mjs): the forced cells as the released guide's own fill.sh prints them over the translation 10d38e08cb87823a… (all of the seat's roots in one cut). By AI agents, Wed Nov 11 2026. No macro, syntax, notation, axiom, sorry.
-/
import Derived.Test.YtcmbnoloimdlaaaChecked
import GoSem.Claim
import GoSem.ClaimJoined
import GoSem.ClaimMapViews
import Derived.JoinedTies
import Derived.KernelRfl
namespace Go.Proofs.Ytcmbnoloimdlaaa
/- THE CELL 'sum', in the pinned program and in every row, IS THE sha256 OF THE DUMP (.gsa) THAT YtcmbnoloimdlaaaProg.lean LOADS. Nothing in Lean hashes anything: it is a label: what it is worth is what the hold of that sum in a sandbox is worth. -/
noncomputable def Try.pinned : Pinned := { name := "ytcmbnoloimdlaaa", sum := "10d38e08cb87823a0563d9f3e389d93f89ce3c01c6aaadf221c742d892612e50", checked := Try.checked }
namespace Rows
def none {H : Type} : Left H := { results := [], args := [] }

/-- 'abatislaw10.CacheLets': WHATEVER THE INPUT: true; the input reads as it did. -/
def cacheLetsSpec : ChangeSpec := { name := "cacheLets", fn := fun _ => fun
  | [d1, d2] => { results := [.lit (.bool true)], args := [d1, d2] }
  | _ => none }
def cacheLetsRow : OpenClaim := { program := "ytcmbnoloimdlaaa", sum := "10d38e08cb87823a0563d9f3e389d93f89ce3c01c6aaadf221c742d892612e50", func := "abatis/abatislaw10.CacheLets", spec := "cacheLets", unfollowed := true, recurses := true, plainKeys := false, apart := false }
def CacheLetsSaid : Prop := cacheLetsRow.holds Try.pinned (OpenSpec.ofChange cacheLetsSpec)

/-- ITS FALSE NEIGHBOUR: 'it returns false'. Refute it at one input. -/
def cacheLetsWrong : ChangeSpec := { name := "cacheLets", fn := fun _ => fun
  | [d1, d2] => { results := [.lit (.bool false)], args := [d1, d2] }
  | _ => none }
def CacheLetsWrongFalsely : Prop := cacheLetsRow.holds Try.pinned (OpenSpec.ofChange cacheLetsWrong)

/-- 'abatislaw10.CacheSweeps': WHATEVER THE INPUT: true; the input reads as it did. -/
def cacheSweepsSpec : ChangeSpec := { name := "cacheSweeps", fn := fun _ => fun
  | [d1, d2] => { results := [.lit (.bool true)], args := [d1, d2] }
  | _ => none }
def cacheSweepsRow : OpenClaim := { program := "ytcmbnoloimdlaaa", sum := "10d38e08cb87823a0563d9f3e389d93f89ce3c01c6aaadf221c742d892612e50", func := "abatis/abatislaw10.CacheSweeps", spec := "cacheSweeps", unfollowed := true, recurses := true, plainKeys := false, apart := false }
def CacheSweepsSaid : Prop := cacheSweepsRow.holds Try.pinned (OpenSpec.ofChange cacheSweepsSpec)

/-- ITS FALSE NEIGHBOUR: 'it returns false'. Refute it at one input. -/
def cacheSweepsWrong : ChangeSpec := { name := "cacheSweeps", fn := fun _ => fun
  | [d1, d2] => { results := [.lit (.bool false)], args := [d1, d2] }
  | _ => none }
def CacheSweepsWrongFalsely : Prop := cacheSweepsRow.holds Try.pinned (OpenSpec.ofChange cacheSweepsWrong)

/-- 'abatislaw10.CacheTypes': WHATEVER THE INPUT: true; the input reads as it did. -/
def cacheTypesSpec : ChangeSpec := { name := "cacheTypes", fn := fun _ => fun
  | [d1, d2, d3, d4] => { results := [.lit (.bool true)], args := [d1, d2, d3, d4] }
  | _ => none }
def cacheTypesRow : OpenClaim := { program := "ytcmbnoloimdlaaa", sum := "10d38e08cb87823a0563d9f3e389d93f89ce3c01c6aaadf221c742d892612e50", func := "abatis/abatislaw10.CacheTypes", spec := "cacheTypes", unfollowed := true, recurses := true, plainKeys := false, apart := false }
def CacheTypesSaid : Prop := cacheTypesRow.holds Try.pinned (OpenSpec.ofChange cacheTypesSpec)

/-- ITS FALSE NEIGHBOUR: 'it returns false'. Refute it at one input. -/
def cacheTypesWrong : ChangeSpec := { name := "cacheTypes", fn := fun _ => fun
  | [d1, d2, d3, d4] => { results := [.lit (.bool false)], args := [d1, d2, d3, d4] }
  | _ => none }
def CacheTypesWrongFalsely : Prop := cacheTypesRow.holds Try.pinned (OpenSpec.ofChange cacheTypesWrong)

/-- 'abatislaw10.CacheTells': WHATEVER THE INPUT: true; the input reads as it did. -/
def cacheTellsSpec : ChangeSpec := { name := "cacheTells", fn := fun _ => fun
  | [d1, d2, d3, d4, d5] => { results := [.lit (.bool true)], args := [d1, d2, d3, d4, d5] }
  | _ => none }
def cacheTellsRow : OpenClaim := { program := "ytcmbnoloimdlaaa", sum := "10d38e08cb87823a0563d9f3e389d93f89ce3c01c6aaadf221c742d892612e50", func := "abatis/abatislaw10.CacheTells", spec := "cacheTells", unfollowed := true, recurses := true, plainKeys := false, apart := false }
def CacheTellsSaid : Prop := cacheTellsRow.holds Try.pinned (OpenSpec.ofChange cacheTellsSpec)

/-- ITS FALSE NEIGHBOUR: 'it returns false'. Refute it at one input. -/
def cacheTellsWrong : ChangeSpec := { name := "cacheTells", fn := fun _ => fun
  | [d1, d2, d3, d4, d5] => { results := [.lit (.bool false)], args := [d1, d2, d3, d4, d5] }
  | _ => none }
def CacheTellsWrongFalsely : Prop := cacheTellsRow.holds Try.pinned (OpenSpec.ofChange cacheTellsWrong)

/-- 'abatislaw10.CachePlays': WHATEVER THE INPUT: true; the input reads as it did. -/
def cachePlaysSpec : ChangeSpec := { name := "cachePlays", fn := fun _ => fun
  | [d1, d2] => { results := [.lit (.bool true)], args := [d1, d2] }
  | _ => none }
def cachePlaysRow : OpenClaim := { program := "ytcmbnoloimdlaaa", sum := "10d38e08cb87823a0563d9f3e389d93f89ce3c01c6aaadf221c742d892612e50", func := "abatis/abatislaw10.CachePlays", spec := "cachePlays", unfollowed := true, recurses := true, plainKeys := false, apart := false }
def CachePlaysSaid : Prop := cachePlaysRow.holds Try.pinned (OpenSpec.ofChange cachePlaysSpec)

/-- ITS FALSE NEIGHBOUR: 'it returns false'. Refute it at one input. -/
def cachePlaysWrong : ChangeSpec := { name := "cachePlays", fn := fun _ => fun
  | [d1, d2] => { results := [.lit (.bool false)], args := [d1, d2] }
  | _ => none }
def CachePlaysWrongFalsely : Prop := cachePlaysRow.holds Try.pinned (OpenSpec.ofChange cachePlaysWrong)

/- THE SECOND FORM. 'bulk': how many values and letters a reading holds, each counted each time it is reached (what is shared counts as often as it is met; a slice's spare places count too). A statement '..UptoSaid' is the law's where the arguments, and the package variables that the reading takes, are together of bulk at most 1048576: NARROWER than '..Said'. Prove '..Said' where nothing that the law and all that it calls make is longer than what came in: it says more and counts as full. Else prove '..UptoSaid'. A law counts once. -/
mutual
def uptoBulk {H : Type} : DataW H → Nat
  | .lit (.string bytes) => bytes.length + 1
  | .lit _ => 1
  | .nil => 1
  | .ptr d => uptoBulk d + 1
  | .slice elems spare => uptoBulkAll elems + uptoBulkAll spare + 1
  | .agg parts => uptoBulkAll parts + 1
  | .iface _ d => uptoBulk d + 1
  | .map entries => uptoBulkEntries entries + 1
  | .held _ => 1
def uptoBulkAll {H : Type} : List (DataW H) → Nat
  | [] => 0
  | d :: r => uptoBulk d + uptoBulkAll r
def uptoBulkEntries {H : Type} : List (Lit × DataW H) → Nat
  | [] => 0
  | x :: r => uptoBulkEntry x + uptoBulkEntries r
def uptoBulkEntry {H : Type} : Lit × DataW H → Nat
  | (.string bytes, d) => bytes.length + uptoBulk d + 1
  | (_, d) => uptoBulk d + 1
 end
def uptoSmall : (H : Type) → List (DataW H) → Bool := fun _ ds => decide (uptoBulkAll ds ≤ 1048576)
def OpenSpec.upto (s : _root_.Go.ChangeSpec) : _root_.Go.OpenSpec := { _root_.Go.OpenSpec.ofChange s with cond := some uptoSmall }

/-- 'abatislaw10.CacheLets', WHERE WHAT IT READS IS OF BULK AT MOST 1048576: true; the input reads as it did. -/
def cacheLetsUptoRow : OpenClaim := { program := "ytcmbnoloimdlaaa", sum := "10d38e08cb87823a0563d9f3e389d93f89ce3c01c6aaadf221c742d892612e50", func := "abatis/abatislaw10.CacheLets", spec := "cacheLets", unfollowed := true, recurses := true, plainKeys := false, apart := false, narrowed := true }
def CacheLetsUptoSaid : Prop := cacheLetsUptoRow.holds Try.pinned (OpenSpec.upto cacheLetsSpec)

/-- 'abatislaw10.CacheSweeps', WHERE WHAT IT READS IS OF BULK AT MOST 1048576: true; the input reads as it did. -/
def cacheSweepsUptoRow : OpenClaim := { program := "ytcmbnoloimdlaaa", sum := "10d38e08cb87823a0563d9f3e389d93f89ce3c01c6aaadf221c742d892612e50", func := "abatis/abatislaw10.CacheSweeps", spec := "cacheSweeps", unfollowed := true, recurses := true, plainKeys := false, apart := false, narrowed := true }
def CacheSweepsUptoSaid : Prop := cacheSweepsUptoRow.holds Try.pinned (OpenSpec.upto cacheSweepsSpec)

/-- 'abatislaw10.CacheTypes', WHERE WHAT IT READS IS OF BULK AT MOST 1048576: true; the input reads as it did. -/
def cacheTypesUptoRow : OpenClaim := { program := "ytcmbnoloimdlaaa", sum := "10d38e08cb87823a0563d9f3e389d93f89ce3c01c6aaadf221c742d892612e50", func := "abatis/abatislaw10.CacheTypes", spec := "cacheTypes", unfollowed := true, recurses := true, plainKeys := false, apart := false, narrowed := true }
def CacheTypesUptoSaid : Prop := cacheTypesUptoRow.holds Try.pinned (OpenSpec.upto cacheTypesSpec)

/-- 'abatislaw10.CacheTells', WHERE WHAT IT READS IS OF BULK AT MOST 1048576: true; the input reads as it did. -/
def cacheTellsUptoRow : OpenClaim := { program := "ytcmbnoloimdlaaa", sum := "10d38e08cb87823a0563d9f3e389d93f89ce3c01c6aaadf221c742d892612e50", func := "abatis/abatislaw10.CacheTells", spec := "cacheTells", unfollowed := true, recurses := true, plainKeys := false, apart := false, narrowed := true }
def CacheTellsUptoSaid : Prop := cacheTellsUptoRow.holds Try.pinned (OpenSpec.upto cacheTellsSpec)

/-- 'abatislaw10.CachePlays', WHERE WHAT IT READS IS OF BULK AT MOST 1048576: true; the input reads as it did. -/
def cachePlaysUptoRow : OpenClaim := { program := "ytcmbnoloimdlaaa", sum := "10d38e08cb87823a0563d9f3e389d93f89ce3c01c6aaadf221c742d892612e50", func := "abatis/abatislaw10.CachePlays", spec := "cachePlays", unfollowed := true, recurses := true, plainKeys := false, apart := false, narrowed := true }
def CachePlaysUptoSaid : Prop := cachePlaysUptoRow.holds Try.pinned (OpenSpec.upto cachePlaysSpec)

end Rows
end Go.Proofs.Ytcmbnoloimdlaaa
