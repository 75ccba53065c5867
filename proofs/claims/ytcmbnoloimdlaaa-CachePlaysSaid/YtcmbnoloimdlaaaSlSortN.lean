/-
  SL: slices.SortFunc at no element. No claim by itself.
-/
import Derived.Test.YtcmbnoloimdlaaaSlSortC
import Derived.Shelf.SlSortCmp.NoneTotal
namespace Go.Proofs.SL
open Go Go.Proofs Go.Shelf Go.RowKit Go.Lib Go.Sort

theorem sort_none {P : Program} {ρ : Go.Shelf.Ren} (L : SlLaysF0.n6 P ρ) {H : Heap} {i ver off m : Nat} {tip : Bool} {fp : PV} : SCall P (ρ.f 6) [.buf i ver off 0 m tip, fp] H fun r H' => r = .tup [] ∧ H' = H := by
  refine ⟨L.f6.enters rfl, fun β w vs hI hs hvs => ?_⟩
  obtain ⟨a, fv, rfl⟩ : ∃ a fv, vs = #[a, fv] := by
    obtain ⟨l⟩ := vs
    match l, hs with
    | [a, fv], _ => exact ⟨a, fv, rfl⟩
  obtain ⟨av, cap, rfl, _⟩ := (hvs 0 a _ rfl rfl).buf_inv
  refine (AnyF.slices_SortFunc_none L av cap fv w).mono ?_
  rintro e w' ⟨rfl, rfl⟩
  exact ⟨_, .tup [], β, H, rfl, hI, Ext.refl .., .tup _ _ rfl fun j v p hv hp => by simp at hv, rfl, rfl⟩
end Go.Proofs.SL
