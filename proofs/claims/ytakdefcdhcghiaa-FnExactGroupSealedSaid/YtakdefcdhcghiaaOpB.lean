/-
  From the reading of an argument to the words of the walks: slices of truth values.
-/
import Derived.Test.YtakdefcdhcghiaaOpen
import Derived.Test.YtakdefcdhcghiaaBools
import Derived.Deep.Grids
namespace Go.Proofs.Ytakdefcdhcghiaa
open Go.ChangeShapes Go.WideShapes Go.ChangeAt Go.RowKit Go.Deep
section
variable {H : Type} {enc : TypeId × Value → H} {P : Program} {w : World} {base : Nat} {held : Bool}
theorem openB {t e : TypeId} {A : Option Addr} {n c fuel : Nat} {x : DataW H × List MemPlace} (ht : P.underlying t = some (.slice e)) (he : P.underlying e = some .bool) (hC : P.cellsOf e = 1)
    (h : DataW.trod enc P w base (fun _ => true) held fuel t [.slice A n c] = some x) :
    ∃ zs : List Bool, Rd w 1 A n c (zs.map Value.bool) ∧ True := by
  rcases Go.Deep.open_bools ht he hC h with ⟨hcs, _⟩ | ⟨a, len, cap, B, hcs, _, hl, hm, _, hcell⟩
  · simp only [List.cons.injEq, Value.slice.injEq, and_true] at hcs
    obtain ⟨rfl, rfl, rfl⟩ := hcs
    exact ⟨[], Rd.nil (by omega), trivial⟩
  · simp only [List.cons.injEq, Value.slice.injEq, and_true] at hcs
    obtain ⟨rfl, rfl, rfl⟩ := hcs
    refine ⟨(List.range n).map B, ⟨by simp, hl, by unfold maxLen at hm; exact hm, fun hn => ?_⟩, trivial⟩
    have h0 := hcell 0 (by omega)
    have ha : a = ⟨a.block, a.off, none⟩ := by
      have := spot_none h0
      simpa [Addr.add] using this
    refine ⟨a.block, a.off, by rw [← ha], fun j u hu => ?_⟩
    have hj := (List.getElem?_eq_some_iff.1 hu).1
    simp only [List.length_map, List.length_range] at hj
    have h1 := hcell j (by omega)
    rw [ha, add_none] at h1
    rw [h1]
    rw [List.getElem?_map, List.getElem?_map, List.getElem?_range hj] at hu
    exact hu
end
end Go.Proofs.Ytakdefcdhcghiaa
