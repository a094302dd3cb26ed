/-
  From the reading of an argument to the words of the walks: slices of slices of numbers.
-/
import Derived.Test.YtakdefcdhcghiaaOpen
import Derived.Test.YtakdefcdhcghiaaRows2
import Derived.Deep.Matrix
namespace Go.Proofs.Ytakdefcdhcghiaa
open Go.ChangeShapes Go.WideShapes Go.ChangeAt Go.RowKit Go.Deep
section
variable {H : Type} {enc : TypeId × Value → H} {P : Program} {w : World} {base : Nat} {held : Bool}
theorem openRows {t e q : TypeId} {A : Option Addr} {n c fuel : Nat} {x : DataW H × List MemPlace} (ht : P.underlying t = some (.slice e)) (he : P.underlying e = some (.slice q)) (hq : P.underlying q = some (.int .i64))
    (ce : P.cellsOf e = 1) (cq : P.cellsOf q = 1) (h : DataW.trod enc P w base (fun _ => true) held fuel t [.slice A n c] = some x) :
    ∃ xss, RdR w A n c xss ∧ ∀ r ∈ xss, ∀ z ∈ r, Fits z := by
  rcases Go.Deep.open_int_rows ht he hq ce cq h with ⟨hcs, _⟩ | ⟨a, len, cap, AA, LL, CC, Z, hcs, _, hl, hm, _, hr⟩
  · simp only [List.cons.injEq, Value.slice.injEq, and_true] at hcs
    obtain ⟨rfl, rfl, rfl⟩ := hcs
    exact ⟨[], ⟨[], Rd.nil (by omega), rfl, by simp⟩, by simp⟩
  · simp only [List.cons.injEq, Value.slice.injEq, and_true] at hcs
    obtain ⟨rfl, rfl, rfl⟩ := hcs
    have hhd : ∀ i (x : Hd), ((List.range n).map fun i => ((AA i, LL i, CC i) : Hd))[i]? = some x → i < n ∧ x = (AA i, LL i, CC i) := fun i x hi => by
      have hlt := (List.getElem?_eq_some_iff.1 hi).1
      simp only [List.length_map, List.length_range] at hlt
      rw [List.getElem?_map, List.getElem?_range hlt] at hi
      simp only [Option.map_some, Option.some.injEq] at hi
      exact ⟨hlt, hi.symm⟩
    have hrow : ∀ i, i < n → Rd w 1 (AA i) (LL i) (CC i) (cI ((Z i).take (LL i))) := fun i hi => by
      obtain ⟨_, h2, h3, h4, h5, h6, h7⟩ := hr i (by omega)
      refine ⟨by simp only [cI, List.length_map, List.length_take]; omega, h2, by unfold maxLen at h3; exact h3, fun hp => ?_⟩
      cases hA : AA i with
      | none => have := h6 hA; omega
      | some a' =>
        obtain ⟨_, h8⟩ := h7 a' hA
        have h0 := h8 0 (by omega)
        have ha : a' = ⟨a'.block, a'.off, none⟩ := by
          have := spot_none h0
          simpa [Addr.add] using this
        refine ⟨a'.block, a'.off, by rw [← ha], fun j u hu => ?_⟩
        have hj := (List.getElem?_eq_some_iff.1 hu).1
        simp only [cI, List.length_map, List.length_take] at hj
        have h1 := h8 j (by omega)
        rw [ha, add_none] at h1
        rw [h1]
        simp only [cI] at hu
        rw [List.getElem?_map, List.getElem?_take, if_pos (by omega)] at hu
        rw [← hu, List.getD_eq_getElem?_getD, List.getElem?_eq_getElem (by omega)]
        rfl
    refine ⟨(List.range n).map fun i => (Z i).take (LL i), ⟨(List.range n).map fun i => (AA i, LL i, CC i), ⟨by simp, hl, by unfold maxLen at hm; exact hm, fun hp => ?_⟩, by simp, fun i x xs hi hx => ?_⟩, fun r hrr z hz => ?_⟩
    · have h0 := (hr 0 (by omega)).1
      have ha : a = ⟨a.block, a.off, none⟩ := by
        have := spot_none h0
        simpa [Addr.add] using this
      refine ⟨a.block, a.off, by rw [← ha], fun j u hu => ?_⟩
      rw [List.getElem?_map] at hu
      obtain ⟨x, hx, rfl⟩ := Option.map_eq_some_iff.1 hu
      obtain ⟨hj, rfl⟩ := hhd j x hx
      have h1 := (hr j (by omega)).1
      rw [ha, add_none] at h1
      exact h1
    · obtain ⟨hj, rfl⟩ := hhd i x hi
      rw [List.getElem?_map, List.getElem?_range hj] at hx
      simp only [Option.map_some, Option.some.injEq] at hx
      subst hx
      exact hrow i hj
    · obtain ⟨i, hi, rfl⟩ := List.mem_map.1 hrr
      have hi' : i < n := by simpa using hi
      obtain ⟨_, _, _, _, h5, _⟩ := hr i (by omega)
      exact fits_of_wf (h5 z (List.mem_of_mem_take hz))
end
end Go.Proofs.Ytakdefcdhcghiaa
