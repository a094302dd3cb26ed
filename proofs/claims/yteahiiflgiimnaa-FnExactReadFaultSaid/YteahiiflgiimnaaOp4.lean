/-
  From the reading of an argument to the words of the walks: slices of structs of 4 numbers.
-/
import Derived.Test.YteahiiflgiimnaaOpen
import Derived.Test.YteahiiflgiimnaaAg4
namespace Go.Proofs.Yteahiiflgiimnaa
open Go.ChangeShapes Go.WideShapes Go.ChangeAt Go.RowKit Go.Deep
section
variable {H : Type} {enc : TypeId × Value → H} {P : Program} {w : World} {base : Nat} {spare : Nat → Bool} {held : Bool}
theorem open4 {t e : TypeId} {fs : Array Field} {A : Option Addr} {n c fuel : Nat} {x : DataW H × List MemPlace} (ht : P.underlying t = some (.slice e)) (he : P.underlying e = some (.struct fs))
    (hone : oneCellFields P fs = true) (hC : P.cellsOf e = fs.size) (hpos : fs.size = 4) (hint : ∀ (i : Nat) (f : Field), fs[i]? = some f → P.underlying f.type = some (.int .i64))
    (h : DataW.trod enc P w base spare held fuel t [.slice A n c] = some x) :
    ∃ ms, Rd w 4 A n c (c4 ms) ∧ ∀ m ∈ ms, Fits m.1 ∧ Fits m.2.1 ∧ Fits m.2.2.1 ∧ Fits m.2.2.2 := by
  obtain ⟨h1, h2, h3⟩ := open_rows ht he hone hC (by omega) hint h
  rw [hpos] at h3
  rcases Nat.eq_zero_or_pos n with rfl | hn
  · exact ⟨[], Rd.nil h2, by simp⟩
  · obtain ⟨b, off, rfl, hc⟩ := h3 hn
    obtain ⟨ms, hl, hm⟩ := exists_list (p := fun i (m : Int × Int × Int × Int) => (w.cell? ⟨b, off + (i * 4 + 0), none⟩ = some (.int .i64 m.1) ∧ Fits m.1) ∧ (w.cell? ⟨b, off + (i * 4 + 1), none⟩ = some (.int .i64 m.2.1) ∧ Fits m.2.1) ∧ (w.cell? ⟨b, off + (i * 4 + 2), none⟩ = some (.int .i64 m.2.2.1) ∧ Fits m.2.2.1) ∧ (w.cell? ⟨b, off + (i * 4 + 3), none⟩ = some (.int .i64 m.2.2.2) ∧ Fits m.2.2.2)) n (fun i hi => by
      obtain ⟨z0, g0⟩ := hc i hi 0 (by omega)
      obtain ⟨z1, g1⟩ := hc i hi 1 (by omega)
      obtain ⟨z2, g2⟩ := hc i hi 2 (by omega)
      obtain ⟨z3, g3⟩ := hc i hi 3 (by omega)
      exact ⟨(z0, z1, z2, z3), g0, g1, g2, g3⟩)
    refine ⟨ms, ⟨by rw [c4_len, hl], h1, h2, fun _ => ⟨b, off, rfl, fun j u hu => ?_⟩⟩, fun m hmm => ?_⟩
    · obtain ⟨m, hx, hj⟩ := flat_inv e4_len (by omega) ms j u hu
      have hq := hm _ _ hx
      have h3 : j % 4 < 4 := Nat.mod_lt _ (by omega)
      have hd : j / 4 * 4 + j % 4 = j := Nat.div_add_mod' j 4
      rcases (show j % 4 = 0 ∨ j % 4 = 1 ∨ j % 4 = 2 ∨ j % 4 = 3 from by omega) with h | h | h | h
      · rw [h] at hj hd; rw [← hd]; simp only [e4, List.getElem?_cons_zero, Option.some.injEq] at hj; rw [← hj]; exact hq.1.1
      · rw [h] at hj hd; rw [← hd]; simp only [e4, List.getElem?_cons_succ, List.getElem?_cons_zero, Option.some.injEq] at hj; rw [← hj]; exact hq.2.1.1
      · rw [h] at hj hd; rw [← hd]; simp only [e4, List.getElem?_cons_succ, List.getElem?_cons_zero, Option.some.injEq] at hj; rw [← hj]; exact hq.2.2.1.1
      · rw [h] at hj hd; rw [← hd]; simp only [e4, List.getElem?_cons_succ, List.getElem?_cons_zero, Option.some.injEq] at hj; rw [← hj]; exact hq.2.2.2.1
    · obtain ⟨i, hi, rfl⟩ := List.mem_iff_getElem.1 hmm
      have hq := hm i _ (List.getElem?_eq_getElem hi)
      exact ⟨hq.1.2, hq.2.1.2, hq.2.2.1.2, hq.2.2.2.2⟩
end
end Go.Proofs.Yteahiiflgiimnaa
