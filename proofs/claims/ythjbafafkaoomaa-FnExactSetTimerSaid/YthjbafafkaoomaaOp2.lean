/-
  From the reading of an argument to the words of the walks: slices of structs of 2 numbers.
-/
import Derived.Test.YthjbafafkaoomaaOpen
import Derived.Test.YthjbafafkaoomaaAg2
namespace Go.Proofs.Ythjbafafkaoomaa
open Go.ChangeShapes Go.WideShapes Go.ChangeAt Go.RowKit Go.Deep
section
variable {H : Type} {enc : TypeId × Value → H} {P : Program} {w : World} {base : Nat} {spare : Nat → Bool} {held : Bool}
theorem open2 {t e : TypeId} {fs : Array Field} {A : Option Addr} {n c fuel : Nat} {x : DataW H × List MemPlace} (ht : P.underlying t = some (.slice e)) (he : P.underlying e = some (.struct fs))
    (hone : oneCellFields P fs = true) (hC : P.cellsOf e = fs.size) (hpos : fs.size = 2) (hint : ∀ (i : Nat) (f : Field), fs[i]? = some f → P.underlying f.type = some (.int .i64))
    (h : DataW.trod enc P w base spare held fuel t [.slice A n c] = some x) :
    ∃ ms, Rd w 2 A n c (c2 ms) ∧ ∀ m ∈ ms, Fits m.1 ∧ Fits m.2 := by
  obtain ⟨h1, h2, h3⟩ := open_rows ht he hone hC (by omega) hint h
  rw [hpos] at h3
  rcases Nat.eq_zero_or_pos n with rfl | hn
  · exact ⟨[], Rd.nil h2, by simp⟩
  · obtain ⟨b, off, rfl, hc⟩ := h3 hn
    obtain ⟨ms, hl, hm⟩ := exists_list (p := fun i (m : Int × Int) => (w.cell? ⟨b, off + (i * 2 + 0), none⟩ = some (.int .i64 m.1) ∧ Fits m.1) ∧ (w.cell? ⟨b, off + (i * 2 + 1), none⟩ = some (.int .i64 m.2) ∧ Fits m.2)) n (fun i hi => by
      obtain ⟨z0, g0⟩ := hc i hi 0 (by omega)
      obtain ⟨z1, g1⟩ := hc i hi 1 (by omega)
      exact ⟨(z0, z1), g0, g1⟩)
    refine ⟨ms, ⟨by rw [c2_len, hl], h1, h2, fun _ => ⟨b, off, rfl, fun j u hu => ?_⟩⟩, fun m hmm => ?_⟩
    · obtain ⟨m, hx, hj⟩ := flat_inv e2_len (by omega) ms j u hu
      have hq := hm _ _ hx
      have h3 : j % 2 < 2 := Nat.mod_lt _ (by omega)
      have hd : j / 2 * 2 + j % 2 = j := Nat.div_add_mod' j 2
      rcases (show j % 2 = 0 ∨ j % 2 = 1 from by omega) with h | h
      · rw [h] at hj hd; rw [← hd]; simp only [e2, List.getElem?_cons_zero, Option.some.injEq] at hj; rw [← hj]; exact hq.1.1
      · rw [h] at hj hd; rw [← hd]; simp only [e2, List.getElem?_cons_succ, List.getElem?_cons_zero, Option.some.injEq] at hj; rw [← hj]; exact hq.2.1
    · obtain ⟨i, hi, rfl⟩ := List.mem_iff_getElem.1 hmm
      have hq := hm i _ (List.getElem?_eq_getElem hi)
      exact ⟨hq.1.2, hq.2.2⟩
end
end Go.Proofs.Ythjbafafkaoomaa
