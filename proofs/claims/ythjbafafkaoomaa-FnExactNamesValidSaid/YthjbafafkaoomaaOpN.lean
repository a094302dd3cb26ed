/-
  From the reading of an argument to the words of the walks: slices of names.
-/
import Derived.Test.YthjbafafkaoomaaOpen
import Derived.Test.YthjbafafkaoomaaNmA
namespace Go.Proofs.Ythjbafafkaoomaa
open Go.ChangeShapes Go.WideShapes Go.ChangeAt Go.RowKit Go.Deep
section
variable {H : Type} {enc : TypeId × Value → H} {P : Program} {w : World} {base : Nat} {spare : Nat → Bool} {held : Bool}
theorem open_rowsV {t e : TypeId} {fs : Array Field} {A : Option Addr} {n c fuel : Nat} {x : DataW H × List MemPlace} (ht : P.underlying t = some (.slice e)) (he : P.underlying e = some (.struct fs))
    (hone : oneCellFields P fs = true) (hC : P.cellsOf e = fs.size) (hpos : 0 < fs.size) (h : DataW.trod enc P w base spare held fuel t [.slice A n c] = some x) :
    n ≤ c ∧ c ≤ 9223372036854775807 ∧ (0 < n → ∃ b off, A = some ⟨b, off, none⟩ ∧ ∀ i, i < n → ∀ (j : Nat) (f : Field), fs[j]? = some f → ∃ v y fu, w.cell? ⟨b, off + (i * fs.size + j), none⟩ = some v ∧ DataW.trod enc P w base spare held fu f.type [v] = some y) := by
  rcases open_slice ht h with ⟨hcs, _⟩ | ⟨a, len, cap, m, fu, D, Pl, hcs, _, hl, hm, hmm, _, hi⟩
  · simp only [List.cons.injEq, Value.slice.injEq, and_true] at hcs
    obtain ⟨rfl, rfl, rfl⟩ := hcs
    exact ⟨by omega, by omega, fun h => absurd h (by omega)⟩
  · simp only [List.cons.injEq, Value.slice.injEq, and_true] at hcs
    obtain ⟨rfl, rfl, rfl⟩ := hcs
    refine ⟨hl, by unfold maxLen at hm; exact hm, fun hn => ?_⟩
    have hnm : n ≤ m := by rw [hmm]; split <;> omega
    have key : ∀ i, i < n → ∀ (j : Nat) (f : Field), fs[j]? = some f → ∃ v y fu, w.cell? (a.add (i * fs.size + j)) = some v ∧ DataW.trod enc P w base spare held fu f.type [v] = some y := by
      intro i hin j f hj'
      have hj : j < fs.size := (Array.getElem?_eq_some_iff.1 hj').1
      obtain ⟨cs', hc, ht'⟩ := hi i (by omega)
      rw [hC] at hc
      obtain ⟨ys, n', _, _, hlen, hyl, hf⟩ := DataW.trod_struct he ht'
      obtain ⟨_, hcl, hat⟩ := World.cells?_some hc
      obtain ⟨ho, hk⟩ := hone_of hone j _ hj'
      have h1 := hf j _ hj'
      rw [ho, hk] at h1
      have e1 : (cs'.drop j).take 1 = [cs'[j]'(by omega)] := by
        rw [List.drop_eq_getElem_cons (by omega)]; rfl
      rw [e1] at h1
      have hys : ys[j]? = some (ys[j]'(by omega)) := List.getElem?_eq_getElem (by omega)
      refine ⟨_, _, _, ?_, h1.trans hys⟩
      rw [← Go.Deep.add_add, hat j hj, List.getElem?_eq_getElem (by omega)]
    obtain ⟨v0, _, _, hz0, _⟩ := key 0 hn 0 _ (Array.getElem?_eq_getElem hpos)
    have ha : a = ⟨a.block, a.off, none⟩ := by
      have := spot_none hz0
      simpa [Addr.add] using this
    refine ⟨a.block, a.off, by rw [← ha], fun i hin j f hj => ?_⟩
    obtain ⟨v, y, fu, hz, hw⟩ := key i hin j f hj
    rw [ha, add_none] at hz
    exact ⟨v, y, fu, hz, hw⟩
theorem openN {t e ts ti : TypeId} {fs : Array Field} {A : Option Addr} {n c fuel : Nat} {x : DataW H × List MemPlace} (ht : P.underlying t = some (.slice e)) (he : P.underlying e = some (.struct fs)) (hs : P.underlying ts = some .string) (hi : P.underlying ti = some (.int .i64))
    (hone : oneCellFields P fs = true) (hC : P.cellsOf e = fs.size) (hty : fs.map (·.type) = #[ts, ti, ti])
    (h : DataW.trod enc P w base spare held fuel t [.slice A n c] = some x) :
    ∃ ms, Rd w 3 A n c (cN ms) ∧ ∀ m ∈ ms, FitsN m := by
  have hsz : fs.size = 3 := by have := congrArg Array.size hty; simpa using this
  have hf : ∀ j (hj : j < fs.size), (fs[j]).type = #[ts, ti, ti][j]'(by simp; omega) := fun j hj => by
    have : (fs.map (·.type))[j]'(by simpa using hj) = #[ts, ti, ti][j]'(by simp; omega) := by simp only [hty]
    simpa using this
  obtain ⟨h1, h2, h3⟩ := open_rowsV ht he hone hC (by omega) h
  rcases Nat.eq_zero_or_pos n with rfl | hn
  · exact ⟨[], Rd.nil h2, by simp⟩
  · obtain ⟨b, off, rfl, hc⟩ := h3 hn
    obtain ⟨ms, hl, hm⟩ := exists_list (p := fun i (m : Nm) => (w.cell? ⟨b, off + (i * 3 + 0), none⟩ = some (.string m.1) ∧ FitsN m) ∧ w.cell? ⟨b, off + (i * 3 + 1), none⟩ = some (.int .i64 m.2.1) ∧ w.cell? ⟨b, off + (i * 3 + 2), none⟩ = some (.int .i64 m.2.2)) n (fun i hin => by
      obtain ⟨v0, y0, u0, g0, t0⟩ := hc i hin 0 _ (Array.getElem?_eq_getElem (by omega))
      obtain ⟨v1, y1, u1, g1, t1⟩ := hc i hin 1 _ (Array.getElem?_eq_getElem (by omega))
      obtain ⟨v2, y2, u2, g2, t2⟩ := hc i hin 2 _ (Array.getElem?_eq_getElem (by omega))
      rw [hf 0 (by omega)] at t0
      rw [hf 1 (by omega)] at t1
      rw [hf 2 (by omega)] at t2
      obtain ⟨s, e0, _, hsz'⟩ := DataW.trod_string hs t0
      obtain ⟨p, e1, _, _⟩ := DataW.trod_int hi t1
      obtain ⟨q, e2, _, _⟩ := DataW.trod_int hi t2
      simp only [List.cons.injEq, and_true] at e0 e1 e2
      subst e0 e1 e2
      rw [hsz] at g0 g1 g2
      exact ⟨(s, p, q), ⟨g0, by unfold maxLen at hsz'; exact hsz'⟩, g1, g2⟩)
    refine ⟨ms, ⟨by rw [cN_len, hl], h1, h2, fun _ => ⟨b, off, rfl, fun j u hu => ?_⟩⟩, fun m hmm => ?_⟩
    · obtain ⟨m, hx, hj⟩ := flat_inv eN_len (by omega) ms j u hu
      have hq := hm _ _ hx
      have h3 : j % 3 < 3 := Nat.mod_lt _ (by omega)
      have hd : j / 3 * 3 + j % 3 = j := Nat.div_add_mod' j 3
      rcases (show j % 3 = 0 ∨ j % 3 = 1 ∨ j % 3 = 2 from by omega) with h | h | h
      · rw [h] at hj hd; rw [← hd]; simp only [eN, List.getElem?_cons_zero, Option.some.injEq] at hj; rw [← hj]; exact hq.1.1
      · rw [h] at hj hd; rw [← hd]; simp only [eN, List.getElem?_cons_succ, List.getElem?_cons_zero, Option.some.injEq] at hj; rw [← hj]; exact hq.2.1
      · rw [h] at hj hd; rw [← hd]; simp only [eN, List.getElem?_cons_succ, List.getElem?_cons_zero, Option.some.injEq] at hj; rw [← hj]; exact hq.2.2
    · obtain ⟨i, hi, rfl⟩ := List.mem_iff_getElem.1 hmm
      exact (hm i _ (List.getElem?_eq_getElem hi)).1.2
end
end Go.Proofs.Ythjbafafkaoomaa
