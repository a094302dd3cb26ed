/-
  From the reading of an argument to the words of the walks: slices of structs whose fields are numbers, slices of numbers.
-/
import Derived.Test.YteahiiflgiimnaaTypes
import Derived.ProofKit
import Derived.OpenShut
import Derived.ChangeOld
import Derived.Deep.Slices
import Derived.Deep.Fields
import Derived.ChangeSame
namespace Go.Proofs.Yteahiiflgiimnaa
open Go.ChangeShapes Go.WideShapes Go.ChangeAt Go.RowKit Go.Deep

/-- A number that int64 holds. -/
def Fits (z : Int) : Prop := -9223372036854775808 ≤ z ∧ z ≤ 9223372036854775807
theorem fits_of_wf {z : Int} (h : (Lit.int .i64 z).wf = true) : Fits z := by
  have := bounds_i64 h
  exact ⟨by omega, by omega⟩

theorem add_none (b off k : Nat) : (⟨b, off, none⟩ : Addr).add k = ⟨b, off + k, none⟩ := by
  unfold Addr.add; split
  · next h => subst h; rfl
  · rfl
theorem spot_none {w : World} {a : Addr} {v : Value} (h : w.cell? a = some v) : a = ⟨a.block, a.off, none⟩ := by
  unfold World.cell? at h
  obtain ⟨b, off, s⟩ := a
  cases s with
  | none => rfl
  | some s =>
    split at h
    · simp at h
    · cases h

theorem exists_list {α : Type} {p : Nat → α → Prop} : ∀ (n : Nat), (∀ i, i < n → ∃ x, p i x) → ∃ xs : List α, xs.length = n ∧ ∀ (i : Nat) x, xs[i]? = some x → p i x
  | 0, _ => ⟨[], rfl, by simp⟩
  | n + 1, h => by
    obtain ⟨xs, hl, hx⟩ := exists_list n fun i hi => h i (by omega)
    obtain ⟨y, hy⟩ := h n (by omega)
    refine ⟨xs ++ [y], by simp [hl], fun i x hi => ?_⟩
    by_cases hin : i < n
    · rw [List.getElem?_append_left (by omega)] at hi
      exact hx i x hi
    · have hi2 : i < (xs ++ [y]).length := (List.getElem?_eq_some_iff.1 hi).1
      have : i = n := by simp [hl] at hi2; omega
      subst this
      rw [List.getElem?_append_right (by omega), hl, Nat.sub_self] at hi
      simp at hi
      subst hi
      exact hy

section
variable {H : Type} {enc : TypeId × Value → H} {P : Program} {w : World} {base : Nat} {spare : Nat → Bool} {held : Bool}
/-- Every field of every element is a number. -/
theorem open_rows {t e : TypeId} {fs : Array Field} {A : Option Addr} {n c fuel : Nat} {x : DataW H × List MemPlace} (ht : P.underlying t = some (.slice e)) (he : P.underlying e = some (.struct fs))
    (hone : oneCellFields P fs = true) (hC : P.cellsOf e = fs.size) (hpos : 0 < fs.size) (hint : ∀ (i : Nat) (f : Field), fs[i]? = some f → P.underlying f.type = some (.int .i64))
    (h : DataW.trod enc P w base spare held fuel t [.slice A n c] = some x) :
    n ≤ c ∧ c ≤ 9223372036854775807 ∧ (0 < n → ∃ b off, A = some ⟨b, off, none⟩ ∧ ∀ i, i < n → ∀ j, j < fs.size → ∃ z, w.cell? ⟨b, off + (i * fs.size + j), none⟩ = some (.int .i64 z) ∧ Fits z) := by
  rcases open_slice ht h with ⟨hcs, _⟩ | ⟨a, len, cap, m, fu, D, Pl, hcs, _, hl, hm, hmm, _, hi⟩
  · simp only [List.cons.injEq, Value.slice.injEq, and_true] at hcs
    obtain ⟨rfl, rfl, rfl⟩ := hcs
    exact ⟨by omega, by omega, fun h => absurd h (by omega)⟩
  · simp only [List.cons.injEq, Value.slice.injEq, and_true] at hcs
    obtain ⟨rfl, rfl, rfl⟩ := hcs
    refine ⟨hl, by unfold maxLen at hm; exact hm, fun hn => ?_⟩
    have hnm : n ≤ m := by rw [hmm]; split <;> omega
    have key : ∀ i, i < n → ∀ j, j < fs.size → ∃ z, w.cell? (a.add (i * fs.size + j)) = some (.int .i64 z) ∧ Fits z := by
      intro i hin j hj
      obtain ⟨cs', hc, ht'⟩ := hi i (by omega)
      rw [hC] at hc
      obtain ⟨ys, n', _, _, hlen, hyl, hf⟩ := DataW.trod_struct he ht'
      obtain ⟨_, hcl, hat⟩ := World.cells?_some hc
      have hj' : fs[j]? = some fs[j] := Array.getElem?_eq_getElem hj
      obtain ⟨ho, hk⟩ := hone_of hone j _ hj'
      have h1 := hf j _ hj'
      rw [ho, hk] at h1
      have e1 : (cs'.drop j).take 1 = [cs'[j]'(by omega)] := by
        rw [List.drop_eq_getElem_cons (by omega)]; rfl
      rw [e1] at h1
      have hys : ys[j]? = some (ys[j]'(by omega)) := List.getElem?_eq_getElem (by omega)
      obtain ⟨z, hz, _, hw⟩ := DataW.trod_int (hint j _ hj') (h1.trans hys)
      refine ⟨z, ?_, fits_of_wf hw⟩
      rw [← Go.Deep.add_add, hat j hj, List.getElem?_eq_getElem (by omega)]
      simp only [List.cons.injEq, and_true] at hz
      rw [hz]
    obtain ⟨z0, hz0, _⟩ := key 0 hn 0 hpos
    have ha : a = ⟨a.block, a.off, none⟩ := by
      have := spot_none hz0
      simpa [Addr.add] using this
    refine ⟨a.block, a.off, by rw [← ha], fun i hin j hj => ?_⟩
    obtain ⟨z, hz, hw⟩ := key i hin j hj
    rw [ha, add_none] at hz
    exact ⟨z, hz, hw⟩

theorem flat_inv {α : Type} {enc : α → List Value} {sz : Nat} (hs : ∀ x, (enc x).length = sz) (hpos : 0 < sz) (xs : List α) (j : Nat) (u : Value) (h : (xs.flatMap enc)[j]? = some u) :
    ∃ x, xs[j / sz]? = some x ∧ (enc x)[j % sz]? = some u := by
  have hl := (List.getElem?_eq_some_iff.1 h).1
  rw [flat_length hs] at hl
  have hk : j / sz < xs.length := (Nat.div_lt_iff_lt_mul hpos).2 hl
  have hx : xs[j / sz]? = some (xs[j / sz]'hk) := List.getElem?_eq_getElem hk
  have hm : j % sz < (enc (xs[j / sz]'hk)).length := by rw [hs]; exact Nat.mod_lt _ hpos
  have hu := List.getElem?_eq_getElem hm
  have := flat_get hs xs (j / sz) (j % sz) _ _ hx hu
  rw [Nat.div_add_mod'] at this
  exact ⟨_, hx, by rw [hu, ← this, h]⟩

theorem open3 {t e : TypeId} {fs : Array Field} {A : Option Addr} {n c fuel : Nat} {x : DataW H × List MemPlace} (ht : P.underlying t = some (.slice e)) (he : P.underlying e = some (.struct fs))
    (hone : oneCellFields P fs = true) (hC : P.cellsOf e = fs.size) (hpos : fs.size = 3) (hint : ∀ (i : Nat) (f : Field), fs[i]? = some f → P.underlying f.type = some (.int .i64))
    (h : DataW.trod enc P w base spare held fuel t [.slice A n c] = some x) :
    ∃ ms, Rd w 3 A n c (c3 ms) ∧ ∀ m ∈ ms, Fits m.1 ∧ Fits m.2.1 ∧ Fits m.2.2 := by
  obtain ⟨h1, h2, h3⟩ := open_rows ht he hone hC (by omega) hint h
  rw [hpos] at h3
  rcases Nat.eq_zero_or_pos n with rfl | hn
  · exact ⟨[], Rd.nil h2, by simp⟩
  · obtain ⟨b, off, rfl, hc⟩ := h3 hn
    obtain ⟨ms, hl, hm⟩ := exists_list (p := fun i (m : Int × Int × Int) => (w.cell? ⟨b, off + (i * 3 + 0), none⟩ = some (.int .i64 m.1) ∧ Fits m.1) ∧ (w.cell? ⟨b, off + (i * 3 + 1), none⟩ = some (.int .i64 m.2.1) ∧ Fits m.2.1) ∧ (w.cell? ⟨b, off + (i * 3 + 2), none⟩ = some (.int .i64 m.2.2) ∧ Fits m.2.2)) n (fun i hi => by
      obtain ⟨z0, g0⟩ := hc i hi 0 (by omega)
      obtain ⟨z1, g1⟩ := hc i hi 1 (by omega)
      obtain ⟨z2, g2⟩ := hc i hi 2 (by omega)
      exact ⟨(z0, z1, z2), g0, g1, g2⟩)
    refine ⟨ms, ⟨by rw [c3_len, hl], h1, h2, fun _ => ⟨b, off, rfl, fun j u hu => ?_⟩⟩, fun m hmm => ?_⟩
    · obtain ⟨m, hx, hj⟩ := flat_inv e3_len (by omega) ms j u hu
      have hq := hm _ _ hx
      have h3 : j % 3 < 3 := Nat.mod_lt _ (by omega)
      have hd : j / 3 * 3 + j % 3 = j := Nat.div_add_mod' j 3
      rcases (show j % 3 = 0 ∨ j % 3 = 1 ∨ j % 3 = 2 from by omega) with h | h | h
      · rw [h] at hj hd; rw [← hd]; simp only [e3, List.getElem?_cons_zero, Option.some.injEq] at hj; rw [← hj]; exact hq.1.1
      · rw [h] at hj hd; rw [← hd]; simp only [e3, List.getElem?_cons_succ, List.getElem?_cons_zero, Option.some.injEq] at hj; rw [← hj]; exact hq.2.1.1
      · rw [h] at hj hd; rw [← hd]; simp only [e3, List.getElem?_cons_succ, List.getElem?_cons_zero, Option.some.injEq] at hj; rw [← hj]; exact hq.2.2.1
    · obtain ⟨i, hi, rfl⟩ := List.mem_iff_getElem.1 hmm
      have hq := hm i _ (List.getElem?_eq_getElem hi)
      exact ⟨hq.1.2, hq.2.1.2, hq.2.2.2⟩

/-- A slice of numbers of a kind. -/
theorem openK {t e : TypeId} {k : IntKind} {A : Option Addr} {n c fuel : Nat} {x : DataW H × List MemPlace} (ht : P.underlying t = some (.slice e)) (he : P.underlying e = some (.int k)) (hC : P.cellsOf e = 1)
    (h : DataW.trod enc P w base spare held fuel t [.slice A n c] = some x) :
    ∃ zs : List Int, Rd w 1 A n c (zs.map (Value.int k)) ∧ ∀ z ∈ zs, (Lit.int k z).wf = true := by
  rcases open_ints ht he hC h with ⟨hcs, _⟩ | ⟨a, len, cap, zs, hcs, _, hl, hm, hz, _, hcell, hwz⟩
  · simp only [List.cons.injEq, Value.slice.injEq, and_true] at hcs
    obtain ⟨rfl, rfl, rfl⟩ := hcs
    exact ⟨[], Rd.nil (by omega), by simp⟩
  · simp only [List.cons.injEq, Value.slice.injEq, and_true] at hcs
    obtain ⟨rfl, rfl, rfl⟩ := hcs
    have hlen : n ≤ zs.length := by rw [hz]; split <;> omega
    refine ⟨zs.take n, ⟨by simp only [List.length_map, List.length_take]; omega, hl, by unfold maxLen at hm; exact hm, fun hn => ?_⟩, fun z hzz => hwz z (List.mem_of_mem_take hzz)⟩
    have h0 := hcell 0 (by omega)
    have ha : a = ⟨a.block, a.off, none⟩ := by
      have := spot_none h0
      simpa [Addr.add] using this
    refine ⟨a.block, a.off, by rw [← ha], fun j u hu => ?_⟩
    have hj := (List.getElem?_eq_some_iff.1 hu).1
    simp only [List.length_map, List.length_take] at hj
    have h1 := hcell j (by omega)
    rw [ha, add_none] at h1
    rw [h1]
    rw [List.getElem?_map, List.getElem?_take, if_pos (by omega)] at hu
    rw [← hu, List.getD_eq_getElem?_getD, List.getElem?_eq_getElem (by omega)]
    rfl
end
end Go.Proofs.Yteahiiflgiimnaa
