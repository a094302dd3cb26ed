/-
  From the reading of an argument to the words of the walks: a message by value (a number, a slice of numbers, a slice of structs of 4 numbers).
-/
import Derived.Test.YteahiiflgiimnaaOpen
import Derived.Test.YteahiiflgiimnaaOp4
import Derived.Lib.SmallJoins
namespace Go.Proofs.Yteahiiflgiimnaa
open Go.ChangeShapes Go.WideShapes Go.ChangeAt Go.RowKit Go.Deep
section
variable {H : Type} {enc : TypeId × Value → H} {P : Program} {w : World} {base : Nat} {spare : Nat → Bool} {held : Bool}
theorem slice_of_trod {t e : TypeId} {v : Value} {fuel : Nat} {x : DataW H × List MemPlace} (ht : P.underlying t = some (.slice e)) (h : DataW.trod enc P w base spare held fuel t [v] = some x) : ∃ A n c, v = .slice A n c := by
  rcases open_slice ht h with ⟨hcs, _⟩ | ⟨a, len, cap, m, fu, D, Pl, hcs, _⟩
  · simp only [List.cons.injEq, and_true] at hcs
    exact ⟨_, _, _, hcs⟩
  · simp only [List.cons.injEq, and_true] at hcs
    exact ⟨_, _, _, hcs⟩
theorem openMsg {r : Reach} {b0 : Nat} {t it st ct ce : TypeId} {fs fc : Array Field} {v : Value} {d : DataW H} {p : List MemPlace} (hs : P.underlying t = some (.struct fs)) (hi : P.underlying it = some (.int .i64)) (hst : P.underlying st = some (.slice it)) (hct : P.underlying ct = some (.slice ce)) (hce : P.underlying ce = some (.struct fc))
    (hC1 : P.cellsOf it = 1) (hone : oneCellFields P fs = true) (hC : P.cellsOf t = fs.size) (hcone : oneCellFields P fc = true) (hcC : P.cellsOf ce = fc.size) (hty : fs.map (·.type) = #[it, st, ct]) (hc4 : fc.size = 4) (hcint : ∀ (i : Nat) (f : Field), fc[i]? = some f → P.underlying f.type = some (.int .i64))
    (hv : Value.okWide P w r b0 t v) (h : DataW.Trod enc P w base spare held t v d p) :
    ∃ (l : Int) (A : Option Addr) (n c : Nat) (x : List Int) (A' : Option Addr) (n' c' : Nat) (x' : List (Int × Int × Int × Int)), v = .agg #[.int .i64 l, .slice A n c, .slice A' n' c'] ∧ Fits l ∧ Rd w 1 A n c (cI x) ∧ (∀ z ∈ x, (Lit.int .i64 z).wf = true) ∧ Rd w 4 A' n' c' (c4 x') ∧ (∀ m ∈ x', Fits m.1 ∧ Fits m.2.1 ∧ Fits m.2.2.1 ∧ Fits m.2.2.2) := by
  obtain ⟨cs, rfl, hsz⟩ := okWide_struct hs hv
  obtain ⟨fuel, hf⟩ := h
  obtain ⟨ys, n', _, _, hlen, hyl, hff⟩ := DataW.trod_struct hs hf
  have hcl : cs.size = fs.size := hsz.trans hC
  have hfs : fs.size = 3 := by have := congrArg Array.size hty; simpa using this
  have hft : ∀ j (hj : j < fs.size), (fs[j]).type = #[it, st, ct][j]'(by simp; omega) := fun j hj => by
    have : (fs.map (·.type))[j]'(by simpa using hj) = #[it, st, ct][j]'(by simp; omega) := by simp only [hty]
    simpa using this
  have key : ∀ j (hj : j < fs.size), ∃ fu y, DataW.trod enc P w base spare held fu (fs[j]).type [cs[j]'(by omega)] = some y := by
    intro j hj
    have hj' : fs[j]? = some fs[j] := Array.getElem?_eq_getElem hj
    obtain ⟨ho, hk⟩ := hone_of hone j _ hj'
    have h1 := hff j _ hj'
    rw [ho, hk] at h1
    have hjl : j < (Value.agg cs).cells.toList.length := by simp [Value.cells]; omega
    have e1 : ((Value.agg cs).cells.toList.drop j).take 1 = [cs[j]'(by omega)] := by
      rw [List.drop_eq_getElem_cons hjl]; simp [Value.cells]
    rw [e1] at h1
    have hys : ys[j]? = some (ys[j]'(by omega)) := List.getElem?_eq_getElem (by omega)
    exact ⟨_, _, h1.trans hys⟩
  have hcs3 : cs = #[cs[0]'(by omega), cs[1]'(by omega), cs[2]'(by omega)] := by
    apply Array.ext
    · simp; omega
    · intro i h1 h2
      simp only [List.size_toArray, List.length_cons, List.length_nil] at h2
      obtain rfl | rfl | rfl : i = 0 ∨ i = 1 ∨ i = 2 := by omega
      all_goals rfl
  obtain ⟨u0, y0, t0⟩ := key 0 (by omega)
  obtain ⟨u1, y1, t1⟩ := key 1 (by omega)
  obtain ⟨u2, y2, t2⟩ := key 2 (by omega)
  rw [hft 0 (by omega)] at t0
  rw [hft 1 (by omega)] at t1
  rw [hft 2 (by omega)] at t2
  obtain ⟨l, e0, _, hw⟩ := DataW.trod_int hi t0
  simp only [List.cons.injEq, and_true] at e0
  obtain ⟨A, n, c, e1⟩ := slice_of_trod hst t1
  obtain ⟨A', n2, c', e2⟩ := slice_of_trod hct t2
  rw [e1] at t1
  rw [e2] at t2
  obtain ⟨x, R, F⟩ := openK hst hi hC1 t1
  obtain ⟨x', R', F'⟩ := open4 hct hce hcone hcC hc4 hcint t2
  exact ⟨l, A, n, c, x, A', n2, c', x', by rw [hcs3, e0, e1, e2], fits_of_wf hw, R, F, R', F'⟩
end
end Go.Proofs.Yteahiiflgiimnaa
