/-
  From the reading of an argument to the words of the walks: a struct of numbers, by value.
-/
import Derived.Test.YteahiiflgiimnaaOpen
import Derived.Lib.SmallJoins
namespace Go.Proofs.Yteahiiflgiimnaa
open Go.ChangeShapes Go.WideShapes Go.ChangeAt Go.RowKit Go.Deep
section
variable {H : Type} {enc : TypeId × Value → H} {P : Program} {w : World} {base : Nat} {spare : Nat → Bool} {held : Bool}
theorem openAggN {r : Reach} {b0 : Nat} {t it : TypeId} {fs : Array Field} {v : Value} {d : DataW H} {p : List MemPlace} (hs : P.underlying t = some (.struct fs)) (hi : P.underlying it = some (.int .i64)) (hone : oneCellFields P fs = true) (hC : P.cellsOf t = fs.size)
    (hty : fs.all (fun f => f.type == it) = true) (hv : Value.okWide P w r b0 t v) (h : DataW.Trod enc P w base spare held t v d p) :
    ∃ zs : List Int, v = .agg (zs.map (Value.int .i64)).toArray ∧ zs.length = fs.size ∧ ∀ z ∈ zs, Fits z := by
  obtain ⟨cs, rfl, hsz⟩ := okWide_struct hs hv
  obtain ⟨fuel, hf⟩ := h
  obtain ⟨ys, n', _, _, hlen, hyl, hff⟩ := DataW.trod_struct hs hf
  have hcl : cs.size = fs.size := hsz.trans hC
  have key : ∀ j, j < fs.size → ∃ z, cs[j]? = some (.int .i64 z) ∧ Fits z := by
    intro j hj
    have hj' : fs[j]? = some fs[j] := Array.getElem?_eq_getElem hj
    obtain ⟨ho, hk⟩ := hone_of hone j _ hj'
    have h1 := hff j _ hj'
    rw [ho, hk] at h1
    have hjl : j < (Value.agg cs).cells.toList.length := by simp [Value.cells]; omega
    have e1 : ((Value.agg cs).cells.toList.drop j).take 1 = [cs[j]'(by omega)] := by
      rw [List.drop_eq_getElem_cons hjl]; simp [Value.cells]
    rw [e1] at h1
    have hys : ys[j]? = some (ys[j]'(by omega)) := List.getElem?_eq_getElem (by omega)
    have hjt : P.underlying (fs[j]).type = some (.int .i64) := by
      rw [Array.all_eq_true] at hty
      have := hty j hj
      rw [eq_of_beq this]; exact hi
    obtain ⟨z, hz, _, hw⟩ := DataW.trod_int hjt (h1.trans hys)
    refine ⟨z, ?_, fits_of_wf hw⟩
    simp only [List.cons.injEq, and_true] at hz
    rw [Array.getElem?_eq_getElem (by omega), hz]
  obtain ⟨zs, hl, hm⟩ := exists_list (p := fun j z => cs[j]? = some (.int .i64 z) ∧ Fits z) fs.size key
  refine ⟨zs, ?_, hl, fun z hz => ?_⟩
  · congr 1
    apply Array.ext_getElem?
    intro j
    by_cases hj : j < fs.size
    · have hx : zs[j]? = some (zs[j]'(by omega)) := List.getElem?_eq_getElem (by omega)
      rw [(hm j _ hx).1]
      simp [hx]
    · rw [Array.getElem?_eq_none (by omega), List.getElem?_toArray, List.getElem?_eq_none (by rw [List.length_map, hl]; omega)]
  · obtain ⟨j, hj, rfl⟩ := List.mem_iff_getElem.1 hz
    exact (hm j _ (List.getElem?_eq_getElem hj)).2
theorem openAgg3 {r : Reach} {b0 : Nat} {t it : TypeId} {fs : Array Field} {v : Value} {d : DataW H} {p : List MemPlace} (hs : P.underlying t = some (.struct fs)) (hi : P.underlying it = some (.int .i64)) (hone : oneCellFields P fs = true) (hC : P.cellsOf t = fs.size)
    (hty : fs.all (fun f => f.type == it) = true) (hk : fs.size = 3) (hv : Value.okWide P w r b0 t v) (h : DataW.Trod enc P w base spare held t v d p) :
    ∃ x0 x1 x2 : Int, v = .agg #[.int .i64 x0, .int .i64 x1, .int .i64 x2] ∧ Fits x0 ∧ Fits x1 ∧ Fits x2 := by
  obtain ⟨zs, rfl, hl, hf⟩ := openAggN hs hi hone hC hty hv h
  rw [hk] at hl
  match zs, hl with
  | [x0, x1, x2], _ => exact ⟨x0, x1, x2, rfl, hf x0 (by simp), hf x1 (by simp), hf x2 (by simp)⟩
theorem openAgg4 {r : Reach} {b0 : Nat} {t it : TypeId} {fs : Array Field} {v : Value} {d : DataW H} {p : List MemPlace} (hs : P.underlying t = some (.struct fs)) (hi : P.underlying it = some (.int .i64)) (hone : oneCellFields P fs = true) (hC : P.cellsOf t = fs.size)
    (hty : fs.all (fun f => f.type == it) = true) (hk : fs.size = 4) (hv : Value.okWide P w r b0 t v) (h : DataW.Trod enc P w base spare held t v d p) :
    ∃ x0 x1 x2 x3 : Int, v = .agg #[.int .i64 x0, .int .i64 x1, .int .i64 x2, .int .i64 x3] ∧ Fits x0 ∧ Fits x1 ∧ Fits x2 ∧ Fits x3 := by
  obtain ⟨zs, rfl, hl, hf⟩ := openAggN hs hi hone hC hty hv h
  rw [hk] at hl
  match zs, hl with
  | [x0, x1, x2, x3], _ => exact ⟨x0, x1, x2, x3, rfl, hf x0 (by simp), hf x1 (by simp), hf x2 (by simp), hf x3 (by simp)⟩
theorem openAgg5 {r : Reach} {b0 : Nat} {t it : TypeId} {fs : Array Field} {v : Value} {d : DataW H} {p : List MemPlace} (hs : P.underlying t = some (.struct fs)) (hi : P.underlying it = some (.int .i64)) (hone : oneCellFields P fs = true) (hC : P.cellsOf t = fs.size)
    (hty : fs.all (fun f => f.type == it) = true) (hk : fs.size = 5) (hv : Value.okWide P w r b0 t v) (h : DataW.Trod enc P w base spare held t v d p) :
    ∃ x0 x1 x2 x3 x4 : Int, v = .agg #[.int .i64 x0, .int .i64 x1, .int .i64 x2, .int .i64 x3, .int .i64 x4] ∧ Fits x0 ∧ Fits x1 ∧ Fits x2 ∧ Fits x3 ∧ Fits x4 := by
  obtain ⟨zs, rfl, hl, hf⟩ := openAggN hs hi hone hC hty hv h
  rw [hk] at hl
  match zs, hl with
  | [x0, x1, x2, x3, x4], _ => exact ⟨x0, x1, x2, x3, x4, rfl, hf x0 (by simp), hf x1 (by simp), hf x2 (by simp), hf x3 (by simp), hf x4 (by simp)⟩
end
end Go.Proofs.Yteahiiflgiimnaa
