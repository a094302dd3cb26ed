/-
  Moves in a graph, in plain lists.
-/
import Derived.Test.YtbljkahdhckegaaGrT
import Derived.Test.YtbljkahdhckegaaMvA
namespace Go.Proofs.Ytbljkahdhckegaa
open Go.RowKit

abbrev Mv := Int × Int × Int × Int × Int
/-- The numbers of a move exist. -/
def rngMv (n m : Nat) (v : Mv) : Bool := inB v.2.1 0 (n - 1) && inB v.2.2.1 0 (n - 1) && inB v.2.2.2.1 0 (m - 1) && inB v.2.2.2.2 0 15
/-- What the kind of a move asks: of subject i over subject k, of thing j, with rights r. -/
def kindOk (g : List (List Int)) (kind : Int) (i k j : Nat) (r : Int) : Bool :=
  if kind == 1 then !(bits .and .i64 (el g i k) 1 == 0) && cvB r (el g k j) else if kind == 2 then !(bits .and .i64 (el g i k) 4 == 0) && cvB r (el g i j) else kind == 3
def okMv (g : List (List Int)) (v : Mv) : Bool := rngMv g.length (len0 g) v && kindOk g v.1 v.2.1.toNat v.2.2.1.toNat v.2.2.2.1.toNat v.2.2.2.2
def allowR (g : List (List Int)) (v : Mv) : Bool := gValid g && okMv g v
def setAt (g : List (List Int)) (i j : Nat) (z : Int) : List (List Int) := g.set i ((rowAt g i).set j z)
def putMv (g : List (List Int)) (kind : Int) (i k j : Nat) (r : Int) : List (List Int) :=
  if kind == 1 then setAt g i j (orI (el g i j) r) else if kind == 2 then setAt g k j (orI (el g k j) r) else setAt g i j (bits .andNot .i64 (el g i j) r)
def doMv (g : List (List Int)) (v : Mv) : List (List Int) := if okMv g v then putMv g v.1 v.2.1.toNat v.2.2.1.toNat v.2.2.2.1.toNat v.2.2.2.2 else g
theorem len0_tab {n m : Nat} {g : List (List Int)} (h : Tab n m g) (hn : 0 < n) : len0 g = m := by
  obtain ⟨xs, hx, hl⟩ := h.at hn
  rw [len0_get hx, hl]
theorem rngMv_iff {n m : Nat} {v : Mv} : rngMv n m v = true ↔ ∃ i k j : Nat, v.2.1 = i ∧ v.2.2.1 = k ∧ v.2.2.2.1 = j ∧ i < n ∧ k < n ∧ j < m ∧ 0 ≤ v.2.2.2.2 ∧ v.2.2.2.2 ≤ 15 := by
  unfold rngMv
  simp only [Bool.and_eq_true, inB_iff]
  constructor
  · rintro ⟨⟨⟨h1, h2⟩, h3⟩, h4⟩
    exact ⟨v.2.1.toNat, v.2.2.1.toNat, v.2.2.2.1.toNat, by omega, by omega, by omega, by omega, by omega, by omega, h4.1, h4.2⟩
  · rintro ⟨i, k, j, h1, h2, h3, h4, h5, h6, h7, h8⟩
    rw [h1, h2, h3]
    exact ⟨⟨⟨⟨by omega, by omega⟩, by omega, by omega⟩, by omega, by omega⟩, h7, h8⟩
theorem andn_rg {x y : Int} (hx : Rg x) (hy : Rg y) : Rg (bits .andNot .i64 x y) := by
  have := lift2 (fun x y => decide (0 ≤ bits .andNot .i64 x y) && decide (bits .andNot .i64 x y ≤ 15)) (by decide +kernel) hx hy
  simpa [Rg] using this
section
variable {n m : Nat} {g : List (List Int)}
theorem setAt_tab (h : Tab n m g) {i j : Nat} {z : Int} (hi : i < n) (hz : Rg z) : Tab n m (setAt g i j z) := by
  unfold setAt
  refine ⟨by rw [List.length_set]; exact h.len, fun xs hx => ?_, fun xs hx u hu => ?_⟩
  · rcases List.mem_or_eq_of_mem_set hx with hx | rfl
    · exact h.row xs hx
    · rw [List.length_set]; exact rowAt_len h.row (by rw [h.len]; exact hi)
  · rcases List.mem_or_eq_of_mem_set hx with hx | rfl
    · exact h.rg xs hx u hu
    · rcases List.mem_or_eq_of_mem_set hu with hu | rfl
      · obtain ⟨ys, hy, _⟩ := h.at hi
        rw [rowAt_get hy] at hu
        exact h.rg ys (List.mem_of_getElem? hy) u hu
      · exact hz
theorem setAt_el (h : Tab n m g) {i j a b : Nat} {z : Int} (hi : i < n) (hj : j < m) : el (setAt g i j z) a b = if a = i ∧ b = j then z else el g a b := by
  obtain ⟨ys, hy, hl⟩ := h.at hi
  unfold setAt
  rw [rowAt_get hy]
  unfold el rowAt
  rw [List.getD_eq_getElem?_getD (l := g.set i (ys.set j z)), List.getD_eq_getElem?_getD (l := g)]
  by_cases ha : a = i
  · subst ha
    rw [List.getElem?_set_self (by rw [h.len]; exact hi), hy]
    simp only [Option.getD_some, true_and]
    rw [List.getD_eq_getElem?_getD, List.getD_eq_getElem?_getD]
    by_cases hb : b = j
    · subst hb; rw [List.getElem?_set_self (by omega), if_pos rfl]; rfl
    · rw [List.getElem?_set_ne (fun e => hb e.symm), if_neg hb]
  · rw [List.getElem?_set_ne (fun e => ha e.symm), if_neg (fun e => ha e.1)]
theorem doMv_tab (h : Tab n m g) (v : Mv) : Tab n m (doMv g v) := by
  unfold doMv
  split
  · next ho =>
    unfold okMv at ho
    rw [Bool.and_eq_true] at ho
    obtain ⟨i, k, j, h1, h2, h3, h4, h5, h6, h7, h8⟩ := rngMv_iff.1 ho.1
    rw [h.len] at h4 h5
    rw [h1, h2, h3]
    simp only [Int.toNat_natCast]
    unfold putMv
    split
    · exact setAt_tab h h4 (or_rg (h.el_rg _ _) ⟨h7, h8⟩)
    · split
      · exact setAt_tab h h5 (or_rg (h.el_rg _ _) ⟨h7, h8⟩)
      · exact setAt_tab h h4 (andn_rg (h.el_rg _ _) ⟨h7, h8⟩)
  · exact h
end
def doR (g : List (List Int)) (v : Mv) : List (List Int) := if gValid g then doMv g v else []
/-- Several moves. -/
def runG (g : List (List Int)) : List Mv → List (List Int)
  | [] => g
  | v :: r => runG (doMv g v) r
def runN (g : List (List Int)) : List Mv → Nat
  | [] => 0
  | v :: r => (if okMv g v then 1 else 0) + runN (doMv g v) r
theorem runG_snoc (g : List (List Int)) (v : Mv) : ∀ l : List Mv, runG g (l ++ [v]) = doMv (runG g l) v
  | [] => rfl
  | u :: r => runG_snoc (doMv g u) v r
theorem runN_snoc (g : List (List Int)) (v : Mv) : ∀ l : List Mv, runN g (l ++ [v]) = runN g l + if okMv (runG g l) v then 1 else 0
  | [] => by show (if okMv g v then 1 else 0) + 0 = 0 + _; rw [Nat.add_zero, Nat.zero_add]; rfl
  | u :: r => by
    have e := runN_snoc (doMv g u) v r
    show _ + runN (doMv g u) (r ++ [v]) = _ + runN (doMv g u) r + _
    rw [e]; show _ = _ + (if okMv (runG (doMv g u) r) v then 1 else 0)
    omega
theorem runG_tab {n m : Nat} {g : List (List Int)} (h : Tab n m g) : ∀ l : List Mv, Tab n m (runG g l)
  | [] => h
  | v :: r => runG_tab (doMv_tab h v) r
theorem runN_le (g : List (List Int)) : ∀ l : List Mv, runN g l ≤ l.length
  | [] => Nat.le_refl _
  | v :: r => by have := runN_le (doMv g v) r; simp only [runN, List.length_cons]; split <;> omega
end Go.Proofs.Ytbljkahdhckegaa
