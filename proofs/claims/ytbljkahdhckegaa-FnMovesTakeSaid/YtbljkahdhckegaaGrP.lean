/-
  A round of giving and taking, in plain lists.
-/
import Derived.Test.YtbljkahdhckegaaGvB
namespace Go.Proofs.Ytbljkahdhckegaa
open Go.RowKit

def rowAt (g : List (List Int)) (i : Nat) : List Int := g.getD i []
def el (g : List (List Int)) (i k : Nat) : Int := (rowAt g i).getD k 0
theorem rowAt_get {g : List (List Int)} {i : Nat} {xs : List Int} (h : g[i]? = some xs) : rowAt g i = xs := by unfold rowAt; rw [List.getD_eq_getElem?_getD, h]; rfl
theorem el_get {g : List (List Int)} {i k : Nat} {xs : List Int} {z : Int} (h : g[i]? = some xs) (hz : xs[k]? = some z) : el g i k = z := by
  unfold el; rw [rowAt_get h, List.getD_eq_getElem?_getD, hz]; rfl
/-- Subject i gets what subject k has. -/
def lnk (g : List (List Int)) (i k : Nat) : Bool := !(bits .and .i64 (el g i k) 1 == 0) || !(bits .and .i64 (el g k i) 4 == 0)
def orI (x y : Int) : Int := bits .or .i64 x y
def orRow (a b : List Int) : List Int := List.zipWith orI a b
theorem orRow_len {a b : List Int} {m : Nat} (ha : a.length = m) (hb : b.length = m) : (orRow a b).length = m := by unfold orRow; rw [List.length_zipWith]; omega
/-- The first j numbers are done. -/
def orTo (a b : List Int) (j : Nat) : List Int := orRow (a.take j) (b.take j) ++ a.drop j
theorem orTo_zero (a b : List Int) : orTo a b 0 = a := by simp [orTo, orRow]
theorem orTo_len {a b : List Int} {m j : Nat} (ha : a.length = m) (hb : b.length = m) (hj : j ≤ m) : (orTo a b j).length = m := by
  unfold orTo orRow; rw [List.length_append, List.length_zipWith, List.length_take, List.length_take, List.length_drop]; omega
theorem orTo_get {a b : List Int} {m j : Nat} {x : Int} (ha : a.length = m) (hb : b.length = m) (hx : a[j]? = some x) : (orTo a b j)[j]? = some x := by
  have hj := (List.getElem?_eq_some_iff.1 hx).1
  have hl : (orRow (a.take j) (b.take j)).length = j := orRow_len (by rw [List.length_take]; omega) (by rw [List.length_take]; omega)
  unfold orTo
  rw [List.getElem?_append_right (by omega), hl, Nat.sub_self, List.getElem?_drop, Nat.add_zero, hx]
theorem orTo_step {a b : List Int} {m j : Nat} {x y : Int} (ha : a.length = m) (hb : b.length = m) (hx : a[j]? = some x) (hy : b[j]? = some y) : (orTo a b j).set j (orI x y) = orTo a b (j + 1) := by
  have hj := (List.getElem?_eq_some_iff.1 hx).1
  have hl : (orRow (a.take j) (b.take j)).length = j := orRow_len (by rw [List.length_take]; omega) (by rw [List.length_take]; omega)
  unfold orTo
  rw [List.set_append_right _ _ (by omega), hl, Nat.sub_self, drop_of_get hx, List.set_cons_zero, take_of_get hx, take_of_get hy]
  unfold orRow
  rw [List.zipWith_append (by rw [List.length_take, List.length_take]; omega), List.append_assoc]
  rfl
theorem orTo_end {a b : List Int} {m j : Nat} (ha : a.length = m) (hb : b.length = m) (hj : m ≤ j) : orTo a b j = orRow a b := by
  unfold orTo; rw [List.take_of_length_le (by omega), List.take_of_length_le (by omega), List.drop_eq_nil_of_le (by omega), List.append_nil]
/-- Subject i's row when k subjects have been asked. -/
def growTo (g : List (List Int)) (i : Nat) : Nat → List Int
  | 0 => rowAt g i
  | k + 1 => if lnk g i k then orRow (growTo g i k) (rowAt g k) else growTo g i k
def growG (g : List (List Int)) : List (List Int) := (List.range g.length).map fun i => growTo g i g.length
theorem growG_len (g : List (List Int)) : (growG g).length = g.length := by simp [growG]
theorem growG_get {g : List (List Int)} {i : Nat} (h : i < g.length) : (growG g)[i]? = some (growTo g i g.length) := by simp [growG, h]
section
variable {g : List (List Int)} {m : Nat}
theorem rowAt_len (hm : ∀ xs ∈ g, xs.length = m) {i : Nat} (hi : i < g.length) : (rowAt g i).length = m := by
  obtain ⟨xs, hx⟩ := get_of_lt (xs := g) rfl hi
  rw [rowAt_get hx]; exact hm _ (List.mem_of_getElem? hx)
theorem growTo_len (hm : ∀ xs ∈ g, xs.length = m) {i : Nat} (hi : i < g.length) : ∀ k, k ≤ g.length → (growTo g i k).length = m
  | 0, _ => rowAt_len hm hi
  | k + 1, hk => by
    unfold growTo
    split
    · exact orRow_len (growTo_len hm hi k (by omega)) (rowAt_len hm (by omega))
    · exact growTo_len hm hi k (by omega)
theorem growG_rows (hm : ∀ xs ∈ g, xs.length = m) : ∀ xs ∈ growG g, xs.length = m := by
  intro xs hx
  unfold growG at hx
  obtain ⟨i, hi, rfl⟩ := List.mem_map.1 hx
  exact growTo_len hm (by simpa using hi) _ (Nat.le_refl _)
end
/-- The first i rows are done. -/
def gAt (g : List (List Int)) (i : Nat) : List (List Int) := ((List.range i).map fun j => growTo g j g.length) ++ g.drop i
theorem gAt_zero (g : List (List Int)) : gAt g 0 = g := by simp [gAt]
theorem gAt_len {g : List (List Int)} {i : Nat} (h : i ≤ g.length) : (gAt g i).length = g.length := by unfold gAt; simp; omega
theorem gAt_get {g : List (List Int)} {i : Nat} (h : i < g.length) : (gAt g i)[i]? = some (rowAt g i) := by
  obtain ⟨xs, hx⟩ := get_of_lt (xs := g) rfl h
  unfold gAt
  rw [List.getElem?_append_right (by simp), List.length_map, List.length_range, Nat.sub_self, List.getElem?_drop, Nat.add_zero, hx, rowAt_get hx]
theorem gAt_self {g : List (List Int)} {i : Nat} (h : i < g.length) : (gAt g i).set i (growTo g i 0) = gAt g i := by
  have hx := gAt_get h
  show (gAt g i).set i (rowAt g i) = gAt g i
  apply List.ext_getElem?
  intro j
  by_cases hij : i = j
  · subst hij; rw [List.getElem?_set_self (by rw [gAt_len (by omega)]; exact h), hx]
  · rw [List.getElem?_set_ne hij]
theorem gAt_step {g : List (List Int)} {i : Nat} (h : i < g.length) : (gAt g i).set i (growTo g i g.length) = gAt g (i + 1) := by
  obtain ⟨xs, hx⟩ := get_of_lt (xs := g) rfl h
  unfold gAt
  rw [List.set_append_right _ _ (by simp), List.length_map, List.length_range, Nat.sub_self, drop_of_get hx, List.set_cons_zero, List.range_succ, List.map_append, List.append_assoc]
  rfl
theorem gAt_end (g : List (List Int)) : gAt g g.length = growG g := by unfold gAt growG; simp
end Go.Proofs.Ytbljkahdhckegaa
