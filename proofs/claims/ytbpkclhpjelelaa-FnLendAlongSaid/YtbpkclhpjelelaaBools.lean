/-
  Slices of truth values: alike, copied, marked, still marked.
-/
import Derived.Test.YtbpkclhpjelelaaTypes
namespace Go.Proofs.Ytbpkclhpjelelaa
open Go.RowKit

/-- A slice of truth values, as cells. -/
def cB (zs : List Bool) : List Value := zs.map Value.bool
theorem Try.infoBool : (Try.prog.info? 4).map (fun i => (i.zero, i.size, i.bytes)) = some (some (.bool false), 1, 1) := by kernel_rfl
theorem Rd.lenB {w : World} {A : Option Addr} {n c : Nat} {zs : List Bool} (h : Rd w 1 A n c (cB zs)) : zs.length = n := by
  have := h.len; simpa [cB] using this
theorem Rd.atB {w : World} {A : Option Addr} {n c k : Nat} {zs : List Bool} (h : Rd w 1 A n c (cB zs)) (hk : k < n) :
    ∃ b off x, A = some ⟨b, off, none⟩ ∧ Hid (zs[k]? = some x) ∧ w.cell? ⟨b, off + k, none⟩ = some (.bool x) := by
  obtain ⟨b, off, e, hc⟩ := h.cells (by omega)
  obtain ⟨x, hx⟩ := get_of_lt h.lenB hk
  exact ⟨b, off, x, e, hx, hc k _ (by simp [cB, hx])⟩
theorem one_cB (zs : List Bool) : ∀ u ∈ cB zs, u.oneCell' = true := by
  intro u hu; unfold cB at hu; obtain ⟨z, _, rfl⟩ := List.mem_map.1 hu; rfl

def eqBs (a b : List Bool) : Bool := decide (a = b)
theorem eqBs_iff (a b : List Bool) : eqBs a b = true ↔ a = b := by unfold eqBs; simp
theorem eqBs_cons (x y : Bool) (a b : List Bool) : eqBs (x :: a) (y :: b) = (decide (x = y) && eqBs a b) := by unfold eqBs; simp
theorem cB_set (zs : List Bool) (k : Nat) (z : Bool) : (cB zs).set k (.bool z) = cB (zs.set k z) := by unfold cB; rw [List.map_set]
theorem cB_append (a b : List Bool) : cB (a ++ b) = cB a ++ cB b := by unfold cB; rw [List.map_append]
theorem cB_take (a : List Bool) (k : Nat) : cB (a.take k) = (cB a).take (k * 1) := by unfold cB; rw [Nat.mul_one, List.map_take]
theorem cB_drop (a : List Bool) (k : Nat) : cB (a.drop k) = (cB a).drop (k * 1) := by unfold cB; rw [Nat.mul_one, List.map_drop]
theorem ownB_at {w : World} {B e g n cap k : Nat} {zs : List Bool} (h : Row w B e 1 (.slice (some ⟨g, 0, none⟩) n cap) n (cB zs)) (hk : k < n) : ∃ z, Hid (zs[k]? = some z) ∧ w.cell? ⟨g, k, none⟩ = some (.bool z) := by
  obtain ⟨z, hx⟩ := get_of_lt (Rd.of_row h).lenB hk
  exact ⟨z, hx, by rw [h.cellAt k (by omega)]; unfold cB; rw [List.getElem?_map, hx]; rfl⟩
theorem ownB_set {w : World} {B e g n cap k : Nat} {zs : List Bool} (h : Row w B e 1 (.slice (some ⟨g, 0, none⟩) n cap) n (cB zs)) (z : Bool) : Row (w.setCell ⟨g, k, none⟩ (.bool z)) B e 1 (.slice (some ⟨g, 0, none⟩) n cap) n (cB (zs.set k z)) := by
  rw [← cB_set]; exact h.stored k _
theorem cB_replicate (n : Nat) : (madeCells #[.bool false] (n * 1)).toList = cB (List.replicate n false) := by
  unfold madeCells cB
  rw [List.map_replicate, Nat.mul_one]
  apply List.ext_getElem?
  intro j
  simp only [Array.toList_map, Array.toList_range, List.getElem?_map, List.getElem?_replicate]
  by_cases h : j < n
  · rw [List.getElem?_range h, if_pos h]; simp [Nat.mod_one]
  · rw [List.getElem?_eq_none (by simpa using h), if_neg h]; rfl
/-- A mark's truth value. -/
def m3 (z : Int) : Bool := z % 3 == 0
def marksB (k : Int) (n : Nat) : List Bool := marks m3 1 k n
end Go.Proofs.Ytbpkclhpjelelaa
