/-
  Words for slices of structs of 4 numbers. No program is in sight here.
-/
import Derived.Test.YteahiiflgiimnaaBase
namespace Go.Proofs.Yteahiiflgiimnaa
open Go.RowKit

def e4 (m : Int × Int × Int × Int) : List Value := [.int .i64 m.1, .int .i64 m.2.1, .int .i64 m.2.2.1, .int .i64 m.2.2.2]
def c4 (ms : List (Int × Int × Int × Int)) : List Value := ms.flatMap e4
theorem e4_len (m : Int × Int × Int × Int) : (e4 m).length = 4 := rfl
theorem c4_len (ms : List (Int × Int × Int × Int)) : (c4 ms).length = ms.length * 4 := flat_length e4_len ms
theorem c4_nil : c4 [] = [] := rfl
theorem c4_take (ms : List (Int × Int × Int × Int)) (k : Nat) : c4 (ms.take k) = (c4 ms).take (k * 4) := flat_take e4_len ms k
theorem c4_drop (ms : List (Int × Int × Int × Int)) (k : Nat) : c4 (ms.drop k) = (c4 ms).drop (k * 4) := flat_drop e4_len ms k
theorem c4_append (a b : List (Int × Int × Int × Int)) : c4 (a ++ b) = c4 a ++ c4 b := List.flatMap_append
theorem Rd.len4 {w : World} {A : Option Addr} {n c : Nat} {ms : List (Int × Int × Int × Int)} (h : Rd w 4 A n c (c4 ms)) : ms.length = n := by
  have := h.len; rw [c4_len] at this; omega
theorem Rd.at4 {w : World} {A : Option Addr} {n c k : Nat} {ms : List (Int × Int × Int × Int)} (h : Rd w 4 A n c (c4 ms)) (hk : k < n) :
    ∃ b off x0 x1 x2 x3, A = some ⟨b, off, none⟩ ∧ Hid (ms[k]? = some (x0, x1, x2, x3)) ∧ w.cell? ⟨b, off + k * 4, none⟩ = some (.int .i64 x0) ∧ w.cell? ⟨b, off + k * 4 + 1, none⟩ = some (.int .i64 x1) ∧ w.cell? ⟨b, off + k * 4 + 2, none⟩ = some (.int .i64 x2) ∧ w.cell? ⟨b, off + k * 4 + 3, none⟩ = some (.int .i64 x3) := by
  obtain ⟨b, off, e, hc⟩ := h.cells (by omega)
  obtain ⟨⟨x0, x1, x2, x3⟩, hx⟩ := get_of_lt h.len4 hk
  refine ⟨b, off, x0, x1, x2, x3, e, hx, ?_, ?_, ?_, ?_⟩
  · exact hc (k * 4 + 0) _ (flat_get e4_len ms k 0 _ _ hx rfl)
  · rw [Nat.add_assoc]; exact hc (k * 4 + 1) _ (flat_get e4_len ms k 1 _ _ hx rfl)
  · rw [Nat.add_assoc]; exact hc (k * 4 + 2) _ (flat_get e4_len ms k 2 _ _ hx rfl)
  · rw [Nat.add_assoc]; exact hc (k * 4 + 3) _ (flat_get e4_len ms k 3 _ _ hx rfl)
def z4 : Int × Int × Int × Int := (0, 0, 0, 0)
theorem c4_replicate (n : Nat) : (madeCells #[.int .i64 0, .int .i64 0, .int .i64 0, .int .i64 0] (n * 4)).toList = c4 (List.replicate n z4) := by
  apply List.ext_getElem?
  intro i
  by_cases hi : i < n * 4
  · have h1 : i = i / 4 * 4 + i % 4 := by omega
    have hk : (List.replicate n z4)[i / 4]? = some z4 := by rw [List.getElem?_replicate, if_pos (by omega)]
    have h3 : i % 4 < 4 := Nat.mod_lt _ (by omega)
    have hj : (e4 z4)[i % 4]? = some (.int .i64 0) := by
      rcases (show i % 4 = 0 ∨ i % 4 = 1 ∨ i % 4 = 2 ∨ i % 4 = 3 from by omega) with h | h | h | h <;> rw [h] <;> rfl
    have h2 := flat_get e4_len _ _ _ _ _ hk hj
    rw [← h1] at h2
    rw [show c4 (List.replicate n z4) = (List.replicate n z4).flatMap e4 from rfl, h2]
    unfold madeCells
    rw [Array.getElem?_toList, Array.getElem?_map, Array.getElem?_range, if_pos hi]
    show some (#[Value.int .i64 0, .int .i64 0, .int .i64 0, .int .i64 0][i % 4]!) = _
    rcases (show i % 4 = 0 ∨ i % 4 = 1 ∨ i % 4 = 2 ∨ i % 4 = 3 from by omega) with h | h | h | h <;> rw [h] <;> rfl
  · rw [List.getElem?_eq_none (by rw [Array.length_toList, size_madeCells]; omega), List.getElem?_eq_none (by rw [c4_len, List.length_replicate]; omega)]

theorem c4_set (ms : List (Int × Int × Int × Int)) (k : Nat) (x0 x1 x2 x3 : Int) (hk : k < ms.length) :
    ((((c4 ms).set (k * 4) (.int .i64 x0)).set (k * 4 + 1) (.int .i64 x1)).set (k * 4 + 2) (.int .i64 x2)).set (k * 4 + 3) (.int .i64 x3) = c4 (ms.set k (x0, x1, x2, x3)) := by
  induction ms generalizing k with
  | nil => simp at hk
  | cons m ms ih =>
    cases k with
    | zero => rfl
    | succ k =>
      have := ih k (by simpa using hk)
      show (((((e4 m ++ c4 ms).set _ _).set _ _).set _ _).set _ _) = e4 m ++ c4 (ms.set k (x0, x1, x2, x3))
      rw [← this]
      have e1 : (k + 1) * 4 = 4 + k * 4 := by omega
      rw [e1]
      rw [List.set_append_right _ _ (by rw [e4_len]; omega), List.set_append_right _ _ (by rw [e4_len]; omega), List.set_append_right _ _ (by rw [e4_len]; omega), List.set_append_right _ _ (by rw [e4_len]; omega)]
      simp only [e4_len, show 4 + k * 4 - 4 = k * 4 from by omega, show 4 + k * 4 + 1 - 4 = k * 4 + 1 from by omega, show 4 + k * 4 + 2 - 4 = k * 4 + 2 from by omega, show 4 + k * 4 + 3 - 4 = k * 4 + 3 from by omega]

theorem own4_at {w : World} {B e g n cap k : Nat} {ms : List (Int × Int × Int × Int)} (h : Row w B e 4 (.slice (some ⟨g, 0, none⟩) n cap) n (c4 ms)) (hk : k < n) :
    ∃ x0 x1 x2 x3, Hid (ms[k]? = some (x0, x1, x2, x3)) ∧ w.cell? ⟨g, k * 4, none⟩ = some (.int .i64 x0) ∧ w.cell? ⟨g, k * 4 + 1, none⟩ = some (.int .i64 x1) ∧ w.cell? ⟨g, k * 4 + 2, none⟩ = some (.int .i64 x2) ∧ w.cell? ⟨g, k * 4 + 3, none⟩ = some (.int .i64 x3) := by
  have hl : ms.length = n := by have := h.len; rw [c4_len] at this; omega
  obtain ⟨⟨x0, x1, x2, x3⟩, hx⟩ := get_of_lt hl hk
  refine ⟨x0, x1, x2, x3, hx, ?_, ?_, ?_, ?_⟩
  · rw [h.cellAt _ (by omega)]; exact flat_get e4_len ms k 0 _ _ hx rfl
  · rw [h.cellAt _ (by omega)]; exact flat_get e4_len ms k 1 _ _ hx rfl
  · rw [h.cellAt _ (by omega)]; exact flat_get e4_len ms k 2 _ _ hx rfl
  · rw [h.cellAt _ (by omega)]; exact flat_get e4_len ms k 3 _ _ hx rfl
theorem own4_set {w : World} {B e g n cap k : Nat} {ms : List (Int × Int × Int × Int)} (h : Row w B e 4 (.slice (some ⟨g, 0, none⟩) n cap) n (c4 ms)) (hk : k < n) (x0 x1 x2 x3 : Int) :
    Row ((((w.setCell ⟨g, k * 4, none⟩ (.int .i64 x0)).setCell ⟨g, k * 4 + 1, none⟩ (.int .i64 x1)).setCell ⟨g, k * 4 + 2, none⟩ (.int .i64 x2)).setCell ⟨g, k * 4 + 3, none⟩ (.int .i64 x3)) B e 4 (.slice (some ⟨g, 0, none⟩) n cap) n (c4 (ms.set k (x0, x1, x2, x3))) := by
  have hl : ms.length = n := by have := h.len; rw [c4_len] at this; omega
  have h3 := ((((h.stored (k * 4) (.int .i64 x0)).stored (k * 4 + 1) (.int .i64 x1)).stored (k * 4 + 2) (.int .i64 x2)).stored (k * 4 + 3) (.int .i64 x3))
  rw [c4_set ms k x0 x1 x2 x3 (by omega)] at h3
  exact h3
theorem one_c4 (ms : List (Int × Int × Int × Int)) : ∀ u ∈ c4 ms, u.oneCell' = true := by
  intro u hu; unfold c4 e4 at hu; obtain ⟨m, _, h⟩ := List.mem_flatMap.1 hu; simp only [List.mem_cons, List.not_mem_nil, or_false] at h; rcases h with rfl | rfl | rfl | rfl <;> rfl
end Go.Proofs.Yteahiiflgiimnaa
