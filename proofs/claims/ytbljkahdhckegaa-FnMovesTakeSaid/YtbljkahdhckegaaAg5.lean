/-
  Words for slices of structs of 5 numbers. No program is in sight here.
-/
import Derived.Test.YtbljkahdhckegaaBase
namespace Go.Proofs.Ytbljkahdhckegaa
open Go.RowKit

def e5 (m : Int × Int × Int × Int × Int) : List Value := [.int .i64 m.1, .int .i64 m.2.1, .int .i64 m.2.2.1, .int .i64 m.2.2.2.1, .int .i64 m.2.2.2.2]
def c5 (ms : List (Int × Int × Int × Int × Int)) : List Value := ms.flatMap e5
theorem e5_len (m : Int × Int × Int × Int × Int) : (e5 m).length = 5 := rfl
theorem c5_len (ms : List (Int × Int × Int × Int × Int)) : (c5 ms).length = ms.length * 5 := flat_length e5_len ms
theorem c5_nil : c5 [] = [] := rfl
theorem c5_take (ms : List (Int × Int × Int × Int × Int)) (k : Nat) : c5 (ms.take k) = (c5 ms).take (k * 5) := flat_take e5_len ms k
theorem c5_drop (ms : List (Int × Int × Int × Int × Int)) (k : Nat) : c5 (ms.drop k) = (c5 ms).drop (k * 5) := flat_drop e5_len ms k
theorem c5_append (a b : List (Int × Int × Int × Int × Int)) : c5 (a ++ b) = c5 a ++ c5 b := List.flatMap_append
theorem Rd.len5 {w : World} {A : Option Addr} {n c : Nat} {ms : List (Int × Int × Int × Int × Int)} (h : Rd w 5 A n c (c5 ms)) : ms.length = n := by
  have := h.len; rw [c5_len] at this; omega
theorem Rd.at5 {w : World} {A : Option Addr} {n c k : Nat} {ms : List (Int × Int × Int × Int × Int)} (h : Rd w 5 A n c (c5 ms)) (hk : k < n) :
    ∃ b off x0 x1 x2 x3 x4, A = some ⟨b, off, none⟩ ∧ Hid (ms[k]? = some (x0, x1, x2, x3, x4)) ∧ w.cell? ⟨b, off + k * 5, none⟩ = some (.int .i64 x0) ∧ w.cell? ⟨b, off + k * 5 + 1, none⟩ = some (.int .i64 x1) ∧ w.cell? ⟨b, off + k * 5 + 2, none⟩ = some (.int .i64 x2) ∧ w.cell? ⟨b, off + k * 5 + 3, none⟩ = some (.int .i64 x3) ∧ w.cell? ⟨b, off + k * 5 + 4, none⟩ = some (.int .i64 x4) := by
  obtain ⟨b, off, e, hc⟩ := h.cells (by omega)
  obtain ⟨⟨x0, x1, x2, x3, x4⟩, hx⟩ := get_of_lt h.len5 hk
  refine ⟨b, off, x0, x1, x2, x3, x4, e, hx, ?_, ?_, ?_, ?_, ?_⟩
  · exact hc (k * 5 + 0) _ (flat_get e5_len ms k 0 _ _ hx rfl)
  · rw [Nat.add_assoc]; exact hc (k * 5 + 1) _ (flat_get e5_len ms k 1 _ _ hx rfl)
  · rw [Nat.add_assoc]; exact hc (k * 5 + 2) _ (flat_get e5_len ms k 2 _ _ hx rfl)
  · rw [Nat.add_assoc]; exact hc (k * 5 + 3) _ (flat_get e5_len ms k 3 _ _ hx rfl)
  · rw [Nat.add_assoc]; exact hc (k * 5 + 4) _ (flat_get e5_len ms k 4 _ _ hx rfl)
def z5 : Int × Int × Int × Int × Int := (0, 0, 0, 0, 0)
theorem c5_replicate (n : Nat) : (madeCells #[.int .i64 0, .int .i64 0, .int .i64 0, .int .i64 0, .int .i64 0] (n * 5)).toList = c5 (List.replicate n z5) := by
  apply List.ext_getElem?
  intro i
  by_cases hi : i < n * 5
  · have h1 : i = i / 5 * 5 + i % 5 := by omega
    have hk : (List.replicate n z5)[i / 5]? = some z5 := by rw [List.getElem?_replicate, if_pos (by omega)]
    have h3 : i % 5 < 5 := Nat.mod_lt _ (by omega)
    have hj : (e5 z5)[i % 5]? = some (.int .i64 0) := by
      rcases (show i % 5 = 0 ∨ i % 5 = 1 ∨ i % 5 = 2 ∨ i % 5 = 3 ∨ i % 5 = 4 from by omega) with h | h | h | h | h <;> rw [h] <;> rfl
    have h2 := flat_get e5_len _ _ _ _ _ hk hj
    rw [← h1] at h2
    rw [show c5 (List.replicate n z5) = (List.replicate n z5).flatMap e5 from rfl, h2]
    unfold madeCells
    rw [Array.getElem?_toList, Array.getElem?_map, Array.getElem?_range, if_pos hi]
    show some (#[Value.int .i64 0, .int .i64 0, .int .i64 0, .int .i64 0, .int .i64 0][i % 5]!) = _
    rcases (show i % 5 = 0 ∨ i % 5 = 1 ∨ i % 5 = 2 ∨ i % 5 = 3 ∨ i % 5 = 4 from by omega) with h | h | h | h | h <;> rw [h] <;> rfl
  · rw [List.getElem?_eq_none (by rw [Array.length_toList, size_madeCells]; omega), List.getElem?_eq_none (by rw [c5_len, List.length_replicate]; omega)]

theorem c5_set (ms : List (Int × Int × Int × Int × Int)) (k : Nat) (x0 x1 x2 x3 x4 : Int) (hk : k < ms.length) :
    (((((c5 ms).set (k * 5) (.int .i64 x0)).set (k * 5 + 1) (.int .i64 x1)).set (k * 5 + 2) (.int .i64 x2)).set (k * 5 + 3) (.int .i64 x3)).set (k * 5 + 4) (.int .i64 x4) = c5 (ms.set k (x0, x1, x2, x3, x4)) := by
  induction ms generalizing k with
  | nil => simp at hk
  | cons m ms ih =>
    cases k with
    | zero => rfl
    | succ k =>
      have := ih k (by simpa using hk)
      show ((((((e5 m ++ c5 ms).set _ _).set _ _).set _ _).set _ _).set _ _) = e5 m ++ c5 (ms.set k (x0, x1, x2, x3, x4))
      rw [← this]
      have e1 : (k + 1) * 5 = 5 + k * 5 := by omega
      rw [e1]
      rw [List.set_append_right _ _ (by rw [e5_len]; omega), List.set_append_right _ _ (by rw [e5_len]; omega), List.set_append_right _ _ (by rw [e5_len]; omega), List.set_append_right _ _ (by rw [e5_len]; omega), List.set_append_right _ _ (by rw [e5_len]; omega)]
      simp only [e5_len, show 5 + k * 5 - 5 = k * 5 from by omega, show 5 + k * 5 + 1 - 5 = k * 5 + 1 from by omega, show 5 + k * 5 + 2 - 5 = k * 5 + 2 from by omega, show 5 + k * 5 + 3 - 5 = k * 5 + 3 from by omega, show 5 + k * 5 + 4 - 5 = k * 5 + 4 from by omega]

theorem own5_at {w : World} {B e g n cap k : Nat} {ms : List (Int × Int × Int × Int × Int)} (h : Row w B e 5 (.slice (some ⟨g, 0, none⟩) n cap) n (c5 ms)) (hk : k < n) :
    ∃ x0 x1 x2 x3 x4, Hid (ms[k]? = some (x0, x1, x2, x3, x4)) ∧ w.cell? ⟨g, k * 5, none⟩ = some (.int .i64 x0) ∧ w.cell? ⟨g, k * 5 + 1, none⟩ = some (.int .i64 x1) ∧ w.cell? ⟨g, k * 5 + 2, none⟩ = some (.int .i64 x2) ∧ w.cell? ⟨g, k * 5 + 3, none⟩ = some (.int .i64 x3) ∧ w.cell? ⟨g, k * 5 + 4, none⟩ = some (.int .i64 x4) := by
  have hl : ms.length = n := by have := h.len; rw [c5_len] at this; omega
  obtain ⟨⟨x0, x1, x2, x3, x4⟩, hx⟩ := get_of_lt hl hk
  refine ⟨x0, x1, x2, x3, x4, hx, ?_, ?_, ?_, ?_, ?_⟩
  · rw [h.cellAt _ (by omega)]; exact flat_get e5_len ms k 0 _ _ hx rfl
  · rw [h.cellAt _ (by omega)]; exact flat_get e5_len ms k 1 _ _ hx rfl
  · rw [h.cellAt _ (by omega)]; exact flat_get e5_len ms k 2 _ _ hx rfl
  · rw [h.cellAt _ (by omega)]; exact flat_get e5_len ms k 3 _ _ hx rfl
  · rw [h.cellAt _ (by omega)]; exact flat_get e5_len ms k 4 _ _ hx rfl
theorem own5_set {w : World} {B e g n cap k : Nat} {ms : List (Int × Int × Int × Int × Int)} (h : Row w B e 5 (.slice (some ⟨g, 0, none⟩) n cap) n (c5 ms)) (hk : k < n) (x0 x1 x2 x3 x4 : Int) :
    Row (((((w.setCell ⟨g, k * 5, none⟩ (.int .i64 x0)).setCell ⟨g, k * 5 + 1, none⟩ (.int .i64 x1)).setCell ⟨g, k * 5 + 2, none⟩ (.int .i64 x2)).setCell ⟨g, k * 5 + 3, none⟩ (.int .i64 x3)).setCell ⟨g, k * 5 + 4, none⟩ (.int .i64 x4)) B e 5 (.slice (some ⟨g, 0, none⟩) n cap) n (c5 (ms.set k (x0, x1, x2, x3, x4))) := by
  have hl : ms.length = n := by have := h.len; rw [c5_len] at this; omega
  have h3 := (((((h.stored (k * 5) (.int .i64 x0)).stored (k * 5 + 1) (.int .i64 x1)).stored (k * 5 + 2) (.int .i64 x2)).stored (k * 5 + 3) (.int .i64 x3)).stored (k * 5 + 4) (.int .i64 x4))
  rw [c5_set ms k x0 x1 x2 x3 x4 (by omega)] at h3
  exact h3
theorem one_c5 (ms : List (Int × Int × Int × Int × Int)) : ∀ u ∈ c5 ms, u.oneCell' = true := by
  intro u hu; unfold c5 e5 at hu; obtain ⟨m, _, h⟩ := List.mem_flatMap.1 hu; simp only [List.mem_cons, List.not_mem_nil, or_false] at h; rcases h with rfl | rfl | rfl | rfl | rfl <;> rfl
end Go.Proofs.Ytbljkahdhckegaa
