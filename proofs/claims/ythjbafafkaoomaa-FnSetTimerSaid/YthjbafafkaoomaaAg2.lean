/-
  Words for slices of structs of 2 numbers. No program is in sight here.
-/
import Derived.Test.YthjbafafkaoomaaBase
namespace Go.Proofs.Ythjbafafkaoomaa
open Go.RowKit

def e2 (m : Int × Int) : List Value := [.int .i64 m.1, .int .i64 m.2]
def c2 (ms : List (Int × Int)) : List Value := ms.flatMap e2
theorem e2_len (m : Int × Int) : (e2 m).length = 2 := rfl
theorem c2_len (ms : List (Int × Int)) : (c2 ms).length = ms.length * 2 := flat_length e2_len ms
theorem c2_nil : c2 [] = [] := rfl
theorem c2_take (ms : List (Int × Int)) (k : Nat) : c2 (ms.take k) = (c2 ms).take (k * 2) := flat_take e2_len ms k
theorem c2_drop (ms : List (Int × Int)) (k : Nat) : c2 (ms.drop k) = (c2 ms).drop (k * 2) := flat_drop e2_len ms k
theorem c2_append (a b : List (Int × Int)) : c2 (a ++ b) = c2 a ++ c2 b := List.flatMap_append
theorem Rd.len2 {w : World} {A : Option Addr} {n c : Nat} {ms : List (Int × Int)} (h : Rd w 2 A n c (c2 ms)) : ms.length = n := by
  have := h.len; rw [c2_len] at this; omega
theorem Rd.at2 {w : World} {A : Option Addr} {n c k : Nat} {ms : List (Int × Int)} (h : Rd w 2 A n c (c2 ms)) (hk : k < n) :
    ∃ b off x0 x1, A = some ⟨b, off, none⟩ ∧ Hid (ms[k]? = some (x0, x1)) ∧ w.cell? ⟨b, off + k * 2, none⟩ = some (.int .i64 x0) ∧ w.cell? ⟨b, off + k * 2 + 1, none⟩ = some (.int .i64 x1) := by
  obtain ⟨b, off, e, hc⟩ := h.cells (by omega)
  obtain ⟨⟨x0, x1⟩, hx⟩ := get_of_lt h.len2 hk
  refine ⟨b, off, x0, x1, e, hx, ?_, ?_⟩
  · exact hc (k * 2 + 0) _ (flat_get e2_len ms k 0 _ _ hx rfl)
  · rw [Nat.add_assoc]; exact hc (k * 2 + 1) _ (flat_get e2_len ms k 1 _ _ hx rfl)
def z2 : Int × Int := (0, 0)
theorem c2_replicate (n : Nat) : (madeCells #[.int .i64 0, .int .i64 0] (n * 2)).toList = c2 (List.replicate n z2) := by
  apply List.ext_getElem?
  intro i
  by_cases hi : i < n * 2
  · have h1 : i = i / 2 * 2 + i % 2 := by omega
    have hk : (List.replicate n z2)[i / 2]? = some z2 := by rw [List.getElem?_replicate, if_pos (by omega)]
    have h3 : i % 2 < 2 := Nat.mod_lt _ (by omega)
    have hj : (e2 z2)[i % 2]? = some (.int .i64 0) := by
      rcases (show i % 2 = 0 ∨ i % 2 = 1 from by omega) with h | h <;> rw [h] <;> rfl
    have h2 := flat_get e2_len _ _ _ _ _ hk hj
    rw [← h1] at h2
    rw [show c2 (List.replicate n z2) = (List.replicate n z2).flatMap e2 from rfl, h2]
    unfold madeCells
    rw [Array.getElem?_toList, Array.getElem?_map, Array.getElem?_range, if_pos hi]
    show some (#[Value.int .i64 0, .int .i64 0][i % 2]!) = _
    rcases (show i % 2 = 0 ∨ i % 2 = 1 from by omega) with h | h <;> rw [h] <;> rfl
  · rw [List.getElem?_eq_none (by rw [Array.length_toList, size_madeCells]; omega), List.getElem?_eq_none (by rw [c2_len, List.length_replicate]; omega)]

theorem c2_set (ms : List (Int × Int)) (k : Nat) (x0 x1 : Int) (hk : k < ms.length) :
    ((c2 ms).set (k * 2) (.int .i64 x0)).set (k * 2 + 1) (.int .i64 x1) = c2 (ms.set k (x0, x1)) := by
  induction ms generalizing k with
  | nil => simp at hk
  | cons m ms ih =>
    cases k with
    | zero => rfl
    | succ k =>
      have := ih k (by simpa using hk)
      show (((e2 m ++ c2 ms).set _ _).set _ _) = e2 m ++ c2 (ms.set k (x0, x1))
      rw [← this]
      have e1 : (k + 1) * 2 = 2 + k * 2 := by omega
      rw [e1]
      rw [List.set_append_right _ _ (by rw [e2_len]; omega), List.set_append_right _ _ (by rw [e2_len]; omega)]
      simp only [e2_len, show 2 + k * 2 - 2 = k * 2 from by omega, show 2 + k * 2 + 1 - 2 = k * 2 + 1 from by omega]

theorem own2_at {w : World} {B e g n cap k : Nat} {ms : List (Int × Int)} (h : Row w B e 2 (.slice (some ⟨g, 0, none⟩) n cap) n (c2 ms)) (hk : k < n) :
    ∃ x0 x1, Hid (ms[k]? = some (x0, x1)) ∧ w.cell? ⟨g, k * 2, none⟩ = some (.int .i64 x0) ∧ w.cell? ⟨g, k * 2 + 1, none⟩ = some (.int .i64 x1) := by
  have hl : ms.length = n := by have := h.len; rw [c2_len] at this; omega
  obtain ⟨⟨x0, x1⟩, hx⟩ := get_of_lt hl hk
  refine ⟨x0, x1, hx, ?_, ?_⟩
  · rw [h.cellAt _ (by omega)]; exact flat_get e2_len ms k 0 _ _ hx rfl
  · rw [h.cellAt _ (by omega)]; exact flat_get e2_len ms k 1 _ _ hx rfl
theorem own2_set {w : World} {B e g n cap k : Nat} {ms : List (Int × Int)} (h : Row w B e 2 (.slice (some ⟨g, 0, none⟩) n cap) n (c2 ms)) (hk : k < n) (x0 x1 : Int) :
    Row ((w.setCell ⟨g, k * 2, none⟩ (.int .i64 x0)).setCell ⟨g, k * 2 + 1, none⟩ (.int .i64 x1)) B e 2 (.slice (some ⟨g, 0, none⟩) n cap) n (c2 (ms.set k (x0, x1))) := by
  have hl : ms.length = n := by have := h.len; rw [c2_len] at this; omega
  have h3 := ((h.stored (k * 2) (.int .i64 x0)).stored (k * 2 + 1) (.int .i64 x1))
  rw [c2_set ms k x0 x1 (by omega)] at h3
  exact h3
theorem one_c2 (ms : List (Int × Int)) : ∀ u ∈ c2 ms, u.oneCell' = true := by
  intro u hu; unfold c2 e2 at hu; obtain ⟨m, _, h⟩ := List.mem_flatMap.1 hu; simp only [List.mem_cons, List.not_mem_nil, or_false] at h; rcases h with rfl | rfl <;> rfl
end Go.Proofs.Ythjbafafkaoomaa
