/-
  A frame taken back, said of lists. No program is walked here.
-/
import Derived.Test.YtcdmpnkcfopmbaaMpL
import Derived.Test.YtcdmpnkcfopmbaaMpG
namespace Go.Proofs.Ytcdmpnkcfopmbaa
open Go.RowKit

/-- A frame taken back. -/
theorem kept_mem {f : Int} {ms : List Mp} : ∀ x ∈ keptF f ms, x.2.1 ≠ f := by
  intro x hx
  unfold keptF at hx
  split at hx
  · have := (List.mem_filter.1 hx).2
    simpa using this
  · simp at hx
theorem kept_valid {f : Int} {ms : List Mp} (hv : spValid ms = true) : spValid (keptF f ms) = true := by
  obtain ⟨h1, h2⟩ := spValid_iff.1 hv
  unfold keptF
  rw [hv, if_pos rfl]
  exact spValid_iff.2 ⟨filter_from _ h1, Nat.le_trans (List.length_filter_le _ _) h2⟩
theorem kept_gone {f : Int} {ms : List Mp} (hv : spValid ms = true) : (keptF f ms).length + (goneF f ms).length = ms.length := by
  unfold keptF goneF
  rw [hv, if_pos rfl, if_pos rfl, List.length_map]
  have : ∀ l : List Mp, (l.filter (fun x => !(x.2.1 == f))).length + (l.filter (fun x => x.2.1 == f)).length = l.length := by
    intro l
    induction l with
    | nil => rfl
    | cons x r ih =>
      rw [List.filter_cons, List.filter_cons, List.length_cons]
      cases h : (x.2.1 == f) <;> simp <;> omega
  exact this ms
theorem gone_at {f : Int} {ms : List Mp} (hv : spValid ms = true) : ∀ p ∈ goneF f ms, (0 ≤ p ∧ p ≤ 255) ∧ (0 ≤ f ∧ f ≤ 99) ∧ trOf ms (p * 256) 0 = f * 256 ∧ trOf (keptF f ms) (p * 256) 0 = -1 := by
  intro p hp
  have hs := spValid_from hv
  unfold goneF at hp
  rw [hv, if_pos rfl] at hp
  obtain ⟨m, hm, rfl⟩ := List.mem_map.1 hp
  obtain ⟨hm, hf⟩ := List.mem_filter.1 hm
  have hf' : m.2.1 = f := by simpa using hf
  have hr := spFrom_mem hs m hm
  have hl := look_of_mem hs m hm
  have e : m.1 * 256 / 256 = m.1 := by omega
  refine ⟨by omega, by omega, ?_, tr_gone ?_⟩
  · rw [tr_val hv (inB_iff.2 (by omega)) (by decide) (by rw [e]; exact hl) (cov_zero (by omega)), hf']
    omega
  · rw [e]
    unfold keptF
    rw [hv, if_pos rfl, look_filter _ _ hs, hl]
    simp [Option.filter, hf']

end Go.Proofs.Ytcdmpnkcfopmbaa
