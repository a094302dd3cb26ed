/-
  The library's Clone and Clip, and the program's clone, at slices of int.
-/
import Derived.Test.YthjbafafkaoomaaRun
import Derived.Test.YthjbafafkaoomaaTypes
namespace Go.Proofs.Ythjbafafkaoomaa
open Go.RowKit


theorem Fr.clipI {w : World} {B e n c : Nat} {A : Option Addr} {xs : List Value} (h : Fr w B e 1 (.slice A n c) n xs) : Fr w B e 1 (.slice A n n) n xs := by
  rcases h with ⟨A', hv, rfl, rfl⟩ | h
  · simp only [Value.slice.injEq] at hv
    obtain ⟨rfl, _, rfl⟩ := hv
    exact .inl ⟨_, rfl, rfl, rfl⟩
  · obtain ⟨g, c', hv⟩ := h.shape
    simp only [Value.slice.injEq] at hv
    obtain ⟨rfl, _, rfl⟩ := hv
    exact .inr h.clip
set_option maxHeartbeats 400000 in
theorem ClipI_any (A : Option Addr) (n c : Nat) (w : World) (hn : n ≤ c) (_hc : c ≤ 9223372036854775807) :
    Calls Try.prog 58 #[.slice A n c] w fun e w' => e = .returned (.slice A n n) ∧ w = w' := by
  go_enter Try.func58, Try.ntmps58
  go_wp2
  go_ret
  exact ⟨rfl, rfl⟩

end Go.Proofs.Ythjbafafkaoomaa
