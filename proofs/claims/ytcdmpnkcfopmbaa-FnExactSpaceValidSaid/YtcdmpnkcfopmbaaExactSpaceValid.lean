/-
  The law FnExactSpaceValid returns true at every input, and leaves all that was there as it was.
-/
import Derived.Test.YtcdmpnkcfopmbaaMpB
import Derived.Test.YtcdmpnkcfopmbaaOpen
namespace Go.Proofs.Ytcdmpnkcfopmbaa
open Go.RowKit

set_option maxHeartbeats 400000 in
theorem FnExactSpaceValid_walk (A : Option Addr) (n c : Nat) (ms : List (Int × Int × Int)) (w : World) (h : Rd w 3 A n c (c3 ms)) (_ : ∀ m ∈ ms, Fits m.1 ∧ Fits m.2.1 ∧ Fits m.2.2) :
    Calls Try.prog 3 #[.slice A n c] w fun e w' => e = .returned (.bool true) ∧ Ext w w' := by
  have hle := h.le
  have htop := h.top
  by_cases hn : n ≤ 1048576
  · have hs : szB 1048576 n = 1048576 - n := by unfold szB; rw [if_neg (by omega)]
    have hE : eqMs ms ms = true := (eqMs_iff _ _).2 rfl
    go_enter Try.func3, Try.ntmps3
    go_wp2_with fail
    refine (szMappingS_any _ _ _ _ _ (by omega) (by omega) (by omega)).mono ?_; rintro e w' ⟨rfl, rfl⟩; rw [hs]
    go_wp2_with fail
    refine (toMappingS_any _ _ _ _ _ h hn).mono ?_; rintro e w1 ⟨A1, c1, rfl, o1, hb1⟩
    go_wp2_with fail
    refine (specSpaceValid_any _ _ _ _ _ (Rd.of_own o1)).mono ?_; rintro e w2 ⟨rfl, hb2⟩
    go_wp2_with fail
    refine (toMappingS_any _ _ _ _ _ (h.below (hb1.trans hb2)) hn).mono ?_; rintro e w3 ⟨A3, c3, rfl, o3, hb3⟩
    go_wp2_with fail
    refine (SpaceValid_any _ _ _ _ _ (Rd.of_own o3)).mono ?_; rintro e w4 ⟨rfl, hb4⟩
    go_wp2_with fail
    refine (toMappingS_any _ _ _ _ _ (h.below (hb1.trans (hb2.trans (hb3.trans hb4)))) hn).mono ?_; rintro e w5 ⟨A5, c5, rfl, o5, hb5⟩
    go_wp2_with fail
    refine (eqMappingS_any _ _ _ _ _ _ _ _ _ (((Rd.of_own o3).below hb4).below hb5) (Rd.of_own o5)).mono ?_; rintro e w6 ⟨rfl, hb6⟩; rw [hE]
    go_wp2
    go_ret
    exact ⟨rfl, hb1.trans (hb2.trans (hb3.trans (hb4.trans (hb5.trans hb6))))⟩
  · have hs : szB 1048576 n = -1 := by unfold szB; rw [if_pos (by omega)]
    go_enter Try.func3, Try.ntmps3
    go_wp2_with (go_at_call 14; refine (szMappingS_any _ _ _ _ _ (by omega) (by omega) (by omega)).mono ?_; rintro e w' ⟨rfl, rfl⟩; rw [hs])
    go_ret
    exact ⟨rfl, Below.refl _ _⟩
end Go.Proofs.Ytcdmpnkcfopmbaa
