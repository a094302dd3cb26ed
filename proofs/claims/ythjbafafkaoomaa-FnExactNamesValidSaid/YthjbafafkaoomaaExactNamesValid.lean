/-
  The law FnExactNamesValid returns true at every input, and leaves all that was there as it was.
-/
import Derived.Test.YthjbafafkaoomaaNmC
namespace Go.Proofs.Ythjbafafkaoomaa
open Go.RowKit

set_option maxHeartbeats 400000 in
theorem FnExactNamesValid_walk (A : Option Addr) (n c : Nat) (ms : List Nm) (w : World) (h : Rd w 3 A n c (cN ms)) (hf : ∀ m ∈ ms, FitsN m) :
    Calls Try.prog 4 #[.slice A n c] w fun e w' => e = .returned (.bool true) ∧ Ext w w' := by
  go_enter Try.func4, Try.ntmps4
  go_wp2_with fail
  refine (szNameS_any _ _ _ _ _ _ h hf (by omega) (by omega)).mono ?_; rintro e w0 ⟨r, rfl, hr0, hr1, hb0⟩
  by_cases hn : r < 0
  · go_wp2
    go_ret
    exact ⟨rfl, hb0⟩
  · have hn' : n ≤ 1048576 := by have := hr1 (by omega); omega
    clear hr1
    go_wp2_with fail
    refine (toNameS_any _ _ _ _ _ (h.below hb0) hn').mono ?_; rintro e w1 ⟨A1, c1, rfl, o1, hb1⟩
    go_wp2_with fail
    refine (specNamesValid_any _ _ _ _ _ (Rd.of_row o1) hf).mono ?_; rintro e w2 ⟨rfl, hb2⟩
    go_wp2_with fail
    refine (toNameS_any _ _ _ _ _ (h.below (hb0.trans (hb1.trans hb2))) hn').mono ?_; rintro e w3 ⟨A3, c3, rfl, o3, hb3⟩
    go_wp2_with fail
    refine (NamesValid_any _ _ _ _ _ (Rd.of_row o3) hf).mono ?_; rintro e w4 ⟨rfl, hb4⟩
    go_wp2_with fail
    refine (toNameS_any _ _ _ _ _ (h.below (hb0.trans (hb1.trans (hb2.trans (hb3.trans hb4))))) hn').mono ?_; rintro e w5 ⟨A5, c5, rfl, o5, hb5⟩
    go_wp2_with fail
    refine (eqNameS_self _ _ _ _ _ _ _ (((Rd.of_row o3).below hb4).below hb5) (Rd.of_row o5)).mono ?_; rintro e w6 ⟨rfl, hb6⟩
    go_wp2
    go_ret
    exact ⟨rfl, hb0.trans (hb1.trans (hb2.trans (hb3.trans (hb4.trans (hb5.trans hb6)))))⟩
end Go.Proofs.Ythjbafafkaoomaa
