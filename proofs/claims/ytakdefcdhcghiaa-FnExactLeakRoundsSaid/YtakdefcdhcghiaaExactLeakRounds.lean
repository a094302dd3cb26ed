/-
  The law FnExactLeakRounds returns true at every input, and leaves all that was there as it was: the walk.
-/
import Derived.Test.YtakdefcdhcghiaaLkA
import Derived.Test.YtakdefcdhcghiaaOpen
namespace Go.Proofs.Ytakdefcdhcghiaa
open Go.RowKit
set_option linter.unusedVariables false

set_option maxHeartbeats 400000 in
theorem FnExactLeakRounds_walk (Ag : Option Addr) (ng cg : Nat) (g : List (List Int)) (i : Int) (j : Int) (r : Int) (w : World) (hg : RdR w Ag ng cg g) (Fg : ∀ r ∈ g, ∀ z ∈ r, Fits z) (Fi : Fits i) (Fj : Fits j) (Fr : Fits r) :
    Calls Try.prog 6 #[.slice Ag ng cg, .int .i64 i, .int .i64 j, .int .i64 r] w fun e w' => e = .returned (.bool true) ∧ Ext w w' := by
  have hleg := hg.le
  have htopg := hg.top
  have HLg := Lib.hid hg.lenR
  by_cases hng : ng + tot g ≤ 1048576
  rotate_left
  · have hs : szR (1048576) g = -1 := by unfold szR; rw [if_pos (by rw [HLg.out]; omega)]
    go_enter Try.func6, Try.ntmps6
    go_wp2_with fail
    refine (szIntSS_any _ _ _ _ _ _ hg (by omega) (by omega)).mono ?_; rintro e w' ⟨rfl, rfl⟩; rw [hs]
    go_wp2
    go_ret
    exact ⟨rfl, Below.refl _ _⟩
  have hsg : szR (1048576) g = 1048576 - ng - tot g := by unfold szR; rw [HLg.out, if_neg (by omega)]
  go_enter Try.func6, Try.ntmps6
  go_wp2_with fail
  refine (szIntSS_any _ _ _ _ _ _ (hg) (by omega) (by omega)).mono ?_; rintro e w' ⟨rfl, rfl⟩; rw [hsg]
  have hzg : ng ≤ 1048576 := by omega
  have htg : ∀ x ∈ g, x.length ≤ 1048576 := fun x hx => Nat.le_trans (tot_mem hx) (by omega)
  go_wp2_with fail
  refine (toIntSS_any _ _ _ _ _ (hg) (by omega) (fun x hx => Nat.le_trans (tot_mem hx) (by omega))).mono ?_; rintro e w1 ⟨Ax1, cx1, rfl, ox1, hb1⟩
  go_wp2_with fail
  refine (specLeakRounds_any _ _ _ _ _ _ _ _ ((FrR.rdR ox1)) ).mono ?_; rintro e w2 ⟨rfl, hb2⟩
  go_wp2_with fail
  refine (toIntSS_any _ _ _ _ _ (RdR.below (hg) (Ext.trans hb1 hb2)) (by omega) (fun x hx => Nat.le_trans (tot_mem hx) (by omega))).mono ?_; rintro e w3 ⟨Ax2, cx2, rfl, ox2, hb3⟩
  go_wp2_with fail
  refine (LeakRounds_any _ _ _ _ _ _ _ _ ((FrR.rdR ox2)) ).mono ?_; rintro e w4 ⟨rfl, hb4⟩
  go_wp2_with fail
  refine (toIntSS_any _ _ _ _ _ (RdR.below (hg) (Ext.trans (Ext.trans (Ext.trans hb1 hb2) hb3) hb4)) (by omega) (fun x hx => Nat.le_trans (tot_mem hx) (by omega))).mono ?_; rintro e w5 ⟨Ax3, cx3, rfl, ox3, hb5⟩
  go_wp2_with fail
  refine (eqIntSS_any _ _ _ _ _ _ _ _ _ (RdR.below ((FrR.rdR ox2)) (Ext.trans hb4 hb5)) ((FrR.rdR ox3))).mono ?_; rintro e w6 ⟨rfl, hb6⟩; rw [(eqRs_iff _ _).2 rfl]
  go_wp2
  go_ret
  exact ⟨rfl, (Ext.trans (Ext.trans (Ext.trans (Ext.trans (Ext.trans hb1 hb2) hb3) hb4) hb5) hb6)⟩
end Go.Proofs.Ytakdefcdhcghiaa
