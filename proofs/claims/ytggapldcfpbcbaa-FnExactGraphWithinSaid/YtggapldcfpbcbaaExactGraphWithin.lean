/-
  The law FnExactGraphWithin returns true at every input, and leaves all that was there as it was: the walk.
-/
import Derived.Test.YtggapldcfpbcbaaGvB
import Derived.Test.YtggapldcfpbcbaaOpen
namespace Go.Proofs.Ytggapldcfpbcbaa
open Go.RowKit
set_option linter.unusedVariables false

set_option maxHeartbeats 400000 in
theorem FnExactGraphWithin_walk (Aa : Option Addr) (na ca : Nat) (a : List (List Int)) (Ab : Option Addr) (nb cb : Nat) (b : List (List Int)) (w : World) (ha : RdR w Aa na ca a) (Fa : ∀ r ∈ a, ∀ z ∈ r, Fits z) (hb : RdR w Ab nb cb b) (Fb : ∀ r ∈ b, ∀ z ∈ r, Fits z) :
    Calls Try.prog 4 #[.slice Aa na ca, .slice Ab nb cb] w fun e w' => e = .returned (.bool true) ∧ Ext w w' := by
  have hlea := ha.le
  have htopa := ha.top
  have HLa := Lib.hid ha.lenR
  have hleb := hb.le
  have htopb := hb.top
  have HLb := Lib.hid hb.lenR
  by_cases hna : na + tot a ≤ 1048576
  rotate_left
  · have hs : szR (1048576) a = -1 := by unfold szR; rw [if_pos (by rw [HLa.out]; omega)]
    go_enter Try.func4, Try.ntmps4
    go_wp2_with fail
    refine (szIntSS_any _ _ _ _ _ _ ha (by omega) (by omega)).mono ?_; rintro e w' ⟨rfl, rfl⟩; rw [hs]
    go_wp2
    go_ret
    exact ⟨rfl, Below.refl _ _⟩
  have hsa : szR (1048576) a = 1048576 - na - tot a := by unfold szR; rw [HLa.out, if_neg (by omega)]
  by_cases hnb : na + tot a + nb + tot b ≤ 1048576
  rotate_left
  · have hs : szR (1048576 - na - tot a) b = -1 := by unfold szR; rw [if_pos (by rw [HLb.out]; omega)]
    go_enter Try.func4, Try.ntmps4
    go_wp2_with fail
    refine (szIntSS_any _ _ _ _ _ _ ha (by omega) (by omega)).mono ?_; rintro e w' ⟨rfl, rfl⟩; rw [hsa]
    go_wp2_with fail
    refine (szIntSS_any _ _ _ _ _ _ hb (by omega) (by omega)).mono ?_; rintro e w' ⟨rfl, rfl⟩; rw [hs]
    go_wp2
    go_ret
    exact ⟨rfl, Below.refl _ _⟩
  have hsb : szR (1048576 - na - tot a) b = 1048576 - na - tot a - nb - tot b := by unfold szR; rw [HLb.out, if_neg (by omega)]
  go_enter Try.func4, Try.ntmps4
  go_wp2_with fail
  refine (szIntSS_any _ _ _ _ _ _ ha (by omega) (by omega)).mono ?_; rintro e w' ⟨rfl, rfl⟩; rw [hsa]
  go_wp2_with fail
  refine (szIntSS_any _ _ _ _ _ _ hb (by omega) (by omega)).mono ?_; rintro e w' ⟨rfl, rfl⟩; rw [hsb]
  go_wp2_with fail
  refine (toIntSS_any _ _ _ _ _ (ha) (by omega) (fun x hx => Nat.le_trans (tot_mem hx) (by omega))).mono ?_; rintro e w1 ⟨Ax1, cx1, rfl, ox1, hb1⟩
  go_wp2_with fail
  refine (toIntSS_any _ _ _ _ _ (RdR.below (hb) hb1) (by omega) (fun x hx => Nat.le_trans (tot_mem hx) (by omega))).mono ?_; rintro e w2 ⟨Ax2, cx2, rfl, ox2, hb2⟩
  go_wp2_with fail
  refine (specGraphWithin_any _ _ _ _ _ _ _ _ _ (RdR.below ((FrR.rdR ox1)) hb2) ((FrR.rdR ox2)) ).mono ?_; rintro e w3 ⟨rfl, hb3⟩
  go_wp2_with fail
  refine (toIntSS_any _ _ _ _ _ (RdR.below (ha) (Ext.trans (Ext.trans hb1 hb2) hb3)) (by omega) (fun x hx => Nat.le_trans (tot_mem hx) (by omega))).mono ?_; rintro e w4 ⟨Ax3, cx3, rfl, ox3, hb4⟩
  go_wp2_with fail
  refine (toIntSS_any _ _ _ _ _ (RdR.below (hb) (Ext.trans (Ext.trans (Ext.trans hb1 hb2) hb3) hb4)) (by omega) (fun x hx => Nat.le_trans (tot_mem hx) (by omega))).mono ?_; rintro e w5 ⟨Ax4, cx4, rfl, ox4, hb5⟩
  go_wp2_with fail
  refine (GraphWithin_any _ _ _ _ _ _ _ _ _ (RdR.below ((FrR.rdR ox3)) hb5) ((FrR.rdR ox4)) ).mono ?_; rintro e w6 ⟨rfl, hb6⟩
  go_wp2_with fail
  refine (toIntSS_any _ _ _ _ _ (RdR.below (ha) (Ext.trans (Ext.trans (Ext.trans (Ext.trans (Ext.trans hb1 hb2) hb3) hb4) hb5) hb6)) (by omega) (fun x hx => Nat.le_trans (tot_mem hx) (by omega))).mono ?_; rintro e w7 ⟨Ax5, cx5, rfl, ox5, hb7⟩
  go_wp2_with fail
  refine (eqIntSS_any _ _ _ _ _ _ _ _ _ (RdR.below ((FrR.rdR ox3)) (Ext.trans (Ext.trans hb5 hb6) hb7)) ((FrR.rdR ox5))).mono ?_; rintro e w8 ⟨rfl, hb8⟩; rw [(eqRs_iff _ _).2 rfl]
  go_wp2_with fail
  refine (toIntSS_any _ _ _ _ _ (RdR.below (hb) (Ext.trans (Ext.trans (Ext.trans (Ext.trans (Ext.trans (Ext.trans (Ext.trans hb1 hb2) hb3) hb4) hb5) hb6) hb7) hb8)) (by omega) (fun x hx => Nat.le_trans (tot_mem hx) (by omega))).mono ?_; rintro e w9 ⟨Ax6, cx6, rfl, ox6, hb9⟩
  go_wp2_with fail
  refine (eqIntSS_any _ _ _ _ _ _ _ _ _ (RdR.below ((FrR.rdR ox4)) (Ext.trans (Ext.trans (Ext.trans hb6 hb7) hb8) hb9)) ((FrR.rdR ox6))).mono ?_; rintro e w10 ⟨rfl, hb10⟩; rw [(eqRs_iff _ _).2 rfl]
  go_wp2
  go_ret
  exact ⟨rfl, (Ext.trans (Ext.trans (Ext.trans (Ext.trans (Ext.trans (Ext.trans (Ext.trans (Ext.trans (Ext.trans hb1 hb2) hb3) hb4) hb5) hb6) hb7) hb8) hb9) hb10)⟩
end Go.Proofs.Ytggapldcfpbcbaa
