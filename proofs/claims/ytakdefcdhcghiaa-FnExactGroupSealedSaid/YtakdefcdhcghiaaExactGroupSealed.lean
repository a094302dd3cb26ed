/-
  The law FnExactGroupSealed returns true at every input, and leaves all that was there as it was: the walk.
-/
import Derived.Test.YtakdefcdhcghiaaSeA
import Derived.Test.YtakdefcdhcghiaaOpen
namespace Go.Proofs.Ytakdefcdhcghiaa
open Go.RowKit
set_option linter.unusedVariables false

set_option maxHeartbeats 400000 in
theorem FnExactGroupSealed_walk (Ag : Option Addr) (ng cg : Nat) (g : List (List Int)) (As : Option Addr) (ns cs : Nat) (s : List Bool) (w : World) (hg : RdR w Ag ng cg g) (Fg : ∀ r ∈ g, ∀ z ∈ r, Fits z) (hs : Rd w 1 As ns cs (cB s)) (Fs : (fun _ : List Bool => True) s) :
    Calls Try.prog 3 #[.slice Ag ng cg, .slice As ns cs] w fun e w' => e = .returned (.bool true) ∧ Ext w w' := by
  have hleg := hg.le
  have htopg := hg.top
  have HLg := Lib.hid hg.lenR
  have hles := hs.le
  have htops := hs.top
  have HLs := Lib.hid hs.lenB
  by_cases hd : ns ≤ 1048576
  rotate_left
  · have hx : 1048576 < ns := by omega
    go_enter Try.func3, Try.ntmps3
    go_wp2_with fail
    all_goals go_ret
    all_goals exact ⟨rfl, Below.refl _ _⟩
  have hns := hd
  by_cases hng : ng + tot g ≤ 1048576
  rotate_left
  · have hs : szR (1048576) g = -1 := by unfold szR; rw [if_pos (by rw [HLg.out]; omega)]
    go_enter Try.func3, Try.ntmps3
    go_wp2_with fail
    refine (szIntSS_any _ _ _ _ _ _ hg (by omega) (by omega)).mono ?_; rintro e w' ⟨rfl, rfl⟩; rw [hs]
    go_wp2
    go_ret
    exact ⟨rfl, Below.refl _ _⟩
  have hsg : szR (1048576) g = 1048576 - ng - tot g := by unfold szR; rw [HLg.out, if_neg (by omega)]
  go_enter Try.func3, Try.ntmps3
  go_wp2_with fail
  refine (szIntSS_any _ _ _ _ _ _ (hg) (by omega) (by omega)).mono ?_; rintro e w' ⟨rfl, rfl⟩; rw [hsg]
  have hzg : ng ≤ 1048576 := by omega
  have htg : ∀ x ∈ g, x.length ≤ 1048576 := fun x hx => Nat.le_trans (tot_mem hx) (by omega)
  have hzs : ns ≤ 1048576 := by omega
  go_wp2_with fail
  refine (toIntSS_any _ _ _ _ _ (hg) (by omega) (fun x hx => Nat.le_trans (tot_mem hx) (by omega))).mono ?_; rintro e w1 ⟨Ax1, cx1, rfl, ox1, hb1⟩
  go_wp2_with fail
  refine (toBoolS_any _ _ _ _ _ (Rd.below (hs) hb1) (by omega)).mono ?_; rintro e w2 ⟨Ax2, cx2, rfl, ox2, hb2⟩
  go_wp2_with fail
  refine (specGroupSealed_any _ _ _ _ _ _ _ _ _ (RdR.below ((FrR.rdR ox1)) hb2) ((Rd.of_row ox2)) ).mono ?_; rintro e w3 ⟨rfl, hb3⟩
  go_wp2_with fail
  refine (toIntSS_any _ _ _ _ _ (RdR.below (hg) (Ext.trans (Ext.trans hb1 hb2) hb3)) (by omega) (fun x hx => Nat.le_trans (tot_mem hx) (by omega))).mono ?_; rintro e w4 ⟨Ax3, cx3, rfl, ox3, hb4⟩
  go_wp2_with fail
  refine (toBoolS_any _ _ _ _ _ (Rd.below (hs) (Ext.trans (Ext.trans (Ext.trans hb1 hb2) hb3) hb4)) (by omega)).mono ?_; rintro e w5 ⟨Ax4, cx4, rfl, ox4, hb5⟩
  go_wp2_with fail
  refine (GroupSealed_any _ _ _ _ _ _ _ _ _ (RdR.below ((FrR.rdR ox3)) hb5) ((Rd.of_row ox4)) ).mono ?_; rintro e w6 ⟨rfl, hb6⟩
  go_wp2_with fail
  refine (toIntSS_any _ _ _ _ _ (RdR.below (hg) (Ext.trans (Ext.trans (Ext.trans (Ext.trans (Ext.trans hb1 hb2) hb3) hb4) hb5) hb6)) (by omega) (fun x hx => Nat.le_trans (tot_mem hx) (by omega))).mono ?_; rintro e w7 ⟨Ax5, cx5, rfl, ox5, hb7⟩
  go_wp2_with fail
  refine (eqIntSS_any _ _ _ _ _ _ _ _ _ (RdR.below ((FrR.rdR ox3)) (Ext.trans (Ext.trans hb5 hb6) hb7)) ((FrR.rdR ox5))).mono ?_; rintro e w8 ⟨rfl, hb8⟩; rw [(eqRs_iff _ _).2 rfl]
  go_wp2_with fail
  refine (toBoolS_any _ _ _ _ _ (Rd.below (hs) (Ext.trans (Ext.trans (Ext.trans (Ext.trans (Ext.trans (Ext.trans (Ext.trans hb1 hb2) hb3) hb4) hb5) hb6) hb7) hb8)) (by omega)).mono ?_; rintro e w9 ⟨Ax6, cx6, rfl, ox6, hb9⟩
  go_wp2_with fail
  refine (eqBoolS_any _ _ _ _ _ _ _ _ _ (Rd.below ((Rd.of_row ox4)) (Ext.trans (Ext.trans (Ext.trans hb6 hb7) hb8) hb9)) ((Rd.of_row ox6))).mono ?_; rintro e w10 ⟨rfl, hb10⟩; rw [(eqBs_iff _ _).2 rfl]
  go_wp2
  go_ret
  exact ⟨rfl, (Ext.trans (Ext.trans (Ext.trans (Ext.trans (Ext.trans (Ext.trans (Ext.trans (Ext.trans (Ext.trans hb1 hb2) hb3) hb4) hb5) hb6) hb7) hb8) hb9) hb10)⟩
end Go.Proofs.Ytakdefcdhcghiaa
