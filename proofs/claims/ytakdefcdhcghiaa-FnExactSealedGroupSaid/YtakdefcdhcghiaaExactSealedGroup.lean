/-
  The law FnExactSealedGroup returns true at every input, and leaves all that was there as it was: the walk.
-/
import Derived.Test.YtakdefcdhcghiaaSeC
import Derived.Test.YtakdefcdhcghiaaOpen
namespace Go.Proofs.Ytakdefcdhcghiaa
open Go.RowKit
set_option linter.unusedVariables false

set_option maxHeartbeats 400000 in
theorem FnExactSealedGroup_walk (Ag : Option Addr) (ng cg : Nat) (g : List (List Int)) (i : Int) (w : World) (hg : RdR w Ag ng cg g) (Fg : ∀ r ∈ g, ∀ z ∈ r, Fits z) (Fi : Fits i) :
    Calls Try.prog 4 #[.slice Ag ng cg, .int .i64 i] w fun e w' => e = .returned (.bool true) ∧ Ext w w' := by
  have hleg := hg.le
  have htopg := hg.top
  have HLg := Lib.hid hg.lenR
  by_cases hng : ng + tot g ≤ 1048576
  rotate_left
  · have hs : szR (1048576) g = -1 := by unfold szR; rw [if_pos (by rw [HLg.out]; omega)]
    go_enter Try.func4, Try.ntmps4
    go_wp2_with fail
    refine (szIntSS_any _ _ _ _ _ _ hg (by omega) (by omega)).mono ?_; rintro e w' ⟨rfl, rfl⟩; rw [hs]
    go_wp2
    go_ret
    exact ⟨rfl, Below.refl _ _⟩
  have hsg : szR (1048576) g = 1048576 - ng - tot g := by unfold szR; rw [HLg.out, if_neg (by omega)]
  go_enter Try.func4, Try.ntmps4
  go_wp2_with fail
  refine (szIntSS_any _ _ _ _ _ _ (hg) (by omega) (by omega)).mono ?_; rintro e w' ⟨rfl, rfl⟩; rw [hsg]
  have hzg : ng ≤ 1048576 := by omega
  have htg : ∀ x ∈ g, x.length ≤ 1048576 := fun x hx => Nat.le_trans (tot_mem hx) (by omega)
  go_wp2_with fail
  refine (toIntSS_any _ _ _ _ _ (hg) (by omega) (fun x hx => Nat.le_trans (tot_mem hx) (by omega))).mono ?_; rintro e w1 ⟨Ax1, cx1, rfl, ox1, hb1⟩
  go_wp2_with fail
  refine (specSealedGroup_any _ _ _ _ _ _ ((FrR.rdR ox1)) ).mono ?_; rintro e w2 ⟨As0, cs0, rfl, rs0, hb2⟩
  go_wp2_with fail
  refine (toIntSS_any _ _ _ _ _ (RdR.below (hg) (Ext.trans hb1 hb2)) (by omega) (fun x hx => Nat.le_trans (tot_mem hx) (by omega))).mono ?_; rintro e w3 ⟨Ax2, cx2, rfl, ox2, hb3⟩
  go_wp2_with fail
  refine (SealedGroup_any _ _ _ _ _ _ ((FrR.rdR ox2)) ).mono ?_; rintro e w4 ⟨Ag0, cg0, rfl, rg0, hb4⟩
  go_wp2_with fail
  refine (eqBoolS_any _ _ _ _ _ _ _ _ _ (rg0.rd'.2) (Rd.below (rs0.rd'.2) (Ext.trans hb3 hb4))).mono ?_; rintro e w5 ⟨rfl, hb5⟩; rw [(eqBs_iff _ _).2 rfl]
  go_wp2_with fail
  refine (toIntSS_any _ _ _ _ _ (RdR.below (hg) (Ext.trans (Ext.trans (Ext.trans (Ext.trans hb1 hb2) hb3) hb4) hb5)) (by omega) (fun x hx => Nat.le_trans (tot_mem hx) (by omega))).mono ?_; rintro e w6 ⟨Ax3, cx3, rfl, ox3, hb6⟩
  go_wp2_with fail
  refine (eqIntSS_any _ _ _ _ _ _ _ _ _ (RdR.below ((FrR.rdR ox2)) (Ext.trans (Ext.trans hb4 hb5) hb6)) ((FrR.rdR ox3))).mono ?_; rintro e w7 ⟨rfl, hb7⟩; rw [(eqRs_iff _ _).2 rfl]
  have ln0 : (sealedR g i).length ≤ 1048576 := sealedR_len g i
  have fx2 := (FrR.below (FrR.below (FrR.below (FrR.below ox2 hb4) hb5) hb6) hb7)
  go_wp2_with fail
  refine (markIntSS_any _ _ _ _ _ _ _ _ fx2 (by omega) (by omega) (by omega)).mono ?_; rintro e w8 ⟨rfl, mx2, hT8⟩
  have qg0 := (Fr.pastT (Fr.below (Fr.below (Fr.below rg0 hb5) hb6) hb7) hT8 (fun k hk => Nat.lt_of_lt_of_le hk.2 (Nat.le_refl _)))
  go_wp2_with fail
  refine (eqBoolS_any _ _ _ _ _ _ _ _ _ (qg0.rd'.2) (Rd.below (rs0.rd'.2) (ext_tch (Ext.trans (Ext.trans (Ext.trans (Ext.trans hb3 hb4) hb5) hb6) hb7) hT8 (fun k hk => Nat.le_trans (Nat.le_refl _) hk.1)))).mono ?_; rintro e w9 ⟨rfl, hb9⟩; rw [(eqBs_iff _ _).2 rfl]
  have fg0 := (Fr.below qg0 hb9)
  go_wp2_with fail
  refine (markBoolS_any _ _ _ _ _ _ _ fg0 (rfl) (by omega) (by omega) (by omega)).mono ?_; rintro e w10 ⟨rfl, mg0, hg10⟩
  have hT10 := Tch.of_grown (S := fun b => w3.heap.size ≤ b ∧ b < w4.heap.size) hg10 (fun k hk => Fr.blkB (rg0) k hk)
  go_wp2_with fail
  refine (heldBoolS_any _ _ _ _ _ (mg0.rd'.2) (by omega) (by omega) (by omega)).mono ?_; rintro e w' ⟨rfl, rfl⟩
  go_wp2_with fail
  refine (toIntSS_any _ _ _ _ _ (RdR.below (hg) (ext_tch (Ext.trans (ext_tch (Ext.trans (Ext.trans (Ext.trans (Ext.trans (Ext.trans (Ext.trans hb1 hb2) hb3) hb4) hb5) hb6) hb7) hT8 (fun k hk => Nat.le_trans (Below.size (Ext.trans hb1 hb2)) hk.1)) hb9) hT10 (fun k hk => Nat.le_trans (Below.size (Ext.trans (Ext.trans hb1 hb2) hb3)) hk.1))) (by omega) (fun x hx => Nat.le_trans (tot_mem hx) (by omega))).mono ?_; rintro e w11 ⟨Ax4, cx4, rfl, ox4, hb11⟩
  go_wp2_with fail
  refine (SealedGroup_any _ _ _ _ _ _ ((FrR.rdR ox4)) ).mono ?_; rintro e w12 ⟨Ah0, ch0, rfl, rh0, hb12⟩
  go_wp2_with fail
  refine (eqBoolS_any _ _ _ _ _ _ _ _ _ (rh0.rd'.2) (Rd.below (rs0.rd'.2) (Ext.trans (Ext.trans (ext_tch (Ext.trans (ext_tch (Ext.trans (Ext.trans (Ext.trans (Ext.trans hb3 hb4) hb5) hb6) hb7) hT8 (fun k hk => Nat.le_trans (Nat.le_refl _) hk.1)) hb9) hT10 (fun k hk => Nat.le_trans (Below.size hb3) hk.1)) hb11) hb12))).mono ?_; rintro e w13 ⟨rfl, hb13⟩; rw [(eqBs_iff _ _).2 rfl]
  go_wp2_with fail
  refine (heldBoolS_any _ _ _ _ _ (Rd.below (mg0.rd'.2) (Ext.trans (Ext.trans hb11 hb12) hb13)) (by omega) (by omega) (by omega)).mono ?_; rintro e w' ⟨rfl, rfl⟩
  go_wp2
  go_ret
  exact ⟨rfl, (Ext.trans (Ext.trans (Ext.trans (ext_tch (Ext.trans (ext_tch (Ext.trans (Ext.trans (Ext.trans (Ext.trans (Ext.trans (Ext.trans hb1 hb2) hb3) hb4) hb5) hb6) hb7) hT8 (fun k hk => Nat.le_trans (Below.size (Ext.trans hb1 hb2)) hk.1)) hb9) hT10 (fun k hk => Nat.le_trans (Below.size (Ext.trans (Ext.trans hb1 hb2) hb3)) hk.1)) hb11) hb12) hb13)⟩
end Go.Proofs.Ytakdefcdhcghiaa
