/-
  The law FnExactRunMoves returns true at every input, and leaves all that was there as it was: the walk.
-/
import Derived.Test.YtbljkahdhckegaaMvF
import Derived.Test.YtbljkahdhckegaaOpen
namespace Go.Proofs.Ytbljkahdhckegaa
open Go.RowKit
set_option linter.unusedVariables false

set_option maxHeartbeats 400000 in
theorem FnExactRunMoves_walk (Ag : Option Addr) (ng cg : Nat) (g : List (List Int)) (Al : Option Addr) (nl cl : Nat) (l : List (Int × Int × Int × Int × Int)) (w : World) (hg : RdR w Ag ng cg g) (Fg : ∀ r ∈ g, ∀ z ∈ r, Fits z) (hl : Rd w 5 Al nl cl (c5 l)) (Fl : ∀ m ∈ l, Fits m.1 ∧ Fits m.2.1 ∧ Fits m.2.2.1 ∧ Fits m.2.2.2.1 ∧ Fits m.2.2.2.2) :
    Calls Try.prog 8 #[.slice Ag ng cg, .slice Al nl cl] w fun e w' => e = .returned (.bool true) ∧ Ext w w' := by
  have hleg := hg.le
  have htopg := hg.top
  have HLg := Lib.hid hg.lenR
  have hlel := hl.le
  have htopl := hl.top
  have HLl := Lib.hid hl.len5
  by_cases hng : ng + tot g ≤ 1048576
  rotate_left
  · have hs : szR (1048576) g = -1 := by unfold szR; rw [if_pos (by rw [HLg.out]; omega)]
    go_enter Try.func8, Try.ntmps8
    go_wp2_with fail
    refine (szIntSS_any _ _ _ _ _ _ hg (by omega) (by omega)).mono ?_; rintro e w' ⟨rfl, rfl⟩; rw [hs]
    go_wp2
    go_ret
    exact ⟨rfl, Below.refl _ _⟩
  have hsg : szR (1048576) g = 1048576 - ng - tot g := by unfold szR; rw [HLg.out, if_neg (by omega)]
  by_cases hnl : ng + tot g + nl ≤ 1048576
  rotate_left
  · have hs : szB (1048576 - ng - tot g) nl = -1 := by unfold szB; rw [if_pos (by omega)]
    go_enter Try.func8, Try.ntmps8
    go_wp2_with fail
    refine (szIntSS_any _ _ _ _ _ _ hg (by omega) (by omega)).mono ?_; rintro e w' ⟨rfl, rfl⟩; rw [hsg]
    go_wp2_with fail
    refine (szMoveS_any _ _ _ _ _ (by omega) (by omega) (by omega)).mono ?_; rintro e w' ⟨rfl, rfl⟩; rw [hs]
    go_wp2
    go_ret
    exact ⟨rfl, Below.refl _ _⟩
  have hsl : szB (1048576 - ng - tot g) nl = 1048576 - ng - tot g - nl := by unfold szB; rw [if_neg (by omega)]
  go_enter Try.func8, Try.ntmps8
  go_wp2_with fail
  refine (szIntSS_any _ _ _ _ _ _ (hg) (by omega) (by omega)).mono ?_; rintro e w' ⟨rfl, rfl⟩; rw [hsg]
  go_wp2_with fail
  refine (szMoveS_any _ _ _ _ _ (by omega) (by omega) (by omega)).mono ?_; rintro e w' ⟨rfl, rfl⟩; rw [hsl]
  have hzg : ng ≤ 1048576 := by omega
  have htg : ∀ x ∈ g, x.length ≤ 1048576 := fun x hx => Nat.le_trans (tot_mem hx) (by omega)
  have hzl : nl ≤ 1048576 := by omega
  go_wp2_with fail
  refine (toIntSS_any _ _ _ _ _ (hg) (by omega) (fun x hx => Nat.le_trans (tot_mem hx) (by omega))).mono ?_; rintro e w1 ⟨Ax1, cx1, rfl, ox1, hb1⟩
  go_wp2_with fail
  refine (toMoveS_any _ _ _ _ _ (Rd.below (hl) hb1) (by omega)).mono ?_; rintro e w2 ⟨Ax2, cx2, rfl, ox2, hb2⟩
  go_wp2_with fail
  refine (specRunMoves_any _ _ _ _ _ _ _ _ _ (RdR.below ((FrR.rdR ox1)) hb2) ((Rd.of_row ox2)) ).mono ?_; rintro e w3 ⟨As0, cs0, rfl, rs0, hb3⟩
  go_wp2_with fail
  refine (toIntSS_any _ _ _ _ _ (RdR.below (hg) (Ext.trans (Ext.trans hb1 hb2) hb3)) (by omega) (fun x hx => Nat.le_trans (tot_mem hx) (by omega))).mono ?_; rintro e w4 ⟨Ax3, cx3, rfl, ox3, hb4⟩
  go_wp2_with fail
  refine (toMoveS_any _ _ _ _ _ (Rd.below (hl) (Ext.trans (Ext.trans (Ext.trans hb1 hb2) hb3) hb4)) (by omega)).mono ?_; rintro e w5 ⟨Ax4, cx4, rfl, ox4, hb5⟩
  go_wp2_with fail
  refine (RunMoves_any _ _ _ _ _ _ _ _ _ (RdR.below ((FrR.rdR ox3)) hb5) ((Rd.of_row ox4)) ).mono ?_; rintro e w6 ⟨Ag0, cg0, rfl, rg0, hb6⟩
  go_wp2_with fail
  refine (eqIntSS_any _ _ _ _ _ _ _ _ _ ((FrR.rdR rg0)) (RdR.below ((FrR.rdR rs0)) (Ext.trans (Ext.trans hb4 hb5) hb6))).mono ?_; rintro e w7 ⟨rfl, hb7⟩; rw [(eqRs_iff _ _).2 rfl]
  go_wp2_with fail
  refine (toIntSS_any _ _ _ _ _ (RdR.below (hg) (Ext.trans (Ext.trans (Ext.trans (Ext.trans (Ext.trans (Ext.trans hb1 hb2) hb3) hb4) hb5) hb6) hb7)) (by omega) (fun x hx => Nat.le_trans (tot_mem hx) (by omega))).mono ?_; rintro e w8 ⟨Ax5, cx5, rfl, ox5, hb8⟩
  go_wp2_with fail
  refine (eqIntSS_any _ _ _ _ _ _ _ _ _ (RdR.below ((FrR.rdR ox3)) (Ext.trans (Ext.trans (Ext.trans hb5 hb6) hb7) hb8)) ((FrR.rdR ox5))).mono ?_; rintro e w9 ⟨rfl, hb9⟩; rw [(eqRs_iff _ _).2 rfl]
  go_wp2_with fail
  refine (toMoveS_any _ _ _ _ _ (Rd.below (hl) (Ext.trans (Ext.trans (Ext.trans (Ext.trans (Ext.trans (Ext.trans (Ext.trans (Ext.trans hb1 hb2) hb3) hb4) hb5) hb6) hb7) hb8) hb9)) (by omega)).mono ?_; rintro e w10 ⟨Ax6, cx6, rfl, ox6, hb10⟩
  go_wp2_with fail
  refine (eqMoveS_any _ _ _ _ _ _ _ _ _ (Rd.below ((Rd.of_row ox4)) (Ext.trans (Ext.trans (Ext.trans (Ext.trans hb6 hb7) hb8) hb9) hb10)) ((Rd.of_row ox6))).mono ?_; rintro e w11 ⟨rfl, hb11⟩; rw [(eqMvs_iff _ _).2 rfl]
  have ln0 : (runR g l).length + tot (runR g l) ≤ 1048576 := runR_size g l
  have fx3 := (FrR.below (FrR.below (FrR.below (FrR.below (FrR.below (FrR.below (FrR.below ox3 hb5) hb6) hb7) hb8) hb9) hb10) hb11)
  go_wp2_with fail
  refine (markIntSS_any _ _ _ _ _ _ _ _ fx3 (by omega) (by omega) (by omega)).mono ?_; rintro e w12 ⟨rfl, mx3, hT12⟩
  have fx4 := (Fr.pastT (Fr.below (Fr.below (Fr.below (Fr.below (Fr.below (Fr.below (Or.inr ox4) hb6) hb7) hb8) hb9) hb10) hb11) hT12 (fun k hk => Nat.lt_of_lt_of_le hk.2 (Nat.le_refl _)))
  go_wp2_with fail
  refine (markMoveS_any _ _ _ _ _ _ _ fx4 (HLl.out) (by omega) (by omega) (by omega)).mono ?_; rintro e w13 ⟨rfl, mx4, hg13⟩
  have hT13 := Tch.of_grown (S := fun b => w4.heap.size ≤ b ∧ b < w5.heap.size) hg13 (fun k hk => Fr.blkB ((Or.inr ox4)) k hk)
  have qg0 := (FrR.pastT (FrR.pastT (FrR.below (FrR.below (FrR.below (FrR.below (FrR.below rg0 hb7) hb8) hb9) hb10) hb11) hT12 (fun k hk => Nat.lt_of_lt_of_le hk.2 (Below.size hb5))) hT13 (fun k hk => Nat.lt_of_lt_of_le hk.2 (Nat.le_refl _)))
  go_wp2_with fail
  refine (eqIntSS_any _ _ _ _ _ _ _ _ _ ((FrR.rdR qg0)) (RdR.below ((FrR.rdR rs0)) (ext_tch (ext_tch (Ext.trans (Ext.trans (Ext.trans (Ext.trans (Ext.trans (Ext.trans (Ext.trans hb4 hb5) hb6) hb7) hb8) hb9) hb10) hb11) hT12 (fun k hk => Nat.le_trans (Nat.le_refl _) hk.1)) hT13 (fun k hk => Nat.le_trans (Below.size hb4) hk.1)))).mono ?_; rintro e w14 ⟨rfl, hb14⟩; rw [(eqRs_iff _ _).2 rfl]
  have fg0 := (FrR.below qg0 hb14)
  go_wp2_with fail
  refine (markIntSS_any _ _ _ _ _ _ _ _ fg0 (by omega) (by omega) (by omega)).mono ?_; rintro e w15 ⟨rfl, mg0, hT15⟩
  go_wp2_with fail
  refine (heldIntSS_any _ _ _ _ _ _ ((FrR.rdR mg0)) (by omega) (by omega) (by omega)).mono ?_; rintro e w' ⟨rfl, rfl⟩
  go_wp2_with fail
  refine (toIntSS_any _ _ _ _ _ (RdR.below (hg) (ext_tch (Ext.trans (ext_tch (ext_tch (Ext.trans (Ext.trans (Ext.trans (Ext.trans (Ext.trans (Ext.trans (Ext.trans (Ext.trans (Ext.trans (Ext.trans hb1 hb2) hb3) hb4) hb5) hb6) hb7) hb8) hb9) hb10) hb11) hT12 (fun k hk => Nat.le_trans (Below.size (Ext.trans (Ext.trans hb1 hb2) hb3)) hk.1)) hT13 (fun k hk => Nat.le_trans (Below.size (Ext.trans (Ext.trans (Ext.trans hb1 hb2) hb3) hb4)) hk.1)) hb14) hT15 (fun k hk => Nat.le_trans (Below.size (Ext.trans (Ext.trans (Ext.trans (Ext.trans hb1 hb2) hb3) hb4) hb5)) hk.1))) (by omega) (fun x hx => Nat.le_trans (tot_mem hx) (by omega))).mono ?_; rintro e w16 ⟨Ax7, cx7, rfl, ox7, hb16⟩
  go_wp2_with fail
  refine (toMoveS_any _ _ _ _ _ (Rd.below (hl) (Ext.trans (ext_tch (Ext.trans (ext_tch (ext_tch (Ext.trans (Ext.trans (Ext.trans (Ext.trans (Ext.trans (Ext.trans (Ext.trans (Ext.trans (Ext.trans (Ext.trans hb1 hb2) hb3) hb4) hb5) hb6) hb7) hb8) hb9) hb10) hb11) hT12 (fun k hk => Nat.le_trans (Below.size (Ext.trans (Ext.trans hb1 hb2) hb3)) hk.1)) hT13 (fun k hk => Nat.le_trans (Below.size (Ext.trans (Ext.trans (Ext.trans hb1 hb2) hb3) hb4)) hk.1)) hb14) hT15 (fun k hk => Nat.le_trans (Below.size (Ext.trans (Ext.trans (Ext.trans (Ext.trans hb1 hb2) hb3) hb4) hb5)) hk.1)) hb16)) (by omega)).mono ?_; rintro e w17 ⟨Ax8, cx8, rfl, ox8, hb17⟩
  go_wp2_with fail
  refine (RunMoves_any _ _ _ _ _ _ _ _ _ (RdR.below ((FrR.rdR ox7)) hb17) ((Rd.of_row ox8)) ).mono ?_; rintro e w18 ⟨Ah0, ch0, rfl, rh0, hb18⟩
  go_wp2_with fail
  refine (eqIntSS_any _ _ _ _ _ _ _ _ _ ((FrR.rdR rh0)) (RdR.below ((FrR.rdR rs0)) (Ext.trans (Ext.trans (Ext.trans (ext_tch (Ext.trans (ext_tch (ext_tch (Ext.trans (Ext.trans (Ext.trans (Ext.trans (Ext.trans (Ext.trans (Ext.trans hb4 hb5) hb6) hb7) hb8) hb9) hb10) hb11) hT12 (fun k hk => Nat.le_trans (Nat.le_refl _) hk.1)) hT13 (fun k hk => Nat.le_trans (Below.size hb4) hk.1)) hb14) hT15 (fun k hk => Nat.le_trans (Below.size (Ext.trans hb4 hb5)) hk.1)) hb16) hb17) hb18))).mono ?_; rintro e w19 ⟨rfl, hb19⟩; rw [(eqRs_iff _ _).2 rfl]
  go_wp2_with fail
  refine (heldIntSS_any _ _ _ _ _ _ (RdR.below ((FrR.rdR mg0)) (Ext.trans (Ext.trans (Ext.trans hb16 hb17) hb18) hb19)) (by omega) (by omega) (by omega)).mono ?_; rintro e w' ⟨rfl, rfl⟩
  go_wp2
  go_ret
  exact ⟨rfl, (Ext.trans (Ext.trans (Ext.trans (Ext.trans (ext_tch (Ext.trans (ext_tch (ext_tch (Ext.trans (Ext.trans (Ext.trans (Ext.trans (Ext.trans (Ext.trans (Ext.trans (Ext.trans (Ext.trans (Ext.trans hb1 hb2) hb3) hb4) hb5) hb6) hb7) hb8) hb9) hb10) hb11) hT12 (fun k hk => Nat.le_trans (Below.size (Ext.trans (Ext.trans hb1 hb2) hb3)) hk.1)) hT13 (fun k hk => Nat.le_trans (Below.size (Ext.trans (Ext.trans (Ext.trans hb1 hb2) hb3) hb4)) hk.1)) hb14) hT15 (fun k hk => Nat.le_trans (Below.size (Ext.trans (Ext.trans (Ext.trans (Ext.trans hb1 hb2) hb3) hb4) hb5)) hk.1)) hb16) hb17) hb18) hb19)⟩
end Go.Proofs.Ytbljkahdhckegaa
