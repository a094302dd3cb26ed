/-
  The law FnExactLendAlong returns true at every input, and leaves all that was there as it was: the walk.
-/
import Derived.Test.YtbpkclhpjelelaaTiE
import Derived.Test.YtbpkclhpjelelaaRows2
import Derived.Test.YtbpkclhpjelelaaOpen
namespace Go.Proofs.Ytbpkclhpjelelaa
open Go.RowKit
set_option linter.unusedVariables false

set_option maxHeartbeats 400000 in
theorem FnExactLendAlong_walk (Al : Option Addr) (nl cl : Nat) (l : List Int) (As : Option Addr) (ns cs : Nat) (s : List Int) (w : World) (hl : Rd w 1 Al nl cl (cI l)) (Fl : ∀ z ∈ l, (Lit.int .i64 z).wf = true) (hs : Rd w 1 As ns cs (cI s)) (Fs : ∀ z ∈ s, (Lit.int .i64 z).wf = true) :
    Calls Try.prog 5 #[.slice Al nl cl, .slice As ns cs] w fun e w' => e = .returned (.bool true) ∧ Ext w w' := by
  have hlel := hl.le
  have htopl := hl.top
  have HLl := Lib.hid hl.lenI
  have hles := hs.le
  have htops := hs.top
  have HLs := Lib.hid hs.lenI
  by_cases hd : nl ≤ 1048576 ∧ ns ≤ 1048576
  rotate_left
  · have hx : 1048576 < nl ∨ 1048576 < ns := by omega
    go_enter Try.func5, Try.ntmps5
    go_wp2_with fail
    all_goals go_ret
    all_goals exact ⟨rfl, Below.refl _ _⟩
  obtain ⟨hnl, hns⟩ := hd
  go_enter Try.func5, Try.ntmps5
  have hzl : nl ≤ 1048576 := by omega
  have hzs : ns ≤ 1048576 := by omega
  go_wp2_with fail
  refine (toIntS_any _ _ _ _ _ (hl) (by omega)).mono ?_; rintro e w1 ⟨Ax1, cx1, rfl, ox1, hb1⟩
  go_wp2_with fail
  refine (toIntS_any _ _ _ _ _ (Rd.below (hs) hb1) (by omega)).mono ?_; rintro e w2 ⟨Ax2, cx2, rfl, ox2, hb2⟩
  go_wp2_with fail
  refine (specLendAlong_any _ _ _ _ _ _ _ _ _ (Rd.below ((Rd.of_row ox1)) hb2) ((Rd.of_row ox2)) ).mono ?_; rintro e w3 ⟨As0, cs0, rfl, rs0, hb3⟩
  go_wp2_with fail
  refine (toIntS_any _ _ _ _ _ (Rd.below (hl) (Ext.trans (Ext.trans hb1 hb2) hb3)) (by omega)).mono ?_; rintro e w4 ⟨Ax3, cx3, rfl, ox3, hb4⟩
  go_wp2_with fail
  refine (toIntS_any _ _ _ _ _ (Rd.below (hs) (Ext.trans (Ext.trans (Ext.trans hb1 hb2) hb3) hb4)) (by omega)).mono ?_; rintro e w5 ⟨Ax4, cx4, rfl, ox4, hb5⟩
  go_wp2_with fail
  refine (LendAlong_any _ _ _ _ _ _ _ _ _ (Rd.below ((Rd.of_row ox3)) hb5) ((Rd.of_row ox4)) ).mono ?_; rintro e w6 ⟨Ag0, cg0, rfl, rg0, hb6⟩
  go_wp2_with fail
  refine (eqIntS_any _ _ _ _ _ _ _ _ _ (rg0.rd'.2) (Rd.below (rs0.rd'.2) (Ext.trans (Ext.trans hb4 hb5) hb6))).mono ?_; rintro e w7 ⟨rfl, hb7⟩; rw [(eqIs_iff _ _).2 rfl]
  go_wp2_with fail
  refine (toIntS_any _ _ _ _ _ (Rd.below (hl) (Ext.trans (Ext.trans (Ext.trans (Ext.trans (Ext.trans (Ext.trans hb1 hb2) hb3) hb4) hb5) hb6) hb7)) (by omega)).mono ?_; rintro e w8 ⟨Ax5, cx5, rfl, ox5, hb8⟩
  go_wp2_with fail
  refine (eqIntS_any _ _ _ _ _ _ _ _ _ (Rd.below ((Rd.of_row ox3)) (Ext.trans (Ext.trans (Ext.trans hb5 hb6) hb7) hb8)) ((Rd.of_row ox5))).mono ?_; rintro e w9 ⟨rfl, hb9⟩; rw [(eqIs_iff _ _).2 rfl]
  go_wp2_with fail
  refine (toIntS_any _ _ _ _ _ (Rd.below (hs) (Ext.trans (Ext.trans (Ext.trans (Ext.trans (Ext.trans (Ext.trans (Ext.trans (Ext.trans hb1 hb2) hb3) hb4) hb5) hb6) hb7) hb8) hb9)) (by omega)).mono ?_; rintro e w10 ⟨Ax6, cx6, rfl, ox6, hb10⟩
  go_wp2_with fail
  refine (eqIntS_any _ _ _ _ _ _ _ _ _ (Rd.below ((Rd.of_row ox4)) (Ext.trans (Ext.trans (Ext.trans (Ext.trans hb6 hb7) hb8) hb9) hb10)) ((Rd.of_row ox6))).mono ?_; rintro e w11 ⟨rfl, hb11⟩; rw [(eqIs_iff _ _).2 rfl]
  have ln0 : (lendR l s).length ≤ 1048576 := lendR_len l s
  have fx3 := (Fr.below (Fr.below (Fr.below (Fr.below (Fr.below (Fr.below (Fr.below (Or.inr ox3) hb5) hb6) hb7) hb8) hb9) hb10) hb11)
  go_wp2_with fail
  refine (markIntS_any _ _ _ _ _ _ _ fx3 (HLl.out) (by omega) (by omega) (by omega)).mono ?_; rintro e w12 ⟨rfl, mx3, hg12⟩
  have hT12 := Tch.of_grown (S := fun b => w3.heap.size ≤ b ∧ b < w4.heap.size) hg12 (fun k hk => Fr.blkB ((Or.inr ox3)) k hk)
  have fx4 := (Fr.pastT (Fr.below (Fr.below (Fr.below (Fr.below (Fr.below (Fr.below (Or.inr ox4) hb6) hb7) hb8) hb9) hb10) hb11) hT12 (fun k hk => Nat.lt_of_lt_of_le hk.2 (Nat.le_refl _)))
  go_wp2_with fail
  refine (markIntS_any _ _ _ _ _ _ _ fx4 (HLs.out) (by omega) (by omega) (by omega)).mono ?_; rintro e w13 ⟨rfl, mx4, hg13⟩
  have hT13 := Tch.of_grown (S := fun b => w4.heap.size ≤ b ∧ b < w5.heap.size) hg13 (fun k hk => Fr.blkB ((Or.inr ox4)) k hk)
  have qg0 := (Fr.pastT (Fr.pastT (Fr.below (Fr.below (Fr.below (Fr.below (Fr.below rg0 hb7) hb8) hb9) hb10) hb11) hT12 (fun k hk => Nat.lt_of_lt_of_le hk.2 (Below.size hb5))) hT13 (fun k hk => Nat.lt_of_lt_of_le hk.2 (Nat.le_refl _)))
  go_wp2_with fail
  refine (eqIntS_any _ _ _ _ _ _ _ _ _ (qg0.rd'.2) (Rd.below (rs0.rd'.2) (ext_tch (ext_tch (Ext.trans (Ext.trans (Ext.trans (Ext.trans (Ext.trans (Ext.trans (Ext.trans hb4 hb5) hb6) hb7) hb8) hb9) hb10) hb11) hT12 (fun k hk => Nat.le_trans (Nat.le_refl _) hk.1)) hT13 (fun k hk => Nat.le_trans (Below.size hb4) hk.1)))).mono ?_; rintro e w14 ⟨rfl, hb14⟩; rw [(eqIs_iff _ _).2 rfl]
  have fg0 := (Fr.below qg0 hb14)
  go_wp2_with fail
  refine (markIntS_any _ _ _ _ _ _ _ fg0 (rfl) (by omega) (by omega) (by omega)).mono ?_; rintro e w15 ⟨rfl, mg0, hg15⟩
  have hT15 := Tch.of_grown (S := fun b => w5.heap.size ≤ b ∧ b < w6.heap.size) hg15 (fun k hk => Fr.blkB (rg0) k hk)
  go_wp2_with fail
  refine (heldIntS_any _ _ _ _ _ (mg0.rd'.2) (by omega) (by omega) (by omega)).mono ?_; rintro e w' ⟨rfl, rfl⟩
  go_wp2_with fail
  refine (toIntS_any _ _ _ _ _ (Rd.below (hl) (ext_tch (Ext.trans (ext_tch (ext_tch (Ext.trans (Ext.trans (Ext.trans (Ext.trans (Ext.trans (Ext.trans (Ext.trans (Ext.trans (Ext.trans (Ext.trans hb1 hb2) hb3) hb4) hb5) hb6) hb7) hb8) hb9) hb10) hb11) hT12 (fun k hk => Nat.le_trans (Below.size (Ext.trans (Ext.trans hb1 hb2) hb3)) hk.1)) hT13 (fun k hk => Nat.le_trans (Below.size (Ext.trans (Ext.trans (Ext.trans hb1 hb2) hb3) hb4)) hk.1)) hb14) hT15 (fun k hk => Nat.le_trans (Below.size (Ext.trans (Ext.trans (Ext.trans (Ext.trans hb1 hb2) hb3) hb4) hb5)) hk.1))) (by omega)).mono ?_; rintro e w16 ⟨Ax7, cx7, rfl, ox7, hb16⟩
  go_wp2_with fail
  refine (toIntS_any _ _ _ _ _ (Rd.below (hs) (Ext.trans (ext_tch (Ext.trans (ext_tch (ext_tch (Ext.trans (Ext.trans (Ext.trans (Ext.trans (Ext.trans (Ext.trans (Ext.trans (Ext.trans (Ext.trans (Ext.trans hb1 hb2) hb3) hb4) hb5) hb6) hb7) hb8) hb9) hb10) hb11) hT12 (fun k hk => Nat.le_trans (Below.size (Ext.trans (Ext.trans hb1 hb2) hb3)) hk.1)) hT13 (fun k hk => Nat.le_trans (Below.size (Ext.trans (Ext.trans (Ext.trans hb1 hb2) hb3) hb4)) hk.1)) hb14) hT15 (fun k hk => Nat.le_trans (Below.size (Ext.trans (Ext.trans (Ext.trans (Ext.trans hb1 hb2) hb3) hb4) hb5)) hk.1)) hb16)) (by omega)).mono ?_; rintro e w17 ⟨Ax8, cx8, rfl, ox8, hb17⟩
  go_wp2_with fail
  refine (LendAlong_any _ _ _ _ _ _ _ _ _ (Rd.below ((Rd.of_row ox7)) hb17) ((Rd.of_row ox8)) ).mono ?_; rintro e w18 ⟨Ah0, ch0, rfl, rh0, hb18⟩
  go_wp2_with fail
  refine (eqIntS_any _ _ _ _ _ _ _ _ _ (rh0.rd'.2) (Rd.below (rs0.rd'.2) (Ext.trans (Ext.trans (Ext.trans (ext_tch (Ext.trans (ext_tch (ext_tch (Ext.trans (Ext.trans (Ext.trans (Ext.trans (Ext.trans (Ext.trans (Ext.trans hb4 hb5) hb6) hb7) hb8) hb9) hb10) hb11) hT12 (fun k hk => Nat.le_trans (Nat.le_refl _) hk.1)) hT13 (fun k hk => Nat.le_trans (Below.size hb4) hk.1)) hb14) hT15 (fun k hk => Nat.le_trans (Below.size (Ext.trans hb4 hb5)) hk.1)) hb16) hb17) hb18))).mono ?_; rintro e w19 ⟨rfl, hb19⟩; rw [(eqIs_iff _ _).2 rfl]
  go_wp2_with fail
  refine (heldIntS_any _ _ _ _ _ (Rd.below (mg0.rd'.2) (Ext.trans (Ext.trans (Ext.trans hb16 hb17) hb18) hb19)) (by omega) (by omega) (by omega)).mono ?_; rintro e w' ⟨rfl, rfl⟩
  go_wp2
  go_ret
  exact ⟨rfl, (Ext.trans (Ext.trans (Ext.trans (Ext.trans (ext_tch (Ext.trans (ext_tch (ext_tch (Ext.trans (Ext.trans (Ext.trans (Ext.trans (Ext.trans (Ext.trans (Ext.trans (Ext.trans (Ext.trans (Ext.trans hb1 hb2) hb3) hb4) hb5) hb6) hb7) hb8) hb9) hb10) hb11) hT12 (fun k hk => Nat.le_trans (Below.size (Ext.trans (Ext.trans hb1 hb2) hb3)) hk.1)) hT13 (fun k hk => Nat.le_trans (Below.size (Ext.trans (Ext.trans (Ext.trans hb1 hb2) hb3) hb4)) hk.1)) hb14) hT15 (fun k hk => Nat.le_trans (Below.size (Ext.trans (Ext.trans (Ext.trans (Ext.trans hb1 hb2) hb3) hb4) hb5)) hk.1)) hb16) hb17) hb18) hb19)⟩
end Go.Proofs.Ytbpkclhpjelelaa
