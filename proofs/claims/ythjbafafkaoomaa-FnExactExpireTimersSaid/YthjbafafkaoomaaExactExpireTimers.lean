/-
  The law FnExactExpireTimers returns true at every input, and leaves all that was there as it was: the walk.
-/
import Derived.Test.YthjbafafkaoomaaTmD
import Derived.Test.YthjbafafkaoomaaRows2
import Derived.Test.YthjbafafkaoomaaOpen
namespace Go.Proofs.Ythjbafafkaoomaa
open Go.RowKit
set_option linter.unusedVariables false

set_option maxHeartbeats 400000 in
theorem FnExactExpireTimers_walk (As : Option Addr) (ns cs : Nat) (s : List (Int × Int)) (q : Int) (w : World) (hs : Rd w 2 As ns cs (c2 s)) (Fs : ∀ m ∈ s, Fits m.1 ∧ Fits m.2) (Fq : Fits q) :
    Calls Try.prog 7 #[.slice As ns cs, .int .i64 q] w fun e w' => e = .returned (.bool true) ∧ Ext w w' := by
  have hles := hs.le
  have htops := hs.top
  have HLs := Lib.hid hs.len2
  by_cases hns : ns ≤ 1048576
  rotate_left
  · have hs : szB (1048576) ns = -1 := by unfold szB; rw [if_pos (by omega)]
    go_enter Try.func7, Try.ntmps7
    go_wp2_with fail
    refine (szTimerS_any _ _ _ _ _ (by omega) (by omega) (by omega)).mono ?_; rintro e w' ⟨rfl, rfl⟩; rw [hs]
    go_wp2
    go_ret
    exact ⟨rfl, Below.refl _ _⟩
  have hss : szB (1048576) ns = 1048576 - ns := by unfold szB; rw [if_neg (by omega)]
  go_enter Try.func7, Try.ntmps7
  go_wp2_with fail
  refine (szTimerS_any _ _ _ _ _ (by omega) (by omega) (by omega)).mono ?_; rintro e w' ⟨rfl, rfl⟩; rw [hss]
  go_wp2_with fail
  refine (toTimerS_any _ _ _ _ _ (hs) (by omega)).mono ?_; rintro e w1 ⟨Ax1, cx1, rfl, ox1, hb1⟩
  go_wp2_with fail
  refine (specExpireTimers_any _ _ _ _ _ _ ((Rd.of_row ox1)) ).mono ?_; rintro e w2 ⟨As0, cs0, As1, cs1, rfl, rs0, rs1, hb2⟩
  go_wp2_with fail
  refine (toTimerS_any _ _ _ _ _ (Rd.below (hs) (Ext.trans hb1 hb2)) (by omega)).mono ?_; rintro e w3 ⟨Ax2, cx2, rfl, ox2, hb3⟩
  go_wp2_with fail
  refine (ExpireTimers_any _ _ _ _ _ _ ((Rd.of_row ox2)) ).mono ?_; rintro e w4 ⟨Ag0, cg0, Ag1, cg1, rfl, rg0, rg1, hb4⟩
  go_wp2_with fail
  refine (eqTimerS_any _ _ _ _ _ _ _ _ _ (rg0.rd'.2) (Rd.below (rs0.rd'.2) (Ext.trans hb3 hb4))).mono ?_; rintro e w5 ⟨rfl, hb5⟩; rw [(eqTms_iff _ _).2 rfl]
  go_wp2_with fail
  refine (eqIntS_any _ _ _ _ _ _ _ _ _ (Rd.below (rg1.rd'.2) hb5) (Rd.below (rs1.rd'.2) (Ext.trans (Ext.trans hb3 hb4) hb5))).mono ?_; rintro e w6 ⟨rfl, hb6⟩; rw [(eqIs_iff _ _).2 rfl]
  go_wp2_with fail
  refine (toTimerS_any _ _ _ _ _ (Rd.below (hs) (Ext.trans (Ext.trans (Ext.trans (Ext.trans (Ext.trans hb1 hb2) hb3) hb4) hb5) hb6)) (by omega)).mono ?_; rintro e w7 ⟨Ax3, cx3, rfl, ox3, hb7⟩
  go_wp2_with fail
  refine (eqTimerS_any _ _ _ _ _ _ _ _ _ (Rd.below ((Rd.of_row ox2)) (Ext.trans (Ext.trans (Ext.trans hb4 hb5) hb6) hb7)) ((Rd.of_row ox3))).mono ?_; rintro e w8 ⟨rfl, hb8⟩; rw [(eqTms_iff _ _).2 rfl]
  have ln0 : (restR q s).length ≤ 1048576 := Nat.le_trans (restR_len q s) (by omega)
  have ln1 : (wokenR q s).length ≤ 1048576 := Nat.le_trans (wokenR_len q s) (by omega)
  have fx2 := (Fr.below (Fr.below (Fr.below (Fr.below (Fr.below (Or.inr ox2) hb4) hb5) hb6) hb7) hb8)
  go_wp2_with fail
  refine (markTimerS_any _ _ _ _ _ _ _ fx2 (HLs.out) (by omega) (by omega) (by omega)).mono ?_; rintro e w9 ⟨rfl, mx2, hg9⟩
  have hT9 := Tch.of_grown (S := fun b => w2.heap.size ≤ b ∧ b < w3.heap.size) hg9 (fun k hk => Fr.blkB ((Or.inr ox2)) k hk)
  have qg0 := (Fr.pastT (Fr.below (Fr.below (Fr.below (Fr.below rg0 hb5) hb6) hb7) hb8) hT9 (fun k hk => Nat.lt_of_lt_of_le hk.2 (Nat.le_refl _)))
  have qg1 := (Fr.pastT (Fr.below (Fr.below (Fr.below (Fr.below rg1 hb5) hb6) hb7) hb8) hT9 (fun k hk => Nat.lt_of_lt_of_le hk.2 (Nat.le_refl _)))
  go_wp2_with fail
  refine (eqTimerS_any _ _ _ _ _ _ _ _ _ (qg0.rd'.2) (Rd.below (rs0.rd'.2) (ext_tch (Ext.trans (Ext.trans (Ext.trans (Ext.trans (Ext.trans hb3 hb4) hb5) hb6) hb7) hb8) hT9 (fun k hk => Nat.le_trans (Nat.le_refl _) hk.1)))).mono ?_; rintro e w10 ⟨rfl, hb10⟩; rw [(eqTms_iff _ _).2 rfl]
  go_wp2_with fail
  refine (eqIntS_any _ _ _ _ _ _ _ _ _ (Rd.below (qg1.rd'.2) hb10) (Rd.below (rs1.rd'.2) (Ext.trans (ext_tch (Ext.trans (Ext.trans (Ext.trans (Ext.trans (Ext.trans hb3 hb4) hb5) hb6) hb7) hb8) hT9 (fun k hk => Nat.le_trans (Nat.le_refl _) hk.1)) hb10))).mono ?_; rintro e w11 ⟨rfl, hb11⟩; rw [(eqIs_iff _ _).2 rfl]
  have fg0 := (Fr.below (Fr.below qg0 hb10) hb11)
  go_wp2_with fail
  refine (markTimerS_any _ _ _ _ _ _ _ fg0 (rfl) (by omega) (by omega) (by omega)).mono ?_; rintro e w12 ⟨rfl, mg0, hg12⟩
  have hT12 := Tch.of_grown (S := fun b => w3.heap.size ≤ b ∧ b < w4.heap.size) hg12 (fun k hk => Fr.blkB (rg0) k hk)
  have fg1 := (Fr.aside (Fr.below (Fr.below qg1 hb10) hb11) fg0 (by decide) hg12)
  go_wp2_with fail
  refine (markIntS_any _ _ _ _ _ _ _ fg1 (rfl) (by omega) (by omega) (by omega)).mono ?_; rintro e w13 ⟨rfl, mg1, hg13⟩
  have hT13 := Tch.of_grown (S := fun b => w3.heap.size ≤ b ∧ b < w4.heap.size) hg13 (fun k hk => Fr.blkB (rg1) k hk)
  have nmg0 := Fr.aside mg0 fg1 (by decide) hg13
  go_wp2_with fail
  refine (heldTimerS_any _ _ _ _ _ (nmg0.rd'.2) (by omega) (by omega) (by omega)).mono ?_; rintro e w' ⟨rfl, rfl⟩
  go_wp2_with fail
  refine (heldIntS_any _ _ _ _ _ (mg1.rd'.2) (by omega) (by omega) (by omega)).mono ?_; rintro e w' ⟨rfl, rfl⟩
  go_wp2_with fail
  refine (toTimerS_any _ _ _ _ _ (Rd.below (hs) (ext_tch (ext_tch (Ext.trans (Ext.trans (ext_tch (Ext.trans (Ext.trans (Ext.trans (Ext.trans (Ext.trans (Ext.trans (Ext.trans hb1 hb2) hb3) hb4) hb5) hb6) hb7) hb8) hT9 (fun k hk => Nat.le_trans (Below.size (Ext.trans hb1 hb2)) hk.1)) hb10) hb11) hT12 (fun k hk => Nat.le_trans (Below.size (Ext.trans (Ext.trans hb1 hb2) hb3)) hk.1)) hT13 (fun k hk => Nat.le_trans (Below.size (Ext.trans (Ext.trans hb1 hb2) hb3)) hk.1))) (by omega)).mono ?_; rintro e w14 ⟨Ax4, cx4, rfl, ox4, hb14⟩
  go_wp2_with fail
  refine (ExpireTimers_any _ _ _ _ _ _ ((Rd.of_row ox4)) ).mono ?_; rintro e w15 ⟨Ah0, ch0, Ah1, ch1, rfl, rh0, rh1, hb15⟩
  go_wp2_with fail
  refine (eqTimerS_any _ _ _ _ _ _ _ _ _ (rh0.rd'.2) (Rd.below (rs0.rd'.2) (Ext.trans (Ext.trans (ext_tch (ext_tch (Ext.trans (Ext.trans (ext_tch (Ext.trans (Ext.trans (Ext.trans (Ext.trans (Ext.trans hb3 hb4) hb5) hb6) hb7) hb8) hT9 (fun k hk => Nat.le_trans (Nat.le_refl _) hk.1)) hb10) hb11) hT12 (fun k hk => Nat.le_trans (Below.size hb3) hk.1)) hT13 (fun k hk => Nat.le_trans (Below.size hb3) hk.1)) hb14) hb15))).mono ?_; rintro e w16 ⟨rfl, hb16⟩; rw [(eqTms_iff _ _).2 rfl]
  go_wp2_with fail
  refine (eqIntS_any _ _ _ _ _ _ _ _ _ (Rd.below (rh1.rd'.2) hb16) (Rd.below (rs1.rd'.2) (Ext.trans (Ext.trans (Ext.trans (ext_tch (ext_tch (Ext.trans (Ext.trans (ext_tch (Ext.trans (Ext.trans (Ext.trans (Ext.trans (Ext.trans hb3 hb4) hb5) hb6) hb7) hb8) hT9 (fun k hk => Nat.le_trans (Nat.le_refl _) hk.1)) hb10) hb11) hT12 (fun k hk => Nat.le_trans (Below.size hb3) hk.1)) hT13 (fun k hk => Nat.le_trans (Below.size hb3) hk.1)) hb14) hb15) hb16))).mono ?_; rintro e w17 ⟨rfl, hb17⟩; rw [(eqIs_iff _ _).2 rfl]
  go_wp2_with fail
  refine (heldTimerS_any _ _ _ _ _ (Rd.below (nmg0.rd'.2) (Ext.trans (Ext.trans (Ext.trans hb14 hb15) hb16) hb17)) (by omega) (by omega) (by omega)).mono ?_; rintro e w' ⟨rfl, rfl⟩
  go_wp2_with fail
  refine (heldIntS_any _ _ _ _ _ (Rd.below (mg1.rd'.2) (Ext.trans (Ext.trans (Ext.trans hb14 hb15) hb16) hb17)) (by omega) (by omega) (by omega)).mono ?_; rintro e w' ⟨rfl, rfl⟩
  go_wp2
  go_ret
  exact ⟨rfl, (Ext.trans (Ext.trans (Ext.trans (Ext.trans (ext_tch (ext_tch (Ext.trans (Ext.trans (ext_tch (Ext.trans (Ext.trans (Ext.trans (Ext.trans (Ext.trans (Ext.trans (Ext.trans hb1 hb2) hb3) hb4) hb5) hb6) hb7) hb8) hT9 (fun k hk => Nat.le_trans (Below.size (Ext.trans hb1 hb2)) hk.1)) hb10) hb11) hT12 (fun k hk => Nat.le_trans (Below.size (Ext.trans (Ext.trans hb1 hb2) hb3)) hk.1)) hT13 (fun k hk => Nat.le_trans (Below.size (Ext.trans (Ext.trans hb1 hb2) hb3)) hk.1)) hb14) hb15) hb16) hb17)⟩
end Go.Proofs.Ythjbafafkaoomaa
