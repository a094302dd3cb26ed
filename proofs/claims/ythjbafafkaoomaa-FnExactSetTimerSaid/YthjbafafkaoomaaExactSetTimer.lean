/-
  The law FnExactSetTimer returns true at every input, and leaves all that was there as it was: the walk.
-/
import Derived.Test.YthjbafafkaoomaaTmI
import Derived.Test.YthjbafafkaoomaaRows2
import Derived.Test.YthjbafafkaoomaaOpen
namespace Go.Proofs.Ythjbafafkaoomaa
open Go.RowKit
set_option linter.unusedVariables false

set_option maxHeartbeats 400000 in
theorem FnExactSetTimer_walk (As : Option Addr) (ns cs : Nat) (s : List (Int × Int)) (t : Int) (v : Int) (w : World) (hs : Rd w 2 As ns cs (c2 s)) (Fs : ∀ m ∈ s, Fits m.1 ∧ Fits m.2) (Ft : Fits t) (Fv : Fits v) :
    Calls Try.prog 11 #[.slice As ns cs, .int .i64 t, .int .i64 v] w fun e w' => e = .returned (.bool true) ∧ Ext w w' := by
  have hles := hs.le
  have htops := hs.top
  have HLs := Lib.hid hs.len2
  by_cases hns : ns ≤ 1048576
  rotate_left
  · have hs : szB (1048576) ns = -1 := by unfold szB; rw [if_pos (by omega)]
    go_enter Try.func11, Try.ntmps11
    go_wp2_with fail
    refine (szTimerS_any _ _ _ _ _ (by omega) (by omega) (by omega)).mono ?_; rintro e w' ⟨rfl, rfl⟩; rw [hs]
    go_wp2
    go_ret
    exact ⟨rfl, Below.refl _ _⟩
  have hss : szB (1048576) ns = 1048576 - ns := by unfold szB; rw [if_neg (by omega)]
  go_enter Try.func11, Try.ntmps11
  go_wp2_with fail
  refine (szTimerS_any _ _ _ _ _ (by omega) (by omega) (by omega)).mono ?_; rintro e w' ⟨rfl, rfl⟩; rw [hss]
  have hzs : ns ≤ 1048576 := by omega
  go_wp2_with fail
  refine (toTimerS_any _ _ _ _ _ (hs) (by omega)).mono ?_; rintro e w1 ⟨Ax1, cx1, rfl, ox1, hb1⟩
  go_wp2_with fail
  refine (specSetTimer_any _ _ _ _ _ _ _ ((Rd.of_row ox1)) ).mono ?_; rintro e w2 ⟨As0, cs0, rfl, rs0, hb2⟩
  go_wp2_with fail
  refine (toTimerS_any _ _ _ _ _ (Rd.below (hs) (Ext.trans hb1 hb2)) (by omega)).mono ?_; rintro e w3 ⟨Ax2, cx2, rfl, ox2, hb3⟩
  go_wp2_with fail
  refine (SetTimer_any _ _ _ _ _ _ _ ((Rd.of_row ox2)) ).mono ?_; rintro e w4 ⟨Ag0, cg0, rfl, rg0, hb4⟩
  go_wp2_with fail
  refine (eqTimerS_any _ _ _ _ _ _ _ _ _ (rg0.rd'.2) (Rd.below (rs0.rd'.2) (Ext.trans hb3 hb4))).mono ?_; rintro e w5 ⟨rfl, hb5⟩; rw [(eqTms_iff _ _).2 rfl]
  go_wp2_with fail
  refine (toTimerS_any _ _ _ _ _ (Rd.below (hs) (Ext.trans (Ext.trans (Ext.trans (Ext.trans hb1 hb2) hb3) hb4) hb5)) (by omega)).mono ?_; rintro e w6 ⟨Ax3, cx3, rfl, ox3, hb6⟩
  go_wp2_with fail
  refine (eqTimerS_any _ _ _ _ _ _ _ _ _ (Rd.below ((Rd.of_row ox2)) (Ext.trans (Ext.trans hb4 hb5) hb6)) ((Rd.of_row ox3))).mono ?_; rintro e w7 ⟨rfl, hb7⟩; rw [(eqTms_iff _ _).2 rfl]
  have ln0 : (setR t v s).length ≤ 1048576 := Nat.le_trans (setR_len16 t v s) (by omega)
  have fx2 := (Fr.below (Fr.below (Fr.below (Fr.below (Or.inr ox2) hb4) hb5) hb6) hb7)
  go_wp2_with fail
  refine (markTimerS_any _ _ _ _ _ _ _ fx2 (HLs.out) (by omega) (by omega) (by omega)).mono ?_; rintro e w8 ⟨rfl, mx2, hg8⟩
  have hT8 := Tch.of_grown (S := fun b => w2.heap.size ≤ b ∧ b < w3.heap.size) hg8 (fun k hk => Fr.blkB ((Or.inr ox2)) k hk)
  have qg0 := (Fr.pastT (Fr.below (Fr.below (Fr.below rg0 hb5) hb6) hb7) hT8 (fun k hk => Nat.lt_of_lt_of_le hk.2 (Nat.le_refl _)))
  go_wp2_with fail
  refine (eqTimerS_any _ _ _ _ _ _ _ _ _ (qg0.rd'.2) (Rd.below (rs0.rd'.2) (ext_tch (Ext.trans (Ext.trans (Ext.trans (Ext.trans hb3 hb4) hb5) hb6) hb7) hT8 (fun k hk => Nat.le_trans (Nat.le_refl _) hk.1)))).mono ?_; rintro e w9 ⟨rfl, hb9⟩; rw [(eqTms_iff _ _).2 rfl]
  have fg0 := (Fr.below qg0 hb9)
  go_wp2_with fail
  refine (markTimerS_any _ _ _ _ _ _ _ fg0 (rfl) (by omega) (by omega) (by omega)).mono ?_; rintro e w10 ⟨rfl, mg0, hg10⟩
  have hT10 := Tch.of_grown (S := fun b => w3.heap.size ≤ b ∧ b < w4.heap.size) hg10 (fun k hk => Fr.blkB (rg0) k hk)
  go_wp2_with fail
  refine (heldTimerS_any _ _ _ _ _ (mg0.rd'.2) (by omega) (by omega) (by omega)).mono ?_; rintro e w' ⟨rfl, rfl⟩
  go_wp2_with fail
  refine (toTimerS_any _ _ _ _ _ (Rd.below (hs) (ext_tch (Ext.trans (ext_tch (Ext.trans (Ext.trans (Ext.trans (Ext.trans (Ext.trans (Ext.trans hb1 hb2) hb3) hb4) hb5) hb6) hb7) hT8 (fun k hk => Nat.le_trans (Below.size (Ext.trans hb1 hb2)) hk.1)) hb9) hT10 (fun k hk => Nat.le_trans (Below.size (Ext.trans (Ext.trans hb1 hb2) hb3)) hk.1))) (by omega)).mono ?_; rintro e w11 ⟨Ax4, cx4, rfl, ox4, hb11⟩
  go_wp2_with fail
  refine (SetTimer_any _ _ _ _ _ _ _ ((Rd.of_row ox4)) ).mono ?_; rintro e w12 ⟨Ah0, ch0, rfl, rh0, hb12⟩
  go_wp2_with fail
  refine (eqTimerS_any _ _ _ _ _ _ _ _ _ (rh0.rd'.2) (Rd.below (rs0.rd'.2) (Ext.trans (Ext.trans (ext_tch (Ext.trans (ext_tch (Ext.trans (Ext.trans (Ext.trans (Ext.trans hb3 hb4) hb5) hb6) hb7) hT8 (fun k hk => Nat.le_trans (Nat.le_refl _) hk.1)) hb9) hT10 (fun k hk => Nat.le_trans (Below.size hb3) hk.1)) hb11) hb12))).mono ?_; rintro e w13 ⟨rfl, hb13⟩; rw [(eqTms_iff _ _).2 rfl]
  go_wp2_with fail
  refine (heldTimerS_any _ _ _ _ _ (Rd.below (mg0.rd'.2) (Ext.trans (Ext.trans hb11 hb12) hb13)) (by omega) (by omega) (by omega)).mono ?_; rintro e w' ⟨rfl, rfl⟩
  go_wp2
  go_ret
  exact ⟨rfl, (Ext.trans (Ext.trans (Ext.trans (ext_tch (Ext.trans (ext_tch (Ext.trans (Ext.trans (Ext.trans (Ext.trans (Ext.trans (Ext.trans hb1 hb2) hb3) hb4) hb5) hb6) hb7) hT8 (fun k hk => Nat.le_trans (Below.size (Ext.trans hb1 hb2)) hk.1)) hb9) hT10 (fun k hk => Nat.le_trans (Below.size (Ext.trans (Ext.trans hb1 hb2) hb3)) hk.1)) hb11) hb12) hb13)⟩
end Go.Proofs.Ythjbafafkaoomaa
