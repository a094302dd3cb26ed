/-
  The law FnExactUnmapPage returns true at every input, and leaves all that was there as it was: the walk.
-/
import Derived.Test.YtcdmpnkcfopmbaaMpE
import Derived.Test.YtcdmpnkcfopmbaaMpF
import Derived.Test.YtcdmpnkcfopmbaaMpD
import Derived.Test.YtcdmpnkcfopmbaaOpen
namespace Go.Proofs.Ytcdmpnkcfopmbaa
open Go.RowKit
set_option linter.unusedVariables false

set_option maxHeartbeats 400000 in
theorem FnExactUnmapPage_walk (As : Option Addr) (ns cs : Nat) (s : List Mp) (p : Int) (w : World) (hs : Rd w 3 As ns cs (c3 s)) (Fs : ∀ m ∈ s, Fits m.1 ∧ Fits m.2.1 ∧ Fits m.2.2) (Fp : Fits p) :
    Calls Try.prog 6 #[.slice As ns cs, .int .i64 p] w fun e w' => e = .returned (.bool true) ∧ Ext w w' := by
  have hles := hs.le
  have htops := hs.top
  have HLs := Lib.hid hs.len3
  by_cases hn : ns ≤ 1048576
  · have hns := hn
    have hss : szB 1048576 ns = 1048576 - ns := by unfold szB; rw [if_neg (by omega)]
    go_enter Try.func6, Try.ntmps6
    go_wp2_with fail
    refine (szMappingS_any _ _ _ _ _ (by omega) (by omega) (by omega)).mono ?_; rintro e w' ⟨rfl, rfl⟩; rw [hss]
    go_wp2_with fail
    refine (toMappingS_any _ _ _ _ _ (hs) hns).mono ?_; rintro e w1 ⟨Ax1, cx1, rfl, ox1, hb1⟩
    go_wp2_with fail
    refine (specUnmapPage_any _ _ _ _ _ _ ((Rd.of_row ox1)) ).mono ?_; rintro e w2 ⟨As0, cs0, rfl, rs0, hb2⟩
    go_wp2_with fail
    refine (toMappingS_any _ _ _ _ _ (Rd.below (hs) (Ext.trans hb1 hb2)) hns).mono ?_; rintro e w3 ⟨Ax2, cx2, rfl, ox2, hb3⟩
    go_wp2_with fail
    refine (UnmapPage_any _ _ _ _ _ _ ((Rd.of_row ox2)) ).mono ?_; rintro e w4 ⟨Ag0, cg0, rfl, rg0, hb4⟩
    go_wp2_with fail
    refine (eqMappingS_any _ _ _ _ _ _ _ _ _ (rg0.rd'.2) (Rd.below (rs0.rd'.2) (Ext.trans hb3 hb4))).mono ?_; rintro e w5 ⟨rfl, hb5⟩; rw [(eqMs_iff _ _).2 rfl]
    go_wp2_with fail
    refine (toMappingS_any _ _ _ _ _ (Rd.below (hs) (Ext.trans (Ext.trans (Ext.trans (Ext.trans hb1 hb2) hb3) hb4) hb5)) hns).mono ?_; rintro e w6 ⟨Ax3, cx3, rfl, ox3, hb6⟩
    go_wp2_with fail
    refine (eqMappingS_any _ _ _ _ _ _ _ _ _ (Rd.below ((Rd.of_row ox2)) (Ext.trans (Ext.trans hb4 hb5) hb6)) ((Rd.of_row ox3))).mono ?_; rintro e w7 ⟨rfl, hb7⟩; rw [(eqMs_iff _ _).2 rfl]
    have ln0 : (unmapR p s).length ≤ 1048576 := Nat.le_trans (unmapR_len p s) (by omega)
    have fx2 := (Fr.below (Fr.below (Fr.below (Fr.below (Or.inr ox2) hb4) hb5) hb6) hb7)
    go_wp2_with fail
    refine (markMappingS_any _ _ _ _ _ _ _ fx2 (HLs.out) (by omega) (by omega) (by omega)).mono ?_; rintro e w8 ⟨rfl, mx2, hg8⟩
    have qg0 := (Fr.past (Fr.below (Fr.below (Fr.below rg0 hb5) hb6) hb7) hg8 (fun k hk => Nat.lt_of_lt_of_le (Fr.blkB ((Or.inr ox2)) k hk).2 (Nat.le_refl _)))
    go_wp2_with fail
    refine (eqMappingS_any _ _ _ _ _ _ _ _ _ (qg0.rd'.2) (Rd.below (rs0.rd'.2) (ext_grown (Ext.trans (Ext.trans (Ext.trans (Ext.trans hb3 hb4) hb5) hb6) hb7) hg8 (fun k hk => Nat.le_trans (Nat.le_refl _) (fx2.blkB k hk).1)))).mono ?_; rintro e w9 ⟨rfl, hb9⟩; rw [(eqMs_iff _ _).2 rfl]
    have fg0 := (Fr.below qg0 hb9)
    go_wp2_with fail
    refine (markMappingS_any _ _ _ _ _ _ _ fg0 rfl (by omega) (by omega) (by omega)).mono ?_; rintro e w10 ⟨rfl, mg0, hg10⟩
    go_wp2_with fail
    refine (heldMappingS_any _ _ _ _ _ (mg0.rd'.2) (by omega) (by omega) (by omega)).mono ?_; rintro e w' ⟨rfl, rfl⟩
    go_wp2_with fail
    refine (toMappingS_any _ _ _ _ _ (Rd.below (hs) (ext_grown (Ext.trans (ext_grown (Ext.trans (Ext.trans (Ext.trans (Ext.trans (Ext.trans (Ext.trans hb1 hb2) hb3) hb4) hb5) hb6) hb7) hg8 (fun k hk => Nat.le_trans (Below.size (Ext.trans hb1 hb2)) (fx2.blkB k hk).1)) hb9) hg10 (fun k hk => Nat.le_trans (Below.size (Ext.trans (Ext.trans hb1 hb2) hb3)) (fg0.blkB k hk).1))) hns).mono ?_; rintro e w11 ⟨Ax4, cx4, rfl, ox4, hb11⟩
    go_wp2_with fail
    refine (UnmapPage_any _ _ _ _ _ _ ((Rd.of_row ox4)) ).mono ?_; rintro e w12 ⟨Ah0, ch0, rfl, rh0, hb12⟩
    go_wp2_with fail
    refine (eqMappingS_any _ _ _ _ _ _ _ _ _ (rh0.rd'.2) (Rd.below (rs0.rd'.2) (Ext.trans (Ext.trans (ext_grown (Ext.trans (ext_grown (Ext.trans (Ext.trans (Ext.trans (Ext.trans hb3 hb4) hb5) hb6) hb7) hg8 (fun k hk => Nat.le_trans (Nat.le_refl _) (fx2.blkB k hk).1)) hb9) hg10 (fun k hk => Nat.le_trans (Below.size hb3) (fg0.blkB k hk).1)) hb11) hb12))).mono ?_; rintro e w13 ⟨rfl, hb13⟩; rw [(eqMs_iff _ _).2 rfl]
    go_wp2_with fail
    refine (heldMappingS_any _ _ _ _ _ (Rd.below (mg0.rd'.2) (Ext.trans (Ext.trans hb11 hb12) hb13)) (by omega) (by omega) (by omega)).mono ?_; rintro e w' ⟨rfl, rfl⟩
    go_wp2
    go_ret
    exact ⟨rfl, (Ext.trans (Ext.trans (Ext.trans (ext_grown (Ext.trans (ext_grown (Ext.trans (Ext.trans (Ext.trans (Ext.trans (Ext.trans (Ext.trans hb1 hb2) hb3) hb4) hb5) hb6) hb7) hg8 (fun k hk => Nat.le_trans (Below.size (Ext.trans hb1 hb2)) (fx2.blkB k hk).1)) hb9) hg10 (fun k hk => Nat.le_trans (Below.size (Ext.trans (Ext.trans hb1 hb2) hb3)) (fg0.blkB k hk).1)) hb11) hb12) hb13)⟩
  · have hs : szB 1048576 ns = -1 := by unfold szB; rw [if_pos (by omega)]
    go_enter Try.func6, Try.ntmps6
    go_wp2_with (go_at_call 14; refine (szMappingS_any _ _ _ _ _ (by omega) (by omega) (by omega)).mono ?_; rintro e w' ⟨rfl, rfl⟩; rw [hs])
    go_ret
    exact ⟨rfl, Below.refl _ _⟩
end Go.Proofs.Ytcdmpnkcfopmbaa
