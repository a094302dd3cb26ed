/-
  The law FnExactUnmapFrame returns true at every input, and leaves all that was there as it was: the walk.
-/
import Derived.Test.YtcdmpnkcfopmbaaMpG
import Derived.Test.YtcdmpnkcfopmbaaMpD
import Derived.Test.YtcdmpnkcfopmbaaInts
import Derived.Test.YtcdmpnkcfopmbaaOpen
namespace Go.Proofs.Ytcdmpnkcfopmbaa
open Go.RowKit
set_option linter.unusedVariables false

set_option maxHeartbeats 400000 in
theorem FnExactUnmapFrame_walk (As : Option Addr) (ns cs : Nat) (s : List Mp) (f : Int) (w : World) (hs : Rd w 3 As ns cs (c3 s)) (Fs : ∀ m ∈ s, Fits m.1 ∧ Fits m.2.1 ∧ Fits m.2.2) (Ff : Fits f) :
    Calls Try.prog 7 #[.slice As ns cs, .int .i64 f] w fun e w' => e = .returned (.bool true) ∧ Ext w w' := by
  have hles := hs.le
  have htops := hs.top
  have HLs := Lib.hid hs.len3
  by_cases hn : ns ≤ 1048576
  · have hns := hn
    have hss : szB 1048576 ns = 1048576 - ns := by unfold szB; rw [if_neg (by omega)]
    go_enter Try.func7, Try.ntmps7
    go_wp2_with fail
    refine (szMappingS_any _ _ _ _ _ (by omega) (by omega) (by omega)).mono ?_; rintro e w' ⟨rfl, rfl⟩; rw [hss]
    go_wp2_with fail
    refine (toMappingS_any _ _ _ _ _ (hs) hns).mono ?_; rintro e w1 ⟨Ax1, cx1, rfl, ox1, hb1⟩
    go_wp2_with fail
    refine (specUnmapFrame_any _ _ _ _ _ _ ((Rd.of_row ox1)) ).mono ?_; rintro e w2 ⟨As0, cs0, As1, cs1, rfl, rs0, rs1, hb2⟩
    go_wp2_with fail
    refine (toMappingS_any _ _ _ _ _ (Rd.below (hs) (Ext.trans hb1 hb2)) hns).mono ?_; rintro e w3 ⟨Ax2, cx2, rfl, ox2, hb3⟩
    go_wp2_with fail
    refine (UnmapFrame_any _ _ _ _ _ _ ((Rd.of_row ox2)) ).mono ?_; rintro e w4 ⟨Ag0, cg0, Ag1, cg1, rfl, rg0, rg1, hb4⟩
    go_wp2_with fail
    refine (eqMappingS_any _ _ _ _ _ _ _ _ _ (rg0.rd'.2) (Rd.below (rs0.rd'.2) (Ext.trans hb3 hb4))).mono ?_; rintro e w5 ⟨rfl, hb5⟩; rw [(eqMs_iff _ _).2 rfl]
    go_wp2_with fail
    refine (eqIntS_any _ _ _ _ _ _ _ _ _ (Rd.below (rg1.rd'.2) hb5) (Rd.below (rs1.rd'.2) (Ext.trans (Ext.trans hb3 hb4) hb5))).mono ?_; rintro e w6 ⟨rfl, hb6⟩; rw [(eqIs_iff _ _).2 rfl]
    go_wp2_with fail
    refine (toMappingS_any _ _ _ _ _ (Rd.below (hs) (Ext.trans (Ext.trans (Ext.trans (Ext.trans (Ext.trans hb1 hb2) hb3) hb4) hb5) hb6)) hns).mono ?_; rintro e w7 ⟨Ax3, cx3, rfl, ox3, hb7⟩
    go_wp2_with fail
    refine (eqMappingS_any _ _ _ _ _ _ _ _ _ (Rd.below ((Rd.of_row ox2)) (Ext.trans (Ext.trans (Ext.trans hb4 hb5) hb6) hb7)) ((Rd.of_row ox3))).mono ?_; rintro e w8 ⟨rfl, hb8⟩; rw [(eqMs_iff _ _).2 rfl]
    have ln0 : (keptF f s).length ≤ 1048576 := Nat.le_trans (keptF_len f s) (by omega)
    have ln1 : (goneF f s).length ≤ 1048576 := Nat.le_trans (goneF_len f s) (by omega)
    have fx2 := (Fr.below (Fr.below (Fr.below (Fr.below (Fr.below (Or.inr ox2) hb4) hb5) hb6) hb7) hb8)
    go_wp2_with fail
    refine (markMappingS_any _ _ _ _ _ _ _ fx2 (HLs.out) (by omega) (by omega) (by omega)).mono ?_; rintro e w9 ⟨rfl, mx2, hg9⟩
    have qg0 := (Fr.past (Fr.below (Fr.below (Fr.below (Fr.below rg0 hb5) hb6) hb7) hb8) hg9 (fun k hk => Nat.lt_of_lt_of_le (Fr.blkB ((Or.inr ox2)) k hk).2 (Nat.le_refl _)))
    have qg1 := (Fr.past (Fr.below (Fr.below (Fr.below (Fr.below rg1 hb5) hb6) hb7) hb8) hg9 (fun k hk => Nat.lt_of_lt_of_le (Fr.blkB ((Or.inr ox2)) k hk).2 (Nat.le_refl _)))
    go_wp2_with fail
    refine (eqMappingS_any _ _ _ _ _ _ _ _ _ (qg0.rd'.2) (Rd.below (rs0.rd'.2) (ext_grown (Ext.trans (Ext.trans (Ext.trans (Ext.trans (Ext.trans hb3 hb4) hb5) hb6) hb7) hb8) hg9 (fun k hk => Nat.le_trans (Nat.le_refl _) (fx2.blkB k hk).1)))).mono ?_; rintro e w10 ⟨rfl, hb10⟩; rw [(eqMs_iff _ _).2 rfl]
    go_wp2_with fail
    refine (eqIntS_any _ _ _ _ _ _ _ _ _ (Rd.below (qg1.rd'.2) hb10) (Rd.below (rs1.rd'.2) (Ext.trans (ext_grown (Ext.trans (Ext.trans (Ext.trans (Ext.trans (Ext.trans hb3 hb4) hb5) hb6) hb7) hb8) hg9 (fun k hk => Nat.le_trans (Nat.le_refl _) (fx2.blkB k hk).1)) hb10))).mono ?_; rintro e w11 ⟨rfl, hb11⟩; rw [(eqIs_iff _ _).2 rfl]
    have fg0 := (Fr.below (Fr.below qg0 hb10) hb11)
    go_wp2_with fail
    refine (markMappingS_any _ _ _ _ _ _ _ fg0 rfl (by omega) (by omega) (by omega)).mono ?_; rintro e w12 ⟨rfl, mg0, hg12⟩
    have fg1 := (Fr.aside (Fr.below (Fr.below qg1 hb10) hb11) fg0 (by decide) hg12)
    go_wp2_with fail
    refine (markIntS_any _ _ _ _ _ _ _ fg1 rfl (by omega) (by omega) (by omega)).mono ?_; rintro e w13 ⟨rfl, mg1, hg13⟩
    have nmg0 := Fr.aside mg0 fg1 (by decide) hg13
    go_wp2_with fail
    refine (heldMappingS_any _ _ _ _ _ (nmg0.rd'.2) (by omega) (by omega) (by omega)).mono ?_; rintro e w' ⟨rfl, rfl⟩
    go_wp2_with fail
    refine (heldIntS_any _ _ _ _ _ (mg1.rd'.2) (by omega) (by omega) (by omega)).mono ?_; rintro e w' ⟨rfl, rfl⟩
    go_wp2_with fail
    refine (toMappingS_any _ _ _ _ _ (Rd.below (hs) (ext_grown (ext_grown (Ext.trans (Ext.trans (ext_grown (Ext.trans (Ext.trans (Ext.trans (Ext.trans (Ext.trans (Ext.trans (Ext.trans hb1 hb2) hb3) hb4) hb5) hb6) hb7) hb8) hg9 (fun k hk => Nat.le_trans (Below.size (Ext.trans hb1 hb2)) (fx2.blkB k hk).1)) hb10) hb11) hg12 (fun k hk => Nat.le_trans (Below.size (Ext.trans (Ext.trans hb1 hb2) hb3)) (fg0.blkB k hk).1)) hg13 (fun k hk => Nat.le_trans (Below.size (Ext.trans (Ext.trans hb1 hb2) hb3)) (fg1.blkB k hk).1))) hns).mono ?_; rintro e w14 ⟨Ax4, cx4, rfl, ox4, hb14⟩
    go_wp2_with fail
    refine (UnmapFrame_any _ _ _ _ _ _ ((Rd.of_row ox4)) ).mono ?_; rintro e w15 ⟨Ah0, ch0, Ah1, ch1, rfl, rh0, rh1, hb15⟩
    go_wp2_with fail
    refine (eqMappingS_any _ _ _ _ _ _ _ _ _ (rh0.rd'.2) (Rd.below (rs0.rd'.2) (Ext.trans (Ext.trans (ext_grown (ext_grown (Ext.trans (Ext.trans (ext_grown (Ext.trans (Ext.trans (Ext.trans (Ext.trans (Ext.trans hb3 hb4) hb5) hb6) hb7) hb8) hg9 (fun k hk => Nat.le_trans (Nat.le_refl _) (fx2.blkB k hk).1)) hb10) hb11) hg12 (fun k hk => Nat.le_trans (Below.size hb3) (fg0.blkB k hk).1)) hg13 (fun k hk => Nat.le_trans (Below.size hb3) (fg1.blkB k hk).1)) hb14) hb15))).mono ?_; rintro e w16 ⟨rfl, hb16⟩; rw [(eqMs_iff _ _).2 rfl]
    go_wp2_with fail
    refine (eqIntS_any _ _ _ _ _ _ _ _ _ (Rd.below (rh1.rd'.2) hb16) (Rd.below (rs1.rd'.2) (Ext.trans (Ext.trans (Ext.trans (ext_grown (ext_grown (Ext.trans (Ext.trans (ext_grown (Ext.trans (Ext.trans (Ext.trans (Ext.trans (Ext.trans hb3 hb4) hb5) hb6) hb7) hb8) hg9 (fun k hk => Nat.le_trans (Nat.le_refl _) (fx2.blkB k hk).1)) hb10) hb11) hg12 (fun k hk => Nat.le_trans (Below.size hb3) (fg0.blkB k hk).1)) hg13 (fun k hk => Nat.le_trans (Below.size hb3) (fg1.blkB k hk).1)) hb14) hb15) hb16))).mono ?_; rintro e w17 ⟨rfl, hb17⟩; rw [(eqIs_iff _ _).2 rfl]
    go_wp2_with fail
    refine (heldMappingS_any _ _ _ _ _ (Rd.below (nmg0.rd'.2) (Ext.trans (Ext.trans (Ext.trans hb14 hb15) hb16) hb17)) (by omega) (by omega) (by omega)).mono ?_; rintro e w' ⟨rfl, rfl⟩
    go_wp2_with fail
    refine (heldIntS_any _ _ _ _ _ (Rd.below (mg1.rd'.2) (Ext.trans (Ext.trans (Ext.trans hb14 hb15) hb16) hb17)) (by omega) (by omega) (by omega)).mono ?_; rintro e w' ⟨rfl, rfl⟩
    go_wp2
    go_ret
    exact ⟨rfl, (Ext.trans (Ext.trans (Ext.trans (Ext.trans (ext_grown (ext_grown (Ext.trans (Ext.trans (ext_grown (Ext.trans (Ext.trans (Ext.trans (Ext.trans (Ext.trans (Ext.trans (Ext.trans hb1 hb2) hb3) hb4) hb5) hb6) hb7) hb8) hg9 (fun k hk => Nat.le_trans (Below.size (Ext.trans hb1 hb2)) (fx2.blkB k hk).1)) hb10) hb11) hg12 (fun k hk => Nat.le_trans (Below.size (Ext.trans (Ext.trans hb1 hb2) hb3)) (fg0.blkB k hk).1)) hg13 (fun k hk => Nat.le_trans (Below.size (Ext.trans (Ext.trans hb1 hb2) hb3)) (fg1.blkB k hk).1)) hb14) hb15) hb16) hb17)⟩
  · have hs : szB 1048576 ns = -1 := by unfold szB; rw [if_pos (by omega)]
    go_enter Try.func7, Try.ntmps7
    go_wp2_with (go_at_call 14; refine (szMappingS_any _ _ _ _ _ (by omega) (by omega) (by omega)).mono ?_; rintro e w' ⟨rfl, rfl⟩; rw [hs])
    go_ret
    exact ⟨rfl, Below.refl _ _⟩
end Go.Proofs.Ytcdmpnkcfopmbaa
