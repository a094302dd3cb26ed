/-
  The law FnExactMapPage returns true at every input, and leaves all that was there as it was: the walk.
-/
import Derived.Test.YtcdmpnkcfopmbaaMpJ
import Derived.Test.YtcdmpnkcfopmbaaMpH
import Derived.Test.YtcdmpnkcfopmbaaMpD
import Derived.Test.YtcdmpnkcfopmbaaCpA
import Derived.Test.YtcdmpnkcfopmbaaRows2
import Derived.Test.YtcdmpnkcfopmbaaOpen
import Derived.Deep.RegionHeld3
namespace Go.Proofs.Ytcdmpnkcfopmbaa
open Go.RowKit
set_option linter.unusedVariables false

set_option maxHeartbeats 400000 in
theorem FnExactMapPage_walk (As : Option Addr) (ns cs : Nat) (s : List Mp) (p : Int) (v0 v1 v2 v3 : Int) (u : Int) (w : World) (hs : Rd w 3 As ns cs (c3 s)) (Fs : ∀ m ∈ s, Fits m.1 ∧ Fits m.2.1 ∧ Fits m.2.2) (Fp : Fits p) (Fv0 : Fits v0) (Fv1 : Fits v1) (Fv2 : Fits v2) (Fv3 : Fits v3) (Fu : Fits u) :
    Calls Try.prog 11 #[.slice As ns cs, .int .i64 p, .agg #[.int .i64 v0, .int .i64 v1, .int .i64 v2, .int .i64 v3], .int .i64 u] w fun e w' => e = .returned (.bool true) ∧ Ext w w' := by
  have hles := hs.le
  have htops := hs.top
  have HLs := Lib.hid hs.len3
  have hb0 : Ext w (w.alloc (.cells #[.int .i64 v0, .int .i64 v1, .int .i64 v2, .int .i64 v3] 51)) := ((Below.refl _ _).alloc (by exact Nat.le_refl _) _)
  by_cases hns : ns ≤ 1048576
  rotate_left
  · have hs : szB (1048576) ns = -1 := by unfold szB; rw [if_pos (by omega)]
    go_enter Try.func11, Try.ntmps11
    go_wp2_with fail
    refine (szMappingS_any _ _ _ _ _ (by omega) (by omega) (by omega)).mono ?_; rintro e w' ⟨rfl, rfl⟩; rw [hs]
    go_wp2
    go_ret
    exact ⟨rfl, hb0⟩
  have hss : szB (1048576) ns = 1048576 - ns := by unfold szB; rw [if_neg (by omega)]
  have hb1 : Ext w (w.alloc (.cells #[.int .i64 v0, .int .i64 v1, .int .i64 v2, .int .i64 v3] 51)) := ((Below.refl _ _).alloc (by exact Nat.le_refl _) _)
  go_enter Try.func11, Try.ntmps11
  go_wp2_with fail
  refine (szMappingS_any _ _ _ _ _ (by omega) (by omega) (by omega)).mono ?_; rintro e w' ⟨rfl, rfl⟩; rw [hss]
  have hS : ∀ w' : World, Ext (w.alloc (.cells #[.int .i64 v0, .int .i64 v1, .int .i64 v2, .int .i64 v3] 51)) w' → (w'.cell? ⟨w.heap.size, 0, none⟩ = some (.int .i64 v0) ∧ w'.cell? ⟨w.heap.size, 1, none⟩ = some (.int .i64 v1) ∧ w'.cell? ⟨w.heap.size, 2, none⟩ = some (.int .i64 v2) ∧ w'.cell? ⟨w.heap.size, 3, none⟩ = some (.int .i64 v3)) := fun w' he => ⟨kept_of_below he _ _ (by rw [World.cell?_alloc_new]; rfl), kept_of_below he _ _ (by rw [World.cell?_alloc_new]; rfl), kept_of_below he _ _ (by rw [World.cell?_alloc_new]; rfl), kept_of_below he _ _ (by rw [World.cell?_alloc_new]; rfl)⟩
  have hzs : ns ≤ 1048576 := by omega
  have hb2 : Ext (w.alloc (.cells #[.int .i64 v0, .int .i64 v1, .int .i64 v2, .int .i64 v3] 51)) (World.drew (w.alloc (.cells #[.int .i64 v0, .int .i64 v1, .int .i64 v2, .int .i64 v3] 51))) := (Below.refl _ _).drew
  go_wp2
  go_region_held3 (fun w' => (w'.cell? ⟨w.heap.size, 0, none⟩ = some (.int .i64 v0) ∧ w'.cell? ⟨w.heap.size, 1, none⟩ = some (.int .i64 v1) ∧ w'.cell? ⟨w.heap.size, 2, none⟩ = some (.int .i64 v2) ∧ w'.cell? ⟨w.heap.size, 3, none⟩ = some (.int .i64 v3))) (first | exact hS _ hb2 | exact hS _ (Ext.trans hb2 hb3) | exact hS _ (Ext.trans (Ext.trans hb2 hb3) hb4) | exact hS _ (Ext.trans (Ext.trans (Ext.trans hb2 hb3) hb4) hb5)) (first | (go_at_call 16; refine (toMappingS_any _ _ _ _ _ (Rd.below (hs) (Ext.trans hb1 hb2)) hzs).mono ?_; rintro e w3 ⟨Ax1, cx1, rfl, ox1, hb3⟩) | (go_at_call 38; refine (toCap_any _ _ _ _ _).mono ?_; rintro e w4 ⟨rfl, hb4⟩) | (go_at_call 37; refine (specMapPage_any _ _ _ _ _ _ _ _ _ _ _ (Rd.below ((Rd.of_row ox1)) hb4) ).mono ?_; rintro e w5 ⟨As0, cs0, rfl, rs0, hb5⟩))
  go_wp2_with fail
  refine (toMappingS_any _ _ _ _ _ (Rd.below (hs) (Ext.trans (Ext.trans (Ext.trans (Ext.trans hb1 hb2) hb3) hb4) hb5)) (by omega)).mono ?_; rintro e w6 ⟨Ax2, cx2, rfl, ox2, hb6⟩
  obtain ⟨M0, M1, M2, M3⟩ := hS _ (Ext.trans (Ext.trans (Ext.trans (Ext.trans hb2 hb3) hb4) hb5) hb6)
  go_wp2_with fail
  refine (toCap_any _ _ _ _ _).mono ?_; rintro e w7 ⟨rfl, hb7⟩
  go_wp2_with fail
  refine (MapPage_any _ _ _ _ _ _ _ _ _ _ _ (Rd.below ((Rd.of_row ox2)) hb7) ).mono ?_; rintro e w8 ⟨Ag0, cg0, rfl, rg0, hb8⟩
  go_wp2_with fail
  refine (eqMappingS_any _ _ _ _ _ _ _ _ _ (rg0.rd'.2) (Rd.below (rs0.rd'.2) (Ext.trans (Ext.trans hb6 hb7) hb8))).mono ?_; rintro e w9 ⟨rfl, hb9⟩; rw [(eqMs_iff _ _).2 rfl]
  go_wp2_with fail
  refine (toMappingS_any _ _ _ _ _ (Rd.below (hs) (Ext.trans (Ext.trans (Ext.trans (Ext.trans (Ext.trans (Ext.trans (Ext.trans (Ext.trans hb1 hb2) hb3) hb4) hb5) hb6) hb7) hb8) hb9)) (by omega)).mono ?_; rintro e w10 ⟨Ax3, cx3, rfl, ox3, hb10⟩
  go_wp2_with fail
  refine (eqMappingS_any _ _ _ _ _ _ _ _ _ (Rd.below ((Rd.of_row ox2)) (Ext.trans (Ext.trans (Ext.trans hb7 hb8) hb9) hb10)) ((Rd.of_row ox3))).mono ?_; rintro e w11 ⟨rfl, hb11⟩; rw [(eqMs_iff _ _).2 rfl]
  have ln0 : ((mapR p v0 v1 v2 v3 u s).1).length ≤ 1048576 := Nat.le_trans (mapR_len p v0 v1 v2 v3 u s) (by omega)
  have fx2 := (Fr.below (Fr.below (Fr.below (Fr.below (Fr.below (Or.inr ox2) hb7) hb8) hb9) hb10) hb11)
  go_wp2_with fail
  refine (markMappingS_any _ _ _ _ _ _ _ fx2 (HLs.out) (by omega) (by omega) (by omega)).mono ?_; rintro e w12 ⟨rfl, mx2, hg12⟩
  have hT12 := Tch.of_grown (S := fun b => w5.heap.size ≤ b ∧ b < w6.heap.size) hg12 (fun k hk => Fr.blkB ((Or.inr ox2)) k hk)
  have qg0 := (Fr.pastT (Fr.below (Fr.below (Fr.below rg0 hb9) hb10) hb11) hT12 (fun k hk => Nat.lt_of_lt_of_le hk.2 (Below.size hb7)))
  go_wp2_with fail
  refine (eqMappingS_any _ _ _ _ _ _ _ _ _ (qg0.rd'.2) (Rd.below (rs0.rd'.2) (ext_tch (Ext.trans (Ext.trans (Ext.trans (Ext.trans (Ext.trans hb6 hb7) hb8) hb9) hb10) hb11) hT12 (fun k hk => Nat.le_trans (Nat.le_refl _) hk.1)))).mono ?_; rintro e w13 ⟨rfl, hb13⟩; rw [(eqMs_iff _ _).2 rfl]
  have fg0 := (Fr.below qg0 hb13)
  go_wp2_with fail
  refine (markMappingS_any _ _ _ _ _ _ _ fg0 (rfl) (by omega) (by omega) (by omega)).mono ?_; rintro e w14 ⟨rfl, mg0, hg14⟩
  have hT14 := Tch.of_grown (S := fun b => w7.heap.size ≤ b ∧ b < w8.heap.size) hg14 (fun k hk => Fr.blkB (rg0) k hk)
  go_wp2_with fail
  refine (heldMappingS_any _ _ _ _ _ (mg0.rd'.2) (by omega) (by omega) (by omega)).mono ?_; rintro e w' ⟨rfl, rfl⟩
  have hb15 : Ext w14 (World.drew w14) := (Below.refl _ _).drew
  go_wp2
  go_region_held3 (fun w' => (w'.cell? ⟨w.heap.size, 0, none⟩ = some (.int .i64 v0) ∧ w'.cell? ⟨w.heap.size, 1, none⟩ = some (.int .i64 v1) ∧ w'.cell? ⟨w.heap.size, 2, none⟩ = some (.int .i64 v2) ∧ w'.cell? ⟨w.heap.size, 3, none⟩ = some (.int .i64 v3))) (first | exact hS _ (Ext.trans (ext_tch (Ext.trans (ext_tch (Ext.trans (Ext.trans (Ext.trans (Ext.trans (Ext.trans (Ext.trans (Ext.trans (Ext.trans (Ext.trans hb2 hb3) hb4) hb5) hb6) hb7) hb8) hb9) hb10) hb11) hT12 (fun k hk => Nat.le_trans (Below.size (Ext.trans (Ext.trans (Ext.trans hb2 hb3) hb4) hb5)) hk.1)) hb13) hT14 (fun k hk => Nat.le_trans (Below.size (Ext.trans (Ext.trans (Ext.trans (Ext.trans (Ext.trans hb2 hb3) hb4) hb5) hb6) hb7)) hk.1)) hb15) | exact hS _ (Ext.trans (Ext.trans (ext_tch (Ext.trans (ext_tch (Ext.trans (Ext.trans (Ext.trans (Ext.trans (Ext.trans (Ext.trans (Ext.trans (Ext.trans (Ext.trans hb2 hb3) hb4) hb5) hb6) hb7) hb8) hb9) hb10) hb11) hT12 (fun k hk => Nat.le_trans (Below.size (Ext.trans (Ext.trans (Ext.trans hb2 hb3) hb4) hb5)) hk.1)) hb13) hT14 (fun k hk => Nat.le_trans (Below.size (Ext.trans (Ext.trans (Ext.trans (Ext.trans (Ext.trans hb2 hb3) hb4) hb5) hb6) hb7)) hk.1)) hb15) hb16) | exact hS _ (Ext.trans (Ext.trans (Ext.trans (ext_tch (Ext.trans (ext_tch (Ext.trans (Ext.trans (Ext.trans (Ext.trans (Ext.trans (Ext.trans (Ext.trans (Ext.trans (Ext.trans hb2 hb3) hb4) hb5) hb6) hb7) hb8) hb9) hb10) hb11) hT12 (fun k hk => Nat.le_trans (Below.size (Ext.trans (Ext.trans (Ext.trans hb2 hb3) hb4) hb5)) hk.1)) hb13) hT14 (fun k hk => Nat.le_trans (Below.size (Ext.trans (Ext.trans (Ext.trans (Ext.trans (Ext.trans hb2 hb3) hb4) hb5) hb6) hb7)) hk.1)) hb15) hb16) hb17) | exact hS _ (Ext.trans (Ext.trans (Ext.trans (Ext.trans (ext_tch (Ext.trans (ext_tch (Ext.trans (Ext.trans (Ext.trans (Ext.trans (Ext.trans (Ext.trans (Ext.trans (Ext.trans (Ext.trans hb2 hb3) hb4) hb5) hb6) hb7) hb8) hb9) hb10) hb11) hT12 (fun k hk => Nat.le_trans (Below.size (Ext.trans (Ext.trans (Ext.trans hb2 hb3) hb4) hb5)) hk.1)) hb13) hT14 (fun k hk => Nat.le_trans (Below.size (Ext.trans (Ext.trans (Ext.trans (Ext.trans (Ext.trans hb2 hb3) hb4) hb5) hb6) hb7)) hk.1)) hb15) hb16) hb17) hb18)) (first | (go_at_call 16; refine (toMappingS_any _ _ _ _ _ (Rd.below (hs) (Ext.trans (ext_tch (Ext.trans (ext_tch (Ext.trans (Ext.trans (Ext.trans (Ext.trans (Ext.trans (Ext.trans (Ext.trans (Ext.trans (Ext.trans (Ext.trans hb1 hb2) hb3) hb4) hb5) hb6) hb7) hb8) hb9) hb10) hb11) hT12 (fun k hk => Nat.le_trans (Below.size (Ext.trans (Ext.trans (Ext.trans (Ext.trans hb1 hb2) hb3) hb4) hb5)) hk.1)) hb13) hT14 (fun k hk => Nat.le_trans (Below.size (Ext.trans (Ext.trans (Ext.trans (Ext.trans (Ext.trans (Ext.trans hb1 hb2) hb3) hb4) hb5) hb6) hb7)) hk.1)) hb15)) hzs).mono ?_; rintro e w16 ⟨Ax4, cx4, rfl, ox4, hb16⟩) | (go_at_call 38; refine (toCap_any _ _ _ _ _).mono ?_; rintro e w17 ⟨rfl, hb17⟩) | (go_at_call 39; refine (MapPage_any _ _ _ _ _ _ _ _ _ _ _ (Rd.below ((Rd.of_row ox4)) hb17) ).mono ?_; rintro e w18 ⟨Ah0, ch0, rfl, rh0, hb18⟩))
  go_wp2_with fail
  refine (eqMappingS_any _ _ _ _ _ _ _ _ _ (rh0.rd'.2) (Rd.below (rs0.rd'.2) (Ext.trans (Ext.trans (Ext.trans (Ext.trans (ext_tch (Ext.trans (ext_tch (Ext.trans (Ext.trans (Ext.trans (Ext.trans (Ext.trans hb6 hb7) hb8) hb9) hb10) hb11) hT12 (fun k hk => Nat.le_trans (Nat.le_refl _) hk.1)) hb13) hT14 (fun k hk => Nat.le_trans (Below.size (Ext.trans hb6 hb7)) hk.1)) hb15) hb16) hb17) hb18))).mono ?_; rintro e w19 ⟨rfl, hb19⟩; rw [(eqMs_iff _ _).2 rfl]
  go_wp2_with fail
  refine (heldMappingS_any _ _ _ _ _ (Rd.below (mg0.rd'.2) (Ext.trans (Ext.trans (Ext.trans (Ext.trans hb15 hb16) hb17) hb18) hb19)) (by omega) (by omega) (by omega)).mono ?_; rintro e w' ⟨rfl, rfl⟩
  go_wp2
  go_ret
  exact ⟨rfl, (Ext.trans (Ext.trans (Ext.trans (Ext.trans (Ext.trans (ext_tch (Ext.trans (ext_tch (Ext.trans (Ext.trans (Ext.trans (Ext.trans (Ext.trans (Ext.trans (Ext.trans (Ext.trans (Ext.trans (Ext.trans hb1 hb2) hb3) hb4) hb5) hb6) hb7) hb8) hb9) hb10) hb11) hT12 (fun k hk => Nat.le_trans (Below.size (Ext.trans (Ext.trans (Ext.trans (Ext.trans hb1 hb2) hb3) hb4) hb5)) hk.1)) hb13) hT14 (fun k hk => Nat.le_trans (Below.size (Ext.trans (Ext.trans (Ext.trans (Ext.trans (Ext.trans (Ext.trans hb1 hb2) hb3) hb4) hb5) hb6) hb7)) hk.1)) hb15) hb16) hb17) hb18) hb19)⟩
end Go.Proofs.Ytcdmpnkcfopmbaa
