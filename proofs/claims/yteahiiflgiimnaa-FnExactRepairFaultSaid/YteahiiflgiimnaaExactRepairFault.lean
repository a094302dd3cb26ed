/-
  The law FnExactRepairFault returns true at every input, and leaves all that was there as it was: the walk.
-/
import Derived.Test.YteahiiflgiimnaaFaC
import Derived.Test.YteahiiflgiimnaaFaB
import Derived.Test.YteahiiflgiimnaaMpD
import Derived.Test.YteahiiflgiimnaaCpA
import Derived.Test.YteahiiflgiimnaaRows2
import Derived.Test.YteahiiflgiimnaaOpen
import Derived.Deep.RegionHeld3
namespace Go.Proofs.Yteahiiflgiimnaa
open Go.RowKit
set_option linter.unusedVariables false

set_option maxHeartbeats 400000 in
theorem FnExactRepairFault_walk (As : Option Addr) (ns cs : Nat) (s : List Mp) (f0 f1 f2 : Int) (v0 v1 v2 v3 : Int) (w : World) (hs : Rd w 3 As ns cs (c3 s)) (Fs : ∀ m ∈ s, Fits m.1 ∧ Fits m.2.1 ∧ Fits m.2.2) (Ff0 : Fits f0) (Ff1 : Fits f1) (Ff2 : Fits f2) (Fv0 : Fits v0) (Fv1 : Fits v1) (Fv2 : Fits v2) (Fv3 : Fits v3) :
    Calls Try.prog 3 #[.slice As ns cs, .agg #[.int .i64 f0, .int .i64 f1, .int .i64 f2], .agg #[.int .i64 v0, .int .i64 v1, .int .i64 v2, .int .i64 v3]] w fun e w' => e = .returned (.bool true) ∧ Ext w w' := by
  have hles := hs.le
  have htops := hs.top
  have HLs := Lib.hid hs.len3
  have hb0 : Ext w ((w.alloc (.cells #[.int .i64 f0, .int .i64 f1, .int .i64 f2] 24)).alloc (.cells #[.int .i64 v0, .int .i64 v1, .int .i64 v2, .int .i64 v3] 26)) := (((Below.refl _ _).alloc (by exact Nat.le_refl _) _).alloc (by simp) _)
  by_cases hns : ns ≤ 1048576
  rotate_left
  · have hs : szB (1048576) ns = -1 := by unfold szB; rw [if_pos (by omega)]
    go_enter Try.func3, Try.ntmps3
    go_wp2_with fail
    refine (szMappingS_any _ _ _ _ _ (by omega) (by omega) (by omega)).mono ?_; rintro e w' ⟨rfl, rfl⟩; rw [hs]
    go_wp2
    go_ret
    exact ⟨rfl, hb0⟩
  have hss : szB (1048576) ns = 1048576 - ns := by unfold szB; rw [if_neg (by omega)]
  have hb1 : Ext w ((w.alloc (.cells #[.int .i64 f0, .int .i64 f1, .int .i64 f2] 24)).alloc (.cells #[.int .i64 v0, .int .i64 v1, .int .i64 v2, .int .i64 v3] 26)) := (((Below.refl _ _).alloc (by exact Nat.le_refl _) _).alloc (by simp) _)
  go_enter Try.func3, Try.ntmps3
  go_wp2_with fail
  refine (szMappingS_any _ _ _ _ _ (by omega) (by omega) (by omega)).mono ?_; rintro e w' ⟨rfl, rfl⟩; rw [hss]
  have hS : ∀ w' : World, Ext ((w.alloc (.cells #[.int .i64 f0, .int .i64 f1, .int .i64 f2] 24)).alloc (.cells #[.int .i64 v0, .int .i64 v1, .int .i64 v2, .int .i64 v3] 26)) w' → (w'.cell? ⟨w.heap.size, 0, none⟩ = some (.int .i64 f0) ∧ w'.cell? ⟨w.heap.size, 1, none⟩ = some (.int .i64 f1) ∧ w'.cell? ⟨w.heap.size, 2, none⟩ = some (.int .i64 f2) ∧ w'.cell? ⟨w.heap.size + 1, 0, none⟩ = some (.int .i64 v0) ∧ w'.cell? ⟨w.heap.size + 1, 1, none⟩ = some (.int .i64 v1) ∧ w'.cell? ⟨w.heap.size + 1, 2, none⟩ = some (.int .i64 v2) ∧ w'.cell? ⟨w.heap.size + 1, 3, none⟩ = some (.int .i64 v3)) := fun w' he => ⟨kept_of_below he _ _ (by first | (rw [World.cell?_alloc_new]; rfl) | simp), kept_of_below he _ _ (by first | (rw [World.cell?_alloc_new]; rfl) | simp), kept_of_below he _ _ (by first | (rw [World.cell?_alloc_new]; rfl) | simp), kept_of_below he _ _ (by first | (rw [World.cell?_alloc_new]; rfl) | simp), kept_of_below he _ _ (by first | (rw [World.cell?_alloc_new]; rfl) | simp), kept_of_below he _ _ (by first | (rw [World.cell?_alloc_new]; rfl) | simp), kept_of_below he _ _ (by first | (rw [World.cell?_alloc_new]; rfl) | simp)⟩
  have hzs : ns ≤ 1048576 := by omega
  have hb2 : Ext ((w.alloc (.cells #[.int .i64 f0, .int .i64 f1, .int .i64 f2] 24)).alloc (.cells #[.int .i64 v0, .int .i64 v1, .int .i64 v2, .int .i64 v3] 26)) (World.drew ((w.alloc (.cells #[.int .i64 f0, .int .i64 f1, .int .i64 f2] 24)).alloc (.cells #[.int .i64 v0, .int .i64 v1, .int .i64 v2, .int .i64 v3] 26))) := (Below.refl _ _).drew
  go_wp2
  go_region_held3 (fun w' => (w'.cell? ⟨w.heap.size, 0, none⟩ = some (.int .i64 f0) ∧ w'.cell? ⟨w.heap.size, 1, none⟩ = some (.int .i64 f1) ∧ w'.cell? ⟨w.heap.size, 2, none⟩ = some (.int .i64 f2) ∧ w'.cell? ⟨w.heap.size + 1, 0, none⟩ = some (.int .i64 v0) ∧ w'.cell? ⟨w.heap.size + 1, 1, none⟩ = some (.int .i64 v1) ∧ w'.cell? ⟨w.heap.size + 1, 2, none⟩ = some (.int .i64 v2) ∧ w'.cell? ⟨w.heap.size + 1, 3, none⟩ = some (.int .i64 v3))) (first | exact hS _ hb2 | exact hS _ (Ext.trans hb2 hb3) | exact hS _ (Ext.trans (Ext.trans hb2 hb3) hb4) | exact hS _ (Ext.trans (Ext.trans (Ext.trans hb2 hb3) hb4) hb5) | exact hS _ (Ext.trans (Ext.trans (Ext.trans (Ext.trans hb2 hb3) hb4) hb5) hb6)) (first | (go_at_call 14; refine (toMappingS_any _ _ _ _ _ (Rd.below (hs) (Ext.trans hb1 hb2)) hzs).mono ?_; rintro e w3 ⟨Ax1, cx1, rfl, ox1, hb3⟩) | (go_at_call 15; refine (toFault_any _ _ _ _).mono ?_; rintro e w4 ⟨rfl, hb4⟩) | (go_at_call 16; refine (toCap_any _ _ _ _ _).mono ?_; rintro e w5 ⟨rfl, hb5⟩) | (go_at_call 13; refine (specRepairFault_any _ _ _ _ _ _ _ _ _ _ _ _ (Rd.below ((Rd.of_row ox1)) (Ext.trans hb4 hb5)) ).mono ?_; rintro e w6 ⟨As0, cs0, rfl, rs0, hb6⟩))
  go_wp2_with fail
  refine (toMappingS_any _ _ _ _ _ (Rd.below (hs) (Ext.trans (Ext.trans (Ext.trans (Ext.trans (Ext.trans hb1 hb2) hb3) hb4) hb5) hb6)) (by omega)).mono ?_; rintro e w7 ⟨Ax2, cx2, rfl, ox2, hb7⟩
  have hb8 : Ext w7 (World.drew w7) := (Below.refl _ _).drew
  go_wp2
  go_region_held3 (fun w' => (w'.cell? ⟨w.heap.size, 0, none⟩ = some (.int .i64 f0) ∧ w'.cell? ⟨w.heap.size, 1, none⟩ = some (.int .i64 f1) ∧ w'.cell? ⟨w.heap.size, 2, none⟩ = some (.int .i64 f2) ∧ w'.cell? ⟨w.heap.size + 1, 0, none⟩ = some (.int .i64 v0) ∧ w'.cell? ⟨w.heap.size + 1, 1, none⟩ = some (.int .i64 v1) ∧ w'.cell? ⟨w.heap.size + 1, 2, none⟩ = some (.int .i64 v2) ∧ w'.cell? ⟨w.heap.size + 1, 3, none⟩ = some (.int .i64 v3))) (first | exact hS _ (Ext.trans (Ext.trans (Ext.trans (Ext.trans (Ext.trans (Ext.trans hb2 hb3) hb4) hb5) hb6) hb7) hb8) | exact hS _ (Ext.trans (Ext.trans (Ext.trans (Ext.trans (Ext.trans (Ext.trans (Ext.trans hb2 hb3) hb4) hb5) hb6) hb7) hb8) hb9) | exact hS _ (Ext.trans (Ext.trans (Ext.trans (Ext.trans (Ext.trans (Ext.trans (Ext.trans (Ext.trans hb2 hb3) hb4) hb5) hb6) hb7) hb8) hb9) hb10) | exact hS _ (Ext.trans (Ext.trans (Ext.trans (Ext.trans (Ext.trans (Ext.trans (Ext.trans (Ext.trans (Ext.trans hb2 hb3) hb4) hb5) hb6) hb7) hb8) hb9) hb10) hb11)) (first | (go_at_call 15; refine (toFault_any _ _ _ _).mono ?_; rintro e w9 ⟨rfl, hb9⟩) | (go_at_call 16; refine (toCap_any _ _ _ _ _).mono ?_; rintro e w10 ⟨rfl, hb10⟩) | (go_at_call 17; refine (RepairFault_any _ _ _ _ _ _ _ _ _ _ _ _ (Rd.below ((Rd.of_row ox2)) (Ext.trans (Ext.trans hb8 hb9) hb10)) ).mono ?_; rintro e w11 ⟨Ag0, cg0, rfl, rg0, hb11⟩))
  go_wp2_with fail
  refine (eqMappingS_any _ _ _ _ _ _ _ _ _ (rg0.rd'.2) (Rd.below (rs0.rd'.2) (Ext.trans (Ext.trans (Ext.trans (Ext.trans hb7 hb8) hb9) hb10) hb11))).mono ?_; rintro e w12 ⟨rfl, hb12⟩; rw [(eqMs_iff _ _).2 rfl]
  go_wp2_with fail
  refine (toMappingS_any _ _ _ _ _ (Rd.below (hs) (Ext.trans (Ext.trans (Ext.trans (Ext.trans (Ext.trans (Ext.trans (Ext.trans (Ext.trans (Ext.trans (Ext.trans (Ext.trans hb1 hb2) hb3) hb4) hb5) hb6) hb7) hb8) hb9) hb10) hb11) hb12)) (by omega)).mono ?_; rintro e w13 ⟨Ax3, cx3, rfl, ox3, hb13⟩
  go_wp2_with fail
  refine (eqMappingS_any _ _ _ _ _ _ _ _ _ (Rd.below ((Rd.of_row ox2)) (Ext.trans (Ext.trans (Ext.trans (Ext.trans (Ext.trans hb8 hb9) hb10) hb11) hb12) hb13)) ((Rd.of_row ox3))).mono ?_; rintro e w14 ⟨rfl, hb14⟩; rw [(eqMs_iff _ _).2 rfl]
  have ln0 : ((repR f0 f1 f2 v0 v1 v2 v3 s).1).length ≤ 1048576 := Nat.le_trans (repR_len f0 f1 f2 v0 v1 v2 v3 s) (by omega)
  have fx2 := (Fr.below (Fr.below (Fr.below (Fr.below (Fr.below (Fr.below (Fr.below (Or.inr ox2) hb8) hb9) hb10) hb11) hb12) hb13) hb14)
  go_wp2_with fail
  refine (markMappingS_any _ _ _ _ _ _ _ fx2 (HLs.out) (by omega) (by omega) (by omega)).mono ?_; rintro e w15 ⟨rfl, mx2, hg15⟩
  have hT15 := Tch.of_grown (S := fun b => w6.heap.size ≤ b ∧ b < w7.heap.size) hg15 (fun k hk => Fr.blkB ((Or.inr ox2)) k hk)
  have qg0 := (Fr.pastT (Fr.below (Fr.below (Fr.below rg0 hb12) hb13) hb14) hT15 (fun k hk => Nat.lt_of_lt_of_le hk.2 (Below.size (Ext.trans (Ext.trans hb8 hb9) hb10))))
  go_wp2_with fail
  refine (eqMappingS_any _ _ _ _ _ _ _ _ _ (qg0.rd'.2) (Rd.below (rs0.rd'.2) (ext_tch (Ext.trans (Ext.trans (Ext.trans (Ext.trans (Ext.trans (Ext.trans (Ext.trans hb7 hb8) hb9) hb10) hb11) hb12) hb13) hb14) hT15 (fun k hk => Nat.le_trans (Nat.le_refl _) hk.1)))).mono ?_; rintro e w16 ⟨rfl, hb16⟩; rw [(eqMs_iff _ _).2 rfl]
  have fg0 := (Fr.below qg0 hb16)
  go_wp2_with fail
  refine (markMappingS_any _ _ _ _ _ _ _ fg0 (rfl) (by omega) (by omega) (by omega)).mono ?_; rintro e w17 ⟨rfl, mg0, hg17⟩
  have hT17 := Tch.of_grown (S := fun b => w10.heap.size ≤ b ∧ b < w11.heap.size) hg17 (fun k hk => Fr.blkB (rg0) k hk)
  go_wp2_with fail
  refine (heldMappingS_any _ _ _ _ _ (mg0.rd'.2) (by omega) (by omega) (by omega)).mono ?_; rintro e w' ⟨rfl, rfl⟩
  have hb18 : Ext w17 (World.drew w17) := (Below.refl _ _).drew
  go_wp2
  go_region_held3 (fun w' => (w'.cell? ⟨w.heap.size, 0, none⟩ = some (.int .i64 f0) ∧ w'.cell? ⟨w.heap.size, 1, none⟩ = some (.int .i64 f1) ∧ w'.cell? ⟨w.heap.size, 2, none⟩ = some (.int .i64 f2) ∧ w'.cell? ⟨w.heap.size + 1, 0, none⟩ = some (.int .i64 v0) ∧ w'.cell? ⟨w.heap.size + 1, 1, none⟩ = some (.int .i64 v1) ∧ w'.cell? ⟨w.heap.size + 1, 2, none⟩ = some (.int .i64 v2) ∧ w'.cell? ⟨w.heap.size + 1, 3, none⟩ = some (.int .i64 v3))) (first | exact hS _ (Ext.trans (ext_tch (Ext.trans (ext_tch (Ext.trans (Ext.trans (Ext.trans (Ext.trans (Ext.trans (Ext.trans (Ext.trans (Ext.trans (Ext.trans (Ext.trans (Ext.trans (Ext.trans hb2 hb3) hb4) hb5) hb6) hb7) hb8) hb9) hb10) hb11) hb12) hb13) hb14) hT15 (fun k hk => Nat.le_trans (Below.size (Ext.trans (Ext.trans (Ext.trans (Ext.trans hb2 hb3) hb4) hb5) hb6)) hk.1)) hb16) hT17 (fun k hk => Nat.le_trans (Below.size (Ext.trans (Ext.trans (Ext.trans (Ext.trans (Ext.trans (Ext.trans (Ext.trans (Ext.trans hb2 hb3) hb4) hb5) hb6) hb7) hb8) hb9) hb10)) hk.1)) hb18) | exact hS _ (Ext.trans (Ext.trans (ext_tch (Ext.trans (ext_tch (Ext.trans (Ext.trans (Ext.trans (Ext.trans (Ext.trans (Ext.trans (Ext.trans (Ext.trans (Ext.trans (Ext.trans (Ext.trans (Ext.trans hb2 hb3) hb4) hb5) hb6) hb7) hb8) hb9) hb10) hb11) hb12) hb13) hb14) hT15 (fun k hk => Nat.le_trans (Below.size (Ext.trans (Ext.trans (Ext.trans (Ext.trans hb2 hb3) hb4) hb5) hb6)) hk.1)) hb16) hT17 (fun k hk => Nat.le_trans (Below.size (Ext.trans (Ext.trans (Ext.trans (Ext.trans (Ext.trans (Ext.trans (Ext.trans (Ext.trans hb2 hb3) hb4) hb5) hb6) hb7) hb8) hb9) hb10)) hk.1)) hb18) hb19) | exact hS _ (Ext.trans (Ext.trans (Ext.trans (ext_tch (Ext.trans (ext_tch (Ext.trans (Ext.trans (Ext.trans (Ext.trans (Ext.trans (Ext.trans (Ext.trans (Ext.trans (Ext.trans (Ext.trans (Ext.trans (Ext.trans hb2 hb3) hb4) hb5) hb6) hb7) hb8) hb9) hb10) hb11) hb12) hb13) hb14) hT15 (fun k hk => Nat.le_trans (Below.size (Ext.trans (Ext.trans (Ext.trans (Ext.trans hb2 hb3) hb4) hb5) hb6)) hk.1)) hb16) hT17 (fun k hk => Nat.le_trans (Below.size (Ext.trans (Ext.trans (Ext.trans (Ext.trans (Ext.trans (Ext.trans (Ext.trans (Ext.trans hb2 hb3) hb4) hb5) hb6) hb7) hb8) hb9) hb10)) hk.1)) hb18) hb19) hb20) | exact hS _ (Ext.trans (Ext.trans (Ext.trans (Ext.trans (ext_tch (Ext.trans (ext_tch (Ext.trans (Ext.trans (Ext.trans (Ext.trans (Ext.trans (Ext.trans (Ext.trans (Ext.trans (Ext.trans (Ext.trans (Ext.trans (Ext.trans hb2 hb3) hb4) hb5) hb6) hb7) hb8) hb9) hb10) hb11) hb12) hb13) hb14) hT15 (fun k hk => Nat.le_trans (Below.size (Ext.trans (Ext.trans (Ext.trans (Ext.trans hb2 hb3) hb4) hb5) hb6)) hk.1)) hb16) hT17 (fun k hk => Nat.le_trans (Below.size (Ext.trans (Ext.trans (Ext.trans (Ext.trans (Ext.trans (Ext.trans (Ext.trans (Ext.trans hb2 hb3) hb4) hb5) hb6) hb7) hb8) hb9) hb10)) hk.1)) hb18) hb19) hb20) hb21) | exact hS _ (Ext.trans (Ext.trans (Ext.trans (Ext.trans (Ext.trans (ext_tch (Ext.trans (ext_tch (Ext.trans (Ext.trans (Ext.trans (Ext.trans (Ext.trans (Ext.trans (Ext.trans (Ext.trans (Ext.trans (Ext.trans (Ext.trans (Ext.trans hb2 hb3) hb4) hb5) hb6) hb7) hb8) hb9) hb10) hb11) hb12) hb13) hb14) hT15 (fun k hk => Nat.le_trans (Below.size (Ext.trans (Ext.trans (Ext.trans (Ext.trans hb2 hb3) hb4) hb5) hb6)) hk.1)) hb16) hT17 (fun k hk => Nat.le_trans (Below.size (Ext.trans (Ext.trans (Ext.trans (Ext.trans (Ext.trans (Ext.trans (Ext.trans (Ext.trans hb2 hb3) hb4) hb5) hb6) hb7) hb8) hb9) hb10)) hk.1)) hb18) hb19) hb20) hb21) hb22)) (first | (go_at_call 14; refine (toMappingS_any _ _ _ _ _ (Rd.below (hs) (Ext.trans (ext_tch (Ext.trans (ext_tch (Ext.trans (Ext.trans (Ext.trans (Ext.trans (Ext.trans (Ext.trans (Ext.trans (Ext.trans (Ext.trans (Ext.trans (Ext.trans (Ext.trans (Ext.trans hb1 hb2) hb3) hb4) hb5) hb6) hb7) hb8) hb9) hb10) hb11) hb12) hb13) hb14) hT15 (fun k hk => Nat.le_trans (Below.size (Ext.trans (Ext.trans (Ext.trans (Ext.trans (Ext.trans hb1 hb2) hb3) hb4) hb5) hb6)) hk.1)) hb16) hT17 (fun k hk => Nat.le_trans (Below.size (Ext.trans (Ext.trans (Ext.trans (Ext.trans (Ext.trans (Ext.trans (Ext.trans (Ext.trans (Ext.trans hb1 hb2) hb3) hb4) hb5) hb6) hb7) hb8) hb9) hb10)) hk.1)) hb18)) hzs).mono ?_; rintro e w19 ⟨Ax4, cx4, rfl, ox4, hb19⟩) | (go_at_call 15; refine (toFault_any _ _ _ _).mono ?_; rintro e w20 ⟨rfl, hb20⟩) | (go_at_call 16; refine (toCap_any _ _ _ _ _).mono ?_; rintro e w21 ⟨rfl, hb21⟩) | (go_at_call 17; refine (RepairFault_any _ _ _ _ _ _ _ _ _ _ _ _ (Rd.below ((Rd.of_row ox4)) (Ext.trans hb20 hb21)) ).mono ?_; rintro e w22 ⟨Ah0, ch0, rfl, rh0, hb22⟩))
  go_wp2_with fail
  refine (eqMappingS_any _ _ _ _ _ _ _ _ _ (rh0.rd'.2) (Rd.below (rs0.rd'.2) (Ext.trans (Ext.trans (Ext.trans (Ext.trans (Ext.trans (ext_tch (Ext.trans (ext_tch (Ext.trans (Ext.trans (Ext.trans (Ext.trans (Ext.trans (Ext.trans (Ext.trans hb7 hb8) hb9) hb10) hb11) hb12) hb13) hb14) hT15 (fun k hk => Nat.le_trans (Nat.le_refl _) hk.1)) hb16) hT17 (fun k hk => Nat.le_trans (Below.size (Ext.trans (Ext.trans (Ext.trans hb7 hb8) hb9) hb10)) hk.1)) hb18) hb19) hb20) hb21) hb22))).mono ?_; rintro e w23 ⟨rfl, hb23⟩; rw [(eqMs_iff _ _).2 rfl]
  go_wp2_with fail
  refine (heldMappingS_any _ _ _ _ _ (Rd.below (mg0.rd'.2) (Ext.trans (Ext.trans (Ext.trans (Ext.trans (Ext.trans hb18 hb19) hb20) hb21) hb22) hb23)) (by omega) (by omega) (by omega)).mono ?_; rintro e w' ⟨rfl, rfl⟩
  go_wp2
  go_ret
  exact ⟨rfl, (Ext.trans (Ext.trans (Ext.trans (Ext.trans (Ext.trans (Ext.trans (ext_tch (Ext.trans (ext_tch (Ext.trans (Ext.trans (Ext.trans (Ext.trans (Ext.trans (Ext.trans (Ext.trans (Ext.trans (Ext.trans (Ext.trans (Ext.trans (Ext.trans (Ext.trans hb1 hb2) hb3) hb4) hb5) hb6) hb7) hb8) hb9) hb10) hb11) hb12) hb13) hb14) hT15 (fun k hk => Nat.le_trans (Below.size (Ext.trans (Ext.trans (Ext.trans (Ext.trans (Ext.trans hb1 hb2) hb3) hb4) hb5) hb6)) hk.1)) hb16) hT17 (fun k hk => Nat.le_trans (Below.size (Ext.trans (Ext.trans (Ext.trans (Ext.trans (Ext.trans (Ext.trans (Ext.trans (Ext.trans (Ext.trans hb1 hb2) hb3) hb4) hb5) hb6) hb7) hb8) hb9) hb10)) hk.1)) hb18) hb19) hb20) hb21) hb22) hb23)⟩
end Go.Proofs.Yteahiiflgiimnaa
