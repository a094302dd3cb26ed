/-
  The law FnExactDoMove returns true at every input, and leaves all that was there as it was: the walk.
-/
import Derived.Test.YtbljkahdhckegaaMvE
import Derived.Test.YtbljkahdhckegaaOpen
import Derived.Deep.RegionHeld3
namespace Go.Proofs.Ytbljkahdhckegaa
open Go.RowKit
set_option linter.unusedVariables false

set_option maxHeartbeats 400000 in
theorem FnExactDoMove_walk (Ag : Option Addr) (ng cg : Nat) (g : List (List Int)) (v0 v1 v2 v3 v4 : Int) (w : World) (hg : RdR w Ag ng cg g) (Fg : ∀ r ∈ g, ∀ z ∈ r, Fits z) (Fv0 : Fits v0) (Fv1 : Fits v1) (Fv2 : Fits v2) (Fv3 : Fits v3) (Fv4 : Fits v4) :
    Calls Try.prog 5 #[.slice Ag ng cg, .agg #[.int .i64 v0, .int .i64 v1, .int .i64 v2, .int .i64 v3, .int .i64 v4]] w fun e w' => e = .returned (.bool true) ∧ Ext w w' := by
  have hleg := hg.le
  have htopg := hg.top
  have HLg := Lib.hid hg.lenR
  have hb0 : Ext w (w.alloc (.cells #[.int .i64 v0, .int .i64 v1, .int .i64 v2, .int .i64 v3, .int .i64 v4] 24)) := ((Below.refl _ _).alloc (by exact Nat.le_refl _) _)
  by_cases hng : ng + tot g ≤ 1048576
  rotate_left
  · have hs : szR (1048576) g = -1 := by unfold szR; rw [if_pos (by rw [HLg.out]; omega)]
    go_enter Try.func5, Try.ntmps5
    go_wp2_with fail
    refine (szIntSS_any _ _ _ _ _ _ (RdR.below hg hb0) (by omega) (by omega)).mono ?_; rintro e w' ⟨rfl, rfl⟩; rw [hs]
    go_wp2
    go_ret
    exact ⟨rfl, hb0⟩
  have hsg : szR (1048576) g = 1048576 - ng - tot g := by unfold szR; rw [HLg.out, if_neg (by omega)]
  have hb1 : Ext w (w.alloc (.cells #[.int .i64 v0, .int .i64 v1, .int .i64 v2, .int .i64 v3, .int .i64 v4] 24)) := ((Below.refl _ _).alloc (by exact Nat.le_refl _) _)
  go_enter Try.func5, Try.ntmps5
  go_wp2_with fail
  refine (szIntSS_any _ _ _ _ _ _ (RdR.below (hg) hb1) (by omega) (by omega)).mono ?_; rintro e w' ⟨rfl, rfl⟩; rw [hsg]
  have hS : ∀ w' : World, Ext (w.alloc (.cells #[.int .i64 v0, .int .i64 v1, .int .i64 v2, .int .i64 v3, .int .i64 v4] 24)) w' → (w'.cell? ⟨w.heap.size, 0, none⟩ = some (.int .i64 v0) ∧ w'.cell? ⟨w.heap.size, 1, none⟩ = some (.int .i64 v1) ∧ w'.cell? ⟨w.heap.size, 2, none⟩ = some (.int .i64 v2) ∧ w'.cell? ⟨w.heap.size, 3, none⟩ = some (.int .i64 v3) ∧ w'.cell? ⟨w.heap.size, 4, none⟩ = some (.int .i64 v4)) := fun w' he => ⟨kept_of_below he _ _ (by rw [World.cell?_alloc_new]; rfl), kept_of_below he _ _ (by rw [World.cell?_alloc_new]; rfl), kept_of_below he _ _ (by rw [World.cell?_alloc_new]; rfl), kept_of_below he _ _ (by rw [World.cell?_alloc_new]; rfl), kept_of_below he _ _ (by rw [World.cell?_alloc_new]; rfl)⟩
  have hzg : ng ≤ 1048576 := by omega
  have htg : ∀ x ∈ g, x.length ≤ 1048576 := fun x hx => Nat.le_trans (tot_mem hx) (by omega)
  have hb2 : Ext (w.alloc (.cells #[.int .i64 v0, .int .i64 v1, .int .i64 v2, .int .i64 v3, .int .i64 v4] 24)) (World.drew (w.alloc (.cells #[.int .i64 v0, .int .i64 v1, .int .i64 v2, .int .i64 v3, .int .i64 v4] 24))) := (Below.refl _ _).drew
  go_wp2
  go_region_held3 (fun w' => (w'.cell? ⟨w.heap.size, 0, none⟩ = some (.int .i64 v0) ∧ w'.cell? ⟨w.heap.size, 1, none⟩ = some (.int .i64 v1) ∧ w'.cell? ⟨w.heap.size, 2, none⟩ = some (.int .i64 v2) ∧ w'.cell? ⟨w.heap.size, 3, none⟩ = some (.int .i64 v3) ∧ w'.cell? ⟨w.heap.size, 4, none⟩ = some (.int .i64 v4))) (first | exact hS _ hb2 | exact hS _ (Ext.trans hb2 hb3) | exact hS _ (Ext.trans (Ext.trans hb2 hb3) hb4) | exact hS _ (Ext.trans (Ext.trans (Ext.trans hb2 hb3) hb4) hb5)) (first | (go_at_call 12; refine (toIntSS_any _ _ _ _ _ (RdR.below (hg) (Ext.trans hb1 hb2)) hzg htg).mono ?_; rintro e w3 ⟨Ax1, cx1, rfl, ox1, hb3⟩) | (go_at_call 13; refine (toMove_any _ _ _ _ _ _).mono ?_; rintro e w4 ⟨rfl, hb4⟩) | (go_at_call 18; refine (specDoMove_any _ _ _ _ _ _ _ _ _ _ (RdR.below ((FrR.rdR ox1)) hb4) ).mono ?_; rintro e w5 ⟨As0, cs0, rfl, rs0, hb5⟩))
  go_wp2_with fail
  refine (toIntSS_any _ _ _ _ _ (RdR.below (hg) (Ext.trans (Ext.trans (Ext.trans (Ext.trans hb1 hb2) hb3) hb4) hb5)) (by omega) (fun x hx => Nat.le_trans (tot_mem hx) (by omega))).mono ?_; rintro e w6 ⟨Ax2, cx2, rfl, ox2, hb6⟩
  obtain ⟨M0, M1, M2, M3, M4⟩ := hS _ (Ext.trans (Ext.trans (Ext.trans (Ext.trans hb2 hb3) hb4) hb5) hb6)
  go_wp2_with fail
  refine (toMove_any _ _ _ _ _ _).mono ?_; rintro e w7 ⟨rfl, hb7⟩
  go_wp2_with fail
  refine (DoMove_any _ _ _ _ _ _ _ _ _ _ (RdR.below ((FrR.rdR ox2)) hb7) ).mono ?_; rintro e w8 ⟨Ag0, cg0, rfl, rg0, hb8⟩
  go_wp2_with fail
  refine (eqIntSS_any _ _ _ _ _ _ _ _ _ ((FrR.rdR rg0)) (RdR.below ((FrR.rdR rs0)) (Ext.trans (Ext.trans hb6 hb7) hb8))).mono ?_; rintro e w9 ⟨rfl, hb9⟩; rw [(eqRs_iff _ _).2 rfl]
  go_wp2_with fail
  refine (toIntSS_any _ _ _ _ _ (RdR.below (hg) (Ext.trans (Ext.trans (Ext.trans (Ext.trans (Ext.trans (Ext.trans (Ext.trans (Ext.trans hb1 hb2) hb3) hb4) hb5) hb6) hb7) hb8) hb9)) (by omega) (fun x hx => Nat.le_trans (tot_mem hx) (by omega))).mono ?_; rintro e w10 ⟨Ax3, cx3, rfl, ox3, hb10⟩
  go_wp2_with fail
  refine (eqIntSS_any _ _ _ _ _ _ _ _ _ (RdR.below ((FrR.rdR ox2)) (Ext.trans (Ext.trans (Ext.trans hb7 hb8) hb9) hb10)) ((FrR.rdR ox3))).mono ?_; rintro e w11 ⟨rfl, hb11⟩; rw [(eqRs_iff _ _).2 rfl]
  have ln0 : (doR g (v0, v1, v2, v3, v4)).length + tot (doR g (v0, v1, v2, v3, v4)) ≤ 1048576 := doR_size g _
  have fx2 := (FrR.below (FrR.below (FrR.below (FrR.below (FrR.below ox2 hb7) hb8) hb9) hb10) hb11)
  go_wp2_with fail
  refine (markIntSS_any _ _ _ _ _ _ _ _ fx2 (by omega) (by omega) (by omega)).mono ?_; rintro e w12 ⟨rfl, mx2, hT12⟩
  have qg0 := (FrR.pastT (FrR.below (FrR.below (FrR.below rg0 hb9) hb10) hb11) hT12 (fun k hk => Nat.lt_of_lt_of_le hk.2 (Below.size hb7)))
  go_wp2_with fail
  refine (eqIntSS_any _ _ _ _ _ _ _ _ _ ((FrR.rdR qg0)) (RdR.below ((FrR.rdR rs0)) (ext_tch (Ext.trans (Ext.trans (Ext.trans (Ext.trans (Ext.trans hb6 hb7) hb8) hb9) hb10) hb11) hT12 (fun k hk => Nat.le_trans (Nat.le_refl _) hk.1)))).mono ?_; rintro e w13 ⟨rfl, hb13⟩; rw [(eqRs_iff _ _).2 rfl]
  have fg0 := (FrR.below qg0 hb13)
  go_wp2_with fail
  refine (markIntSS_any _ _ _ _ _ _ _ _ fg0 (by omega) (by omega) (by omega)).mono ?_; rintro e w14 ⟨rfl, mg0, hT14⟩
  go_wp2_with fail
  refine (heldIntSS_any _ _ _ _ _ _ ((FrR.rdR mg0)) (by omega) (by omega) (by omega)).mono ?_; rintro e w' ⟨rfl, rfl⟩
  have hb15 : Ext w14 (World.drew w14) := (Below.refl _ _).drew
  go_wp2
  go_region_held3 (fun w' => (w'.cell? ⟨w.heap.size, 0, none⟩ = some (.int .i64 v0) ∧ w'.cell? ⟨w.heap.size, 1, none⟩ = some (.int .i64 v1) ∧ w'.cell? ⟨w.heap.size, 2, none⟩ = some (.int .i64 v2) ∧ w'.cell? ⟨w.heap.size, 3, none⟩ = some (.int .i64 v3) ∧ w'.cell? ⟨w.heap.size, 4, none⟩ = some (.int .i64 v4))) (first | exact hS _ (Ext.trans (ext_tch (Ext.trans (ext_tch (Ext.trans (Ext.trans (Ext.trans (Ext.trans (Ext.trans (Ext.trans (Ext.trans (Ext.trans (Ext.trans hb2 hb3) hb4) hb5) hb6) hb7) hb8) hb9) hb10) hb11) hT12 (fun k hk => Nat.le_trans (Below.size (Ext.trans (Ext.trans (Ext.trans hb2 hb3) hb4) hb5)) hk.1)) hb13) hT14 (fun k hk => Nat.le_trans (Below.size (Ext.trans (Ext.trans (Ext.trans (Ext.trans (Ext.trans hb2 hb3) hb4) hb5) hb6) hb7)) hk.1)) hb15) | exact hS _ (Ext.trans (Ext.trans (ext_tch (Ext.trans (ext_tch (Ext.trans (Ext.trans (Ext.trans (Ext.trans (Ext.trans (Ext.trans (Ext.trans (Ext.trans (Ext.trans hb2 hb3) hb4) hb5) hb6) hb7) hb8) hb9) hb10) hb11) hT12 (fun k hk => Nat.le_trans (Below.size (Ext.trans (Ext.trans (Ext.trans hb2 hb3) hb4) hb5)) hk.1)) hb13) hT14 (fun k hk => Nat.le_trans (Below.size (Ext.trans (Ext.trans (Ext.trans (Ext.trans (Ext.trans hb2 hb3) hb4) hb5) hb6) hb7)) hk.1)) hb15) hb16) | exact hS _ (Ext.trans (Ext.trans (Ext.trans (ext_tch (Ext.trans (ext_tch (Ext.trans (Ext.trans (Ext.trans (Ext.trans (Ext.trans (Ext.trans (Ext.trans (Ext.trans (Ext.trans hb2 hb3) hb4) hb5) hb6) hb7) hb8) hb9) hb10) hb11) hT12 (fun k hk => Nat.le_trans (Below.size (Ext.trans (Ext.trans (Ext.trans hb2 hb3) hb4) hb5)) hk.1)) hb13) hT14 (fun k hk => Nat.le_trans (Below.size (Ext.trans (Ext.trans (Ext.trans (Ext.trans (Ext.trans hb2 hb3) hb4) hb5) hb6) hb7)) hk.1)) hb15) hb16) hb17) | exact hS _ (Ext.trans (Ext.trans (Ext.trans (Ext.trans (ext_tch (Ext.trans (ext_tch (Ext.trans (Ext.trans (Ext.trans (Ext.trans (Ext.trans (Ext.trans (Ext.trans (Ext.trans (Ext.trans hb2 hb3) hb4) hb5) hb6) hb7) hb8) hb9) hb10) hb11) hT12 (fun k hk => Nat.le_trans (Below.size (Ext.trans (Ext.trans (Ext.trans hb2 hb3) hb4) hb5)) hk.1)) hb13) hT14 (fun k hk => Nat.le_trans (Below.size (Ext.trans (Ext.trans (Ext.trans (Ext.trans (Ext.trans hb2 hb3) hb4) hb5) hb6) hb7)) hk.1)) hb15) hb16) hb17) hb18)) (first | (go_at_call 12; refine (toIntSS_any _ _ _ _ _ (RdR.below (hg) (Ext.trans (ext_tch (Ext.trans (ext_tch (Ext.trans (Ext.trans (Ext.trans (Ext.trans (Ext.trans (Ext.trans (Ext.trans (Ext.trans (Ext.trans (Ext.trans hb1 hb2) hb3) hb4) hb5) hb6) hb7) hb8) hb9) hb10) hb11) hT12 (fun k hk => Nat.le_trans (Below.size (Ext.trans (Ext.trans (Ext.trans (Ext.trans hb1 hb2) hb3) hb4) hb5)) hk.1)) hb13) hT14 (fun k hk => Nat.le_trans (Below.size (Ext.trans (Ext.trans (Ext.trans (Ext.trans (Ext.trans (Ext.trans hb1 hb2) hb3) hb4) hb5) hb6) hb7)) hk.1)) hb15)) hzg htg).mono ?_; rintro e w16 ⟨Ax4, cx4, rfl, ox4, hb16⟩) | (go_at_call 13; refine (toMove_any _ _ _ _ _ _).mono ?_; rintro e w17 ⟨rfl, hb17⟩) | (go_at_call 19; refine (DoMove_any _ _ _ _ _ _ _ _ _ _ (RdR.below ((FrR.rdR ox4)) hb17) ).mono ?_; rintro e w18 ⟨Ah0, ch0, rfl, rh0, hb18⟩))
  go_wp2_with fail
  refine (eqIntSS_any _ _ _ _ _ _ _ _ _ ((FrR.rdR rh0)) (RdR.below ((FrR.rdR rs0)) (Ext.trans (Ext.trans (Ext.trans (Ext.trans (ext_tch (Ext.trans (ext_tch (Ext.trans (Ext.trans (Ext.trans (Ext.trans (Ext.trans hb6 hb7) hb8) hb9) hb10) hb11) hT12 (fun k hk => Nat.le_trans (Nat.le_refl _) hk.1)) hb13) hT14 (fun k hk => Nat.le_trans (Below.size (Ext.trans hb6 hb7)) hk.1)) hb15) hb16) hb17) hb18))).mono ?_; rintro e w19 ⟨rfl, hb19⟩; rw [(eqRs_iff _ _).2 rfl]
  go_wp2_with fail
  refine (heldIntSS_any _ _ _ _ _ _ (RdR.below ((FrR.rdR mg0)) (Ext.trans (Ext.trans (Ext.trans (Ext.trans hb15 hb16) hb17) hb18) hb19)) (by omega) (by omega) (by omega)).mono ?_; rintro e w' ⟨rfl, rfl⟩
  go_wp2
  go_ret
  exact ⟨rfl, (Ext.trans (Ext.trans (Ext.trans (Ext.trans (Ext.trans (ext_tch (Ext.trans (ext_tch (Ext.trans (Ext.trans (Ext.trans (Ext.trans (Ext.trans (Ext.trans (Ext.trans (Ext.trans (Ext.trans (Ext.trans hb1 hb2) hb3) hb4) hb5) hb6) hb7) hb8) hb9) hb10) hb11) hT12 (fun k hk => Nat.le_trans (Below.size (Ext.trans (Ext.trans (Ext.trans (Ext.trans hb1 hb2) hb3) hb4) hb5)) hk.1)) hb13) hT14 (fun k hk => Nat.le_trans (Below.size (Ext.trans (Ext.trans (Ext.trans (Ext.trans (Ext.trans (Ext.trans hb1 hb2) hb3) hb4) hb5) hb6) hb7)) hk.1)) hb15) hb16) hb17) hb18) hb19)⟩
end Go.Proofs.Ytbljkahdhckegaa
