/-
  The law FnExactFaultOf returns true at every input, and leaves all that was there as it was: the walk.
-/
import Derived.Test.YteahiiflgiimnaaFaA
import Derived.Test.YteahiiflgiimnaaFaB
import Derived.Test.YteahiiflgiimnaaOpen
namespace Go.Proofs.Yteahiiflgiimnaa
open Go.RowKit
set_option linter.unusedVariables false

set_option maxHeartbeats 400000 in
theorem FnExactFaultOf_walk (As : Option Addr) (ns cs : Nat) (s : List Mp) (a : Int) (r : Int) (w : World) (hs : Rd w 3 As ns cs (c3 s)) (Fs : ∀ m ∈ s, Fits m.1 ∧ Fits m.2.1 ∧ Fits m.2.2) (Fa : Fits a) (Fr : Fits r) :
    Calls Try.prog 4 #[.slice As ns cs, .int .i64 a, .int .i64 r] w fun e w' => e = .returned (.bool true) ∧ Ext w w' := by
  have hles := hs.le
  have htops := hs.top
  have HLs := Lib.hid hs.len3
  by_cases hns : ns ≤ 1048576
  rotate_left
  · have hs : szB (1048576) ns = -1 := by unfold szB; rw [if_pos (by omega)]
    go_enter Try.func4, Try.ntmps4
    go_wp2_with fail
    refine (szMappingS_any _ _ _ _ _ (by omega) (by omega) (by omega)).mono ?_; rintro e w' ⟨rfl, rfl⟩; rw [hs]
    go_wp2
    go_ret
    exact ⟨rfl, Below.refl _ _⟩
  have hss : szB (1048576) ns = 1048576 - ns := by unfold szB; rw [if_neg (by omega)]
  go_enter Try.func4, Try.ntmps4
  go_wp2_with fail
  refine (szMappingS_any _ _ _ _ _ (by omega) (by omega) (by omega)).mono ?_; rintro e w' ⟨rfl, rfl⟩; rw [hss]
  have hzs : ns ≤ 1048576 := by omega
  go_wp2_with fail
  refine (toMappingS_any _ _ _ _ _ (hs) (by omega)).mono ?_; rintro e w1 ⟨Ax1, cx1, rfl, ox1, hb1⟩
  go_wp2_with fail
  refine (specFaultOf_any _ _ _ _ _ _ _ ((Rd.of_row ox1)) ).mono ?_; rintro e w2 ⟨rfl, hb2⟩
  obtain ⟨x, y, z, hf⟩ : ∃ x y z, foR s a r = (x, y, z) := ⟨_, _, _, rfl⟩
  have HF := Lib.hid hf
  rw [hf]
  simp only
  clear hf
  have hv : Ext w2 (w2.alloc (.cells #[.int .i64 x, .int .i64 y, .int .i64 z] 32)) := (Below.refl _ _).alloc (Nat.le_refl _) _
  have c0 : (w2.alloc (.cells #[.int .i64 x, .int .i64 y, .int .i64 z] 32)).cell? ⟨w2.heap.size, 0, none⟩ = some (.int .i64 x) := by rw [World.cell?_alloc_new]; rfl
  have c1 : (w2.alloc (.cells #[.int .i64 x, .int .i64 y, .int .i64 z] 32)).cell? ⟨w2.heap.size, 1, none⟩ = some (.int .i64 y) := by rw [World.cell?_alloc_new]; rfl
  have c2 : (w2.alloc (.cells #[.int .i64 x, .int .i64 y, .int .i64 z] 32)).cell? ⟨w2.heap.size, 2, none⟩ = some (.int .i64 z) := by rw [World.cell?_alloc_new]; rfl
  have hbv := (hb1.trans hb2).trans hv
  have hsv := hs.below hbv
  go_wp2_with fail
  refine (toMappingS_any _ _ _ _ _ hsv (by omega)).mono ?_; rintro e w3 ⟨Ax2, cx2, rfl, ox2, hb3⟩
  go_wp2_with fail
  refine (FaultOf_any _ _ _ _ _ _ _ ((Rd.of_row ox2)) ).mono ?_; rintro e w4 ⟨rfl, hb4⟩
  rw [HF.out]
  simp only
  have hv2 : Ext w4 (w4.alloc (.cells #[.int .i64 x, .int .i64 y, .int .i64 z] 32)) := (Below.refl _ _).alloc (Nat.le_refl _) _
  have d0 := later_cell c0 ⟨_, (hb3.trans hb4).trans hv2⟩
  have d1 := later_cell c1 ⟨_, (hb3.trans hb4).trans hv2⟩
  have d2 := later_cell c2 ⟨_, (hb3.trans hb4).trans hv2⟩
  go_wp2_with fail
  refine (eqFault_any _ _ _ _ _ _ _).mono ?_; rintro e w5 ⟨rfl, hb5⟩; rw [eqFt_self]
  have hbw := ((hb3.trans hb4).trans hv2).trans hb5
  have hsw := hs.below (hbv.trans hbw)
  go_wp2_with fail
  refine (toMappingS_any _ _ _ _ _ hsw (by omega)).mono ?_; rintro e w6 ⟨Ax3, cx3, rfl, ox3, hb6⟩
  go_wp2_with fail
  refine (eqMappingS_any _ _ _ _ _ _ _ _ _ (Rd.below ((Rd.of_row ox2)) ((hb4.trans hv2).trans (hb5.trans hb6))) ((Rd.of_row ox3))).mono ?_; rintro e w7 ⟨rfl, hb7⟩; rw [(eqMs_iff _ _).2 rfl]
  go_wp2
  go_ret
  exact ⟨rfl, (hbv.trans hbw).trans (hb6.trans hb7)⟩
end Go.Proofs.Yteahiiflgiimnaa
