/-
  The law FnExactTimersValid returns true at every input, and leaves all that was there as it was: the walk.
-/
import Derived.Test.YthjbafafkaoomaaTmB
import Derived.Test.YthjbafafkaoomaaOpen
namespace Go.Proofs.Ythjbafafkaoomaa
open Go.RowKit
set_option linter.unusedVariables false

set_option maxHeartbeats 400000 in
theorem FnExactTimersValid_walk (As : Option Addr) (ns cs : Nat) (s : List (Int × Int)) (w : World) (hs : Rd w 2 As ns cs (c2 s)) (Fs : ∀ m ∈ s, Fits m.1 ∧ Fits m.2) :
    Calls Try.prog 3 #[.slice As ns cs] w fun e w' => e = .returned (.bool true) ∧ Ext w w' := by
  have hles := hs.le
  have htops := hs.top
  have HLs := Lib.hid hs.len2
  by_cases hn : ns ≤ 1048576
  · have hns := hn
    have hss : szB 1048576 ns = 1048576 - ns := by unfold szB; rw [if_neg (by omega)]
    go_enter Try.func3, Try.ntmps3
    go_wp2_with fail
    refine (szTimerS_any _ _ _ _ _ (by omega) (by omega) (by omega)).mono ?_; rintro e w' ⟨rfl, rfl⟩; rw [hss]
    go_wp2_with fail
    refine (toTimerS_any _ _ _ _ _ (hs) hns).mono ?_; rintro e w1 ⟨Ax1, cx1, rfl, ox1, hb1⟩
    go_wp2_with fail
    refine (specTimersValid_any _ _ _ _ _ ((Rd.of_row ox1)) ).mono ?_; rintro e w2 ⟨rfl, hb2⟩
    go_wp2_with fail
    refine (toTimerS_any _ _ _ _ _ (Rd.below (hs) (Ext.trans hb1 hb2)) hns).mono ?_; rintro e w3 ⟨Ax2, cx2, rfl, ox2, hb3⟩
    go_wp2_with fail
    refine (TimersValid_any _ _ _ _ _ ((Rd.of_row ox2)) ).mono ?_; rintro e w4 ⟨rfl, hb4⟩
    go_wp2_with fail
    refine (toTimerS_any _ _ _ _ _ (Rd.below (hs) (Ext.trans (Ext.trans (Ext.trans hb1 hb2) hb3) hb4)) hns).mono ?_; rintro e w5 ⟨Ax3, cx3, rfl, ox3, hb5⟩
    go_wp2_with fail
    refine (eqTimerS_any _ _ _ _ _ _ _ _ _ (Rd.below ((Rd.of_row ox2)) (Ext.trans hb4 hb5)) ((Rd.of_row ox3))).mono ?_; rintro e w6 ⟨rfl, hb6⟩; rw [(eqTms_iff _ _).2 rfl]
    go_wp2
    go_ret
    exact ⟨rfl, (Ext.trans (Ext.trans (Ext.trans (Ext.trans (Ext.trans hb1 hb2) hb3) hb4) hb5) hb6)⟩
  · have hs : szB 1048576 ns = -1 := by unfold szB; rw [if_pos (by omega)]
    go_enter Try.func3, Try.ntmps3
    go_wp2_with (go_at_call 14; refine (szTimerS_any _ _ _ _ _ (by omega) (by omega) (by omega)).mono ?_; rintro e w' ⟨rfl, rfl⟩; rw [hs])
    go_ret
    exact ⟨rfl, Below.refl _ _⟩
end Go.Proofs.Ythjbafafkaoomaa
