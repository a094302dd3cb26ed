/-
  The law FnExactFaultMessage returns true at every input, and leaves all that was there as it was.
-/
import Derived.Test.YteahiiflgiimnaaMsA
import Derived.Test.YteahiiflgiimnaaFaB
import Derived.Test.YteahiiflgiimnaaOpen
namespace Go.Proofs.Yteahiiflgiimnaa
open Go.RowKit

set_option maxHeartbeats 2000000 in
theorem FnExactFaultMessage_walk (k a r : Int) (w : World) (_ : Fits k) (_ : Fits a) (_ : Fits r) :
    Calls Try.prog 6 #[.agg #[.int .i64 k, .int .i64 a, .int .i64 r]] w fun e w' => e = .returned (.bool true) ∧ Ext w w' := by
  obtain ⟨xs, hx⟩ : ∃ xs, mgW k a r = xs := ⟨_, rfl⟩
  obtain ⟨L, hL⟩ : ∃ L, mgL k a r = L := ⟨_, rfl⟩
  obtain ⟨N, hN⟩ : ∃ N, xs.length = N := ⟨_, rfl⟩
  have hN3 : N ≤ 3 := by rw [← hN, ← hx]; exact mgW_len
  have hspec : ∀ w, Calls Try.prog 27 #[.agg #[.int .i64 k, .int .i64 a, .int .i64 r]] w fun e w' => ∃ A c, e = .returned (.agg #[.int .i64 L, .slice A N c, .slice none 0 0]) ∧ Fr w' w.heap.size 3 1 (.slice A N c) N (cI xs) ∧ Ext w w' := fun w => by
    have := specFaultMessage_any k a r w
    rw [hx, hL, hN] at this; exact this
  have himpl : ∀ w, Calls Try.prog 28 #[.agg #[.int .i64 k, .int .i64 a, .int .i64 r]] w fun e w' => ∃ A c, e = .returned (.agg #[.int .i64 L, .slice A N c, .slice none 0 0]) ∧ Fr w' w.heap.size 3 1 (.slice A N c) N (cI xs) ∧ Ext w w' := fun w => by
    have := FaultMessage_any k a r w
    rw [hx, hL, hN] at this; exact this
  have hb0 : Ext w (w.alloc (.cells #[.int .i64 k, .int .i64 a, .int .i64 r] 24)) := (Below.refl _ _).alloc (Nat.le_refl _) _
  have F0 : FtAt (w.alloc (.cells #[.int .i64 k, .int .i64 a, .int .i64 r] 24)) w.heap.size k a r := FtAt.new w 24 k a r
  have F0' := Lib.hid F0
  obtain ⟨q0, q1, q2⟩ := F0
  clear hx hL
  go_enter Try.func6, Try.ntmps6
  go_wp2_with fail
  refine (toFault_any _ _ _ _).mono ?_; rintro e w1 ⟨rfl, hb1⟩
  go_wp2_with fail
  refine (hspec _).mono ?_; rintro e w2 ⟨As, cs, rfl, Fs, hb2⟩
  have hv2 : Ext w2 (w2.alloc (.cells #[.int .i64 L, .slice As N cs, .slice none 0 0] 51)) := (Below.refl _ _).alloc (Nat.le_refl _) _
  have M3 : Hid (MsAt (w2.alloc (.cells #[.int .i64 L, .slice As N cs, .slice none 0 0] 51)) w2.heap.size (.int .i64 L) (.slice As N cs) (.slice none 0 0)) := MsAt.new w2 51 _ _ _
  have Rs := (Fs.below hv2).rd'.2
  have F2 := Lib.hid (F0'.out.below ((hb1.trans hb2).trans hv2))
  have hbb2 := ((hb0.trans hb1).trans hb2).trans hv2
  clear q0 q1 q2 F0' hb0 hb1 hb2 hv2 Fs
  obtain ⟨q0, q1, q2⟩ := F2.out
  go_wp2_with fail
  refine (toFault_any _ _ _ _).mono ?_; rintro e w3 ⟨rfl, hb3⟩
  go_wp2_with fail
  refine (himpl _).mono ?_; rintro e w4 ⟨Ag, cg, rfl, Fg, hb4⟩
  have hv4 : Ext w4 (w4.alloc (.cells #[.int .i64 L, .slice Ag N cg, .slice none 0 0] 51)) := (Below.refl _ _).alloc (Nat.le_refl _) _
  have M4 : Hid (MsAt (w4.alloc (.cells #[.int .i64 L, .slice Ag N cg, .slice none 0 0] 51)) w4.heap.size (.int .i64 L) (.slice Ag N cg) (.slice none 0 0)) := MsAt.new w4 51 _ _ _
  have hbk := Fg.blkB
  have E4 := (hb3.trans hb4).trans hv4
  have hs3 := hb3.size
  clear q0 q1 q2
  have M3b := Lib.hid (M3.out.below E4)
  obtain ⟨p0, p1, p2⟩ := M3b.out
  obtain ⟨q0, q1, q2⟩ := M4.out
  go_wp2_with fail
  refine (eqMessage_self L Ag As none none N cg cs 0 0 0 xs [] _ ((Fg.below hv4).rd'.2) (Rs.below E4) (Rd.nil (by omega)) (Rd.nil (by omega))).mono ?_; rintro e w5 ⟨rfl, hb5⟩
  have M5 := Lib.hid (M4.out.below hb5)
  have Fg5 := (Fg.below hv4).below hb5
  clear p0 p1 p2 q0 q1 q2 M3b M4 Fg
  obtain ⟨q0, q1, q2⟩ := M5.out
  go_wp2_with fail
  refine (markMessage_any L Ag N cg _ xs 1 _ Fg5 hN (by omega) (by omega) (by omega) (fun b => w3.heap.size ≤ b ∧ b < w4.heap.size) hbk).mono ?_; rintro e w6 ⟨rfl, Fm, hT6⟩
  have E6 := ext_tch (E4.trans hb5) hT6 (fun k hk => Nat.le_trans hs3 hk.1)
  have M6 := Lib.hid (M5.out.tch hT6 (fun h => by omega))
  have F6 := Lib.hid (F2.out.below E6)
  have Rm := Fm.rd'.2
  clear q0 q1 q2 M5 Fg5 hb5 hT6 hbk F2 E4 hb3 hb4 hv4
  obtain ⟨q0, q1, q2⟩ := M6.out
  go_wp2_with fail
  refine (heldMessage_any L Ag N cg 1 _ Rm (by omega) (by omega) (by omega)).mono ?_; rintro e w7 ⟨rfl, hb7⟩
  have M7 := Lib.hid (M6.out.below hb7)
  have F7 := Lib.hid (F6.out.below hb7)
  have Rm7 := Rm.below hb7
  have E7 := E6.trans hb7
  clear q0 q1 q2 M6 F6 Rm Fm E6 hb7
  obtain ⟨q0, q1, q2⟩ := F7.out
  go_wp2_with fail
  refine (toFault_any _ _ _ _).mono ?_; rintro e w8 ⟨rfl, hb8⟩
  go_wp2_with fail
  refine (himpl _).mono ?_; rintro e w9 ⟨Ah, ch, rfl, Fh, hb9⟩
  have hv9 : Ext w9 (w9.alloc (.cells #[.int .i64 L, .slice Ah N ch, .slice none 0 0] 51)) := (Below.refl _ _).alloc (Nat.le_refl _) _
  have M9 : Hid (MsAt (w9.alloc (.cells #[.int .i64 L, .slice Ah N ch, .slice none 0 0] 51)) w9.heap.size (.int .i64 L) (.slice Ah N ch) (.slice none 0 0)) := MsAt.new w9 51 _ _ _
  have E9 := (hb8.trans hb9).trans hv9
  have M3b := Lib.hid (M3.out.below (E7.trans E9))
  clear q0 q1 q2 F7
  obtain ⟨p0, p1, p2⟩ := M3b.out
  obtain ⟨q0, q1, q2⟩ := M9.out
  go_wp2_with fail
  refine (eqMessage_self L Ah As none none N ch cs 0 0 0 xs [] _ ((Fh.below hv9).rd'.2) (Rs.below (E7.trans E9)) (Rd.nil (by omega)) (Rd.nil (by omega))).mono ?_; rintro e w10 ⟨rfl, hb10⟩
  have M10 := Lib.hid (M7.out.below (E9.trans hb10))
  have Rm10 := Rm7.below (E9.trans hb10)
  clear p0 p1 p2 q0 q1 q2 M3b M9 M3 M7 Rm7 Rs Fh
  obtain ⟨q0, q1, q2⟩ := M10.out
  go_wp2_with fail
  refine (heldMessage_any L Ag N cg 1 _ Rm10 (by omega) (by omega) (by omega)).mono ?_; rintro e w11 ⟨rfl, hb11⟩
  clear q0 q1 q2 M10 Rm10
  go_wp2
  go_ret
  exact ⟨rfl, hbb2.trans (E7.trans (E9.trans (hb10.trans hb11)))⟩
end Go.Proofs.Yteahiiflgiimnaa
