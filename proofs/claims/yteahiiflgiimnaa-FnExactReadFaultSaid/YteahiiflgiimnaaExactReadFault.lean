/-
  The law FnExactReadFault returns true at every input, and leaves all that was there as it was.
-/
import Derived.Test.YteahiiflgiimnaaMsC
import Derived.Test.YteahiiflgiimnaaMsD
import Derived.Test.YteahiiflgiimnaaMsF
import Derived.Test.YteahiiflgiimnaaFaB
import Derived.Test.YteahiiflgiimnaaOpen
import Derived.Deep.RegionHeld3
namespace Go.Proofs.Yteahiiflgiimnaa
open Go.RowKit

set_option maxRecDepth 10000 in
set_option maxHeartbeats 4000000 in
theorem FnExactReadFault_walk (l : Int) (A : Option Addr) (n c : Nat) (xs : List Int) (B : Option Addr) (m d : Nat) (cs : List (Int × Int × Int × Int)) (w : World) (Fl : Fits l) (h : Rd w 1 A n c (cI xs)) (_ : ∀ z ∈ xs, (Lit.int .i64 z).wf = true) (g : Rd w 4 B m d (c4 cs)) (_ : ∀ x ∈ cs, Fits x.1 ∧ Fits x.2.1 ∧ Fits x.2.2.1 ∧ Fits x.2.2.2) :
    Calls Try.prog 7 #[.agg #[.int .i64 l, .slice A n c, .slice B m d]] w fun e w' => e = .returned (.bool true) ∧ Ext w w' := by
  have hl0 : -9223372036854775808 ≤ l := Fl.1
  have hl9 : l ≤ 9223372036854775807 := Fl.2
  have hle := h.le
  have htop := h.top
  have hle' := g.le
  have htop' := g.top
  have hb0 : Ext w (w.alloc (.cells #[.int .i64 l, .slice A n c, .slice B m d] 58)) := (Below.refl _ _).alloc (Nat.le_refl _) _
  have M0 : MsAt (w.alloc (.cells #[.int .i64 l, .slice A n c, .slice B m d] 58)) w.heap.size (.int .i64 l) (.slice A n c) (.slice B m d) := MsAt.new w 58 _ _ _
  obtain ⟨q0, q1, q2⟩ := M0
  by_cases hnm : n + m ≤ 1048576
  case neg =>
    have e1 : szM n m = -1 := by unfold szM; rw [if_pos (by omega)]
    have E1 := Lib.hid e1
    clear e1
    go_enter Try.func7, Try.ntmps7
    go_wp2_with fail
    refine (szMessage_any _ _ _ _ _ _ _ _ (by omega) (by omega)).mono ?_; rintro e w1 ⟨rfl, hb1⟩; rw [E1.out]
    go_wp2
    go_ret
    exact ⟨rfl, hb0.trans hb1⟩
  have hn : n ≤ 1048576 := by omega
  have hm : m ≤ 1048576 := by omega
  obtain ⟨L, hL⟩ : ∃ L : Int, szM n m = L := ⟨_, rfl⟩
  have hL0 : 0 ≤ L := by rw [← hL]; unfold szM; rw [if_neg (by omega)]; omega
  have HL := Lib.hid hL
  obtain ⟨W0, hW0⟩ : ∃ W0, W0 = (w.alloc (.cells #[.int .i64 l, .slice A n c, .slice B m d] 58)) := ⟨_, rfl⟩
  have M0 : MsAt W0 w.heap.size (.int .i64 l) (.slice A n c) (.slice B m d) := by rw [hW0]; exact ⟨q0, q1, q2⟩
  have R0 := h.below hb0
  have C0 := g.below hb0
  rw [← hW0] at hb0 R0 C0 q0 q1 q2
  clear h g hnm hL
  -- what is read
  obtain ⟨R, hR⟩ : ∃ R, rdF l xs m = R := ⟨_, rfl⟩
  obtain ⟨⟨k, a, r⟩, ok⟩ := R
  have hspec : ∀ (w : World) (A B : Option Addr) (c d : Nat), Rd w 1 A n c (cI xs) → Calls Try.prog 33 #[.agg #[.int .i64 l, .slice A n c, .slice B m d]] w fun e w' => e = .returned (.tuple #[.agg #[.int .i64 k, .int .i64 a, .int .i64 r], .bool ok]) ∧ Ext w w' := fun w A B c d h => by
    have := specReadFault_any l A B n c m d xs w h
    rw [hR] at this; exact this
  have himpl : ∀ (w : World) (A B : Option Addr) (c d : Nat), Rd w 1 A n c (cI xs) → Calls Try.prog 35 #[.agg #[.int .i64 l, .slice A n c, .slice B m d]] w fun e w' => e = .returned (.tuple #[.agg #[.int .i64 k, .int .i64 a, .int .i64 r], .bool ok]) ∧ Ext w w' := fun w A B c d h => by
    have := ReadFault_any l A B n c m d xs w h hl0 hl9
    rw [hR] at this; exact this
  clear hR
  go_enter Try.func7, Try.ntmps7
  go_upto_region 1 with fail
  rw [← hW0]
  clear hW0
  go_wp2_with fail
  refine (szMessage_any _ _ _ _ _ _ _ _ (by omega) (by omega)).mono ?_; rintro e w1 ⟨rfl, hb1⟩; rw [HL.out]
  have M1 := M0.below hb1
  have R1 := R0.below hb1
  have C1 := C0.below hb1
  have hbb1 := hb0.trans hb1
  clear q0 q1 q2 M0 R0 C0 hb0 hb1 HL
  have M1' := Lib.hid M1
  obtain ⟨q0, q1, q2⟩ := M1
  go_wp2_with fail
  refine (toMessage_any _ _ _ _ _ _ _ _ _ _ R1 C1 hn hm).mono ?_; rintro e w2 ⟨A2, c2, B2, d2, rfl, R2, C2, hb2⟩
  go_wp2_with fail
  refine (hspec _ _ _ _ _ R2).mono ?_; rintro e w3 ⟨rfl, hb3⟩
  have hv3 : Ext w3 (w3.alloc (.cells #[.int .i64 k, .int .i64 a, .int .i64 r] 32)) := (Below.refl _ _).alloc (Nat.le_refl _) _
  have F3 : FtAt (w3.alloc (.cells #[.int .i64 k, .int .i64 a, .int .i64 r] 32)) w3.heap.size k a r := FtAt.new w3 32 k a r
  have E3 := (hb2.trans hb3).trans hv3
  have M3 := M1'.out.below E3
  have R3 := R1.below E3
  have C3 := C1.below E3
  have hbb3 := hbb1.trans E3
  clear q0 q1 q2 M1' R1 C1 hbb1 R2 C2 hb2 hb3 hv3 E3
  have M3' := Lib.hid M3
  have F3' := Lib.hid F3
  clear F3
  obtain ⟨q0, q1, q2⟩ := M3
  go_wp2_with fail
  refine (toMessage_any _ _ _ _ _ _ _ _ _ _ R3 C3 hn hm).mono ?_; rintro e w4 ⟨A4, c4, B4, d4, rfl, R4, C4, hb4⟩
  have hv4 : Ext w4 (w4.alloc (.cells #[.int .i64 l, .slice A4 n c4, .slice B4 m d4] 51)) := (Below.refl _ _).alloc (Nat.le_refl _) _
  have X4 : MsAt (w4.alloc (.cells #[.int .i64 l, .slice A4 n c4, .slice B4 m d4] 51)) w4.heap.size (.int .i64 l) (.slice A4 n c4) (.slice B4 m d4) := MsAt.new w4 51 _ _ _
  have E4 := hb4.trans hv4
  have M4 := Lib.hid (M3'.out.below E4)
  have F4 := Lib.hid (F3'.out.below E4)
  have R4i := R3.below E4
  have C4i := C3.below E4
  have R4x := R4.below hv4
  have C4x := C4.below hv4
  have hbb4 := hbb3.trans E4
  clear q0 q1 q2 M3' F3' R3 C3 hbb3 R4 C4 hb4 hv4 E4
  have X4' := Lib.hid X4
  obtain ⟨x0, x1, x2⟩ := X4
  go_wp2_with fail
  refine (himpl _ _ _ _ _ R4x).mono ?_; rintro e w5 ⟨rfl, hb5⟩
  have hv5 : Ext w5 (w5.alloc (.cells #[.int .i64 k, .int .i64 a, .int .i64 r] 32)) := (Below.refl _ _).alloc (Nat.le_refl _) _
  have G5 : FtAt (w5.alloc (.cells #[.int .i64 k, .int .i64 a, .int .i64 r] 32)) w5.heap.size k a r := FtAt.new w5 32 k a r
  have E5 := hb5.trans hv5
  have M5 := M4.out.below E5
  have F5 := F4.out.below E5
  have X5 := X4'.out.below E5
  have R5i := R4i.below E5
  have C5i := C4i.below E5
  have R5x := R4x.below E5
  have C5x := C4x.below E5
  have hbb5 := hbb4.trans E5
  clear x0 x1 x2 M4 F4 X4' R4i C4i R4x C4x hbb4 hb5 hv5 E5
  obtain ⟨f0, f1, f2⟩ := F5
  obtain ⟨g0, g1, g2⟩ := G5
  go_wp2_with fail
  refine (eqFault_any _ _ _ _ _ _ _).mono ?_; rintro e w6 ⟨rfl, hb6⟩; rw [eqFt_self]
  have M6 := M5.below hb6
  have X6 := X5.below hb6
  have R6 := R5i.below hb6
  have C6 := C5i.below hb6
  have R6x := R5x.below hb6
  have C6x := C5x.below hb6
  have hbb6 := hbb5.trans hb6
  clear f0 f1 f2 g0 g1 g2 M5 X5 R5i C5i R5x C5x hbb5 hb6
  have hok : (ok != ok) = false := by cases ok <;> rfl
  obtain ⟨g, hg⟩ : ∃ g, w.heap.size = g := ⟨_, rfl⟩
  rw [hg] at M6
  have M6' := Lib.hid M6
  have X6' := Lib.hid X6
  have hS : ∀ w', Ext w6 w' → (w'.cell? ⟨w4.heap.size, 0, none⟩ = some (.int .i64 l) ∧ w'.cell? ⟨w4.heap.size, 1, none⟩ = some (.slice A4 n c4) ∧ w'.cell? ⟨w4.heap.size, 2, none⟩ = some (.slice B4 m d4) ∧ w'.cell? ⟨g, 0, none⟩ = some (.int .i64 l) ∧ w'.cell? ⟨g, 1, none⟩ = some (.slice A n c) ∧ w'.cell? ⟨g, 2, none⟩ = some (.slice B m d)) := fun w' he =>
    ⟨(X6'.out.below he).c0, (X6'.out.below he).c1, (X6'.out.below he).c2, (M6'.out.below he).c0, (M6'.out.below he).c1, (M6'.out.below he).c2⟩
  have hb7 : Ext w6 (World.drew w6) := (Below.refl _ _).drew
  have R7 := R6.below hb7
  have C7 := C6.below hb7
  clear M6 X6 R6 C6
  go_wp2
  go_region_held3 (fun w' => (w'.cell? ⟨w4.heap.size, 0, none⟩ = some (.int .i64 l) ∧ w'.cell? ⟨w4.heap.size, 1, none⟩ = some (.slice A4 n c4) ∧ w'.cell? ⟨w4.heap.size, 2, none⟩ = some (.slice B4 m d4) ∧ w'.cell? ⟨g, 0, none⟩ = some (.int .i64 l) ∧ w'.cell? ⟨g, 1, none⟩ = some (.slice A n c) ∧ w'.cell? ⟨g, 2, none⟩ = some (.slice B m d))) (first | exact hS _ hb7 | exact hS _ (Ext.trans hb7 hb8) | exact hS _ (Ext.trans (Ext.trans hb7 hb8) hb9)) (first | (go_at_call 34; refine (toMessage_any _ _ _ _ _ _ _ _ _ _ R7 C7 hn hm).mono ?_; rintro e w8 ⟨A8, c8, B8, d8, rfl, R8, C8, hb8⟩) | (go_at_call 29; refine (eqMessage_self _ _ _ _ _ _ _ _ _ _ _ _ _ _ (R6x.below (Ext.trans hb7 hb8)) R8 (C6x.below (Ext.trans hb7 hb8)) C8).mono ?_; rintro e w9 ⟨rfl, hb9⟩))
  go_wp2
  go_ret
  exact ⟨rfl, hbb6.trans (Ext.trans (Ext.trans hb7 hb8) hb9)⟩
end Go.Proofs.Yteahiiflgiimnaa
