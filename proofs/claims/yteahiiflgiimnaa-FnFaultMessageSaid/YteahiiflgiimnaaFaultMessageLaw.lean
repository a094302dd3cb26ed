/-
  The law FnFaultMessage returns true at every input, and leaves all that was there as it was: the walk.
-/
import Derived.Test.YteahiiflgiimnaaMsC
import Derived.Test.YteahiiflgiimnaaMsE
import Derived.Test.YteahiiflgiimnaaMpS
import Derived.Test.YteahiiflgiimnaaAlive
import Derived.Deep.RegionHeld3
namespace Go.Proofs.Yteahiiflgiimnaa
open Go.RowKit

theorem told_msg {k a r : Int} (h : toldB k a r = true) : inB (100 + k) 0 9999 = true ∧ (([a / 256, a % 256, r] : List Int).any fun z => !mOk z) = false ∧ rdF (100 + k) [a / 256, a % 256, r] 0 = ((k, a, r), true) := by
  obtain ⟨hk, ha, hr⟩ := told_in h
  refine ⟨inB_iff.2 (by omega), ?_, ?_⟩
  · have h1 : mOk (a / 256) = true := inB_iff.2 (by omega)
    have h2 : mOk (a % 256) = true := inB_iff.2 (by omega)
    have h3 : mOk r = true := inB_iff.2 (by omega)
    simp [h1, h2, h3]
  · rw [rdF_yes (inB_iff.2 (by omega)) (inB_iff.2 (by omega)) (inB_iff.2 (by omega)) (inB_iff.2 (by omega))]
    rw [show 100 + k - 100 = k by omega, show a / 256 * 256 + a % 256 = a by omega]

set_option maxRecDepth 10000 in
set_option maxHeartbeats 4000000 in
theorem FnFaultMessage_walk (A : Option Addr) (n0 c : Nat) (code : List Int) (w : World) (h0 : Rd w 1 A n0 c (code.map (Value.int .u8))) (F0 : ∀ z ∈ code, (Lit.int .u8 z).wf = true) :
    Calls Try.prog 9 #[.slice A n0 c] w fun e w' => e = .returned (.bool true) ∧ Ext w w' := by
  obtain ⟨bs, hbs⟩ := bytes_of F0
  rw [hbs] at h0
  have hle := h0.le
  have htop := h0.top
  by_cases hn : 1048576 < n0
  · go_enter Try.func9, Try.ntmps9
    go_wp2
    go_ret
    exact ⟨rfl, Below.refl _ _⟩
  go_enter Try.func9, Try.ntmps9
  go_wp2_with fail
  refine (DrawFaultMessage_any _ _ _ _ _ h0).mono ?_; rintro e w1 ⟨k, a, r, rfl, hb1⟩
  obtain ⟨xs, hx⟩ : ∃ xs, mgW k a r = xs := ⟨_, rfl⟩
  obtain ⟨L, hL⟩ : ∃ L, mgL k a r = L := ⟨_, rfl⟩
  obtain ⟨N, hN⟩ : ∃ N, xs.length = N := ⟨_, rfl⟩
  have hspec : ∀ w, Calls Try.prog 27 #[.agg #[.int .i64 k, .int .i64 a, .int .i64 r]] w fun e w' => ∃ A c, e = .returned (.agg #[.int .i64 L, .slice A N c, .slice none 0 0]) ∧ Fr w' w.heap.size 3 1 (.slice A N c) N (cI xs) ∧ Ext w w' := fun w => by
    have := specFaultMessage_any k a r w
    rw [hx, hL, hN] at this; exact this
  have himpl : ∀ w, Calls Try.prog 28 #[.agg #[.int .i64 k, .int .i64 a, .int .i64 r]] w fun e w' => ∃ A c, e = .returned (.agg #[.int .i64 L, .slice A N c, .slice none 0 0]) ∧ Fr w' w.heap.size 3 1 (.slice A N c) N (cI xs) ∧ Ext w w' := fun w => by
    have := FaultMessage_any k a r w
    rw [hx, hL, hN] at this; exact this
  have hv1 : Ext w1 (w1.alloc (.cells #[.int .i64 k, .int .i64 a, .int .i64 r] 32)) := (Below.refl _ _).alloc (Nat.le_refl _) _
  have F1 : FtAt (w1.alloc (.cells #[.int .i64 k, .int .i64 a, .int .i64 r] 32)) w1.heap.size k a r := FtAt.new w1 32 k a r
  have F1' := Lib.hid F1
  obtain ⟨q0, q1, q2⟩ := F1
  have hbb1 := hb1.trans hv1
  clear h0 F0 hbs hb1 hv1
  go_wp2_with fail
  refine (himpl _).mono ?_; rintro e w2 ⟨Ag, cg, rfl, Fg, hb2⟩
  have hv2 : Ext w2 (w2.alloc (.cells #[.int .i64 L, .slice Ag N cg, .slice none 0 0] 51)) := (Below.refl _ _).alloc (Nat.le_refl _) _
  have M2 : MsAt (w2.alloc (.cells #[.int .i64 L, .slice Ag N cg, .slice none 0 0] 51)) w2.heap.size (.int .i64 L) (.slice Ag N cg) (.slice none 0 0) := MsAt.new w2 51 _ _ _
  have F2 := F1'.out.below (hb2.trans hv2)
  have Rg := (Fg.below hv2).rd'.2
  have hbb2 := hbb1.trans (hb2.trans hv2)
  clear q0 q1 q2 F1' hb2 hv2 hbb1 Fg
  have M2' := Lib.hid M2
  have F2' := Lib.hid F2
  obtain ⟨g, hg⟩ : ∃ g, w2.heap.size = g := ⟨_, rfl⟩
  obtain ⟨g1, hg1⟩ : ∃ g1, w1.heap.size = g1 := ⟨_, rfl⟩
  obtain ⟨V, hV⟩ : ∃ V, V = (w2.alloc (.cells #[.int .i64 L, .slice Ag N cg, .slice none 0 0] 51)) := ⟨_, rfl⟩
  rw [← hV] at M2 F2 Rg hbb2 M2' F2'
  rw [hg] at M2 M2'
  rw [hg1] at F2 F2'
  have hS : ∀ w', Ext V w' → (w'.cell? ⟨g, 0, none⟩ = some (.int .i64 L) ∧ w'.cell? ⟨g, 1, none⟩ = some (.slice Ag N cg) ∧ w'.cell? ⟨g, 2, none⟩ = some (.slice none 0 0) ∧ w'.cell? ⟨g1, 0, none⟩ = some (.int .i64 k) ∧ w'.cell? ⟨g1, 1, none⟩ = some (.int .i64 a) ∧ w'.cell? ⟨g1, 2, none⟩ = some (.int .i64 r)) := fun w' he =>
    ⟨(M2'.out.below he).c0, (M2'.out.below he).c1, (M2'.out.below he).c2, (F2'.out.below he).c0, (F2'.out.below he).c1, (F2'.out.below he).c2⟩
  have hb3 : Ext V (World.drew V) := (Below.refl _ _).drew
  obtain ⟨m0, m1, m2⟩ := M2
  obtain ⟨f0, f1, f2⟩ := F2
  go_upto_region 5 with fail
  rw [← hV]
  clear hV
  go_region_held3 (fun w' => (w'.cell? ⟨g, 0, none⟩ = some (.int .i64 L) ∧ w'.cell? ⟨g, 1, none⟩ = some (.slice Ag N cg) ∧ w'.cell? ⟨g, 2, none⟩ = some (.slice none 0 0) ∧ w'.cell? ⟨g1, 0, none⟩ = some (.int .i64 k) ∧ w'.cell? ⟨g1, 1, none⟩ = some (.int .i64 a) ∧ w'.cell? ⟨g1, 2, none⟩ = some (.int .i64 r))) (first | exact hS _ hb3 | exact hS _ (Ext.trans hb3 hb4) | exact hS _ (Ext.trans (Ext.trans hb3 hb4) hb5)) (first | (go_at_call 27; refine (hspec _).mono ?_; rintro e w4 ⟨As, cs, rfl, Fs, hb4⟩) | (go_at_call 41; refine (sameMessage_same _ _ _ _ _ _ _ _ _ _ _ _ (Rg.below (Ext.trans hb3 hb4)) Fs.rd'.2).mono ?_; rintro e w5 ⟨rfl, hb5⟩))
  have E5 := (Ext.trans (Ext.trans hb3 hb4) hb5)
  have M5 := Lib.hid (M2'.out.below E5)
  have F5 := Lib.hid (F2'.out.below E5)
  have R5 := Rg.below E5
  have hbb5 := hbb2.trans E5
  clear m0 m1 m2 f0 f1 f2 M2' F2' Rg hbb2 hb3 hb4 hb5 E5 hS Fs
  obtain ⟨m0, m1, m2⟩ := M5.out
  cases ht : toldB k a r
  · obtain rfl : xs = [] := by rw [← hx]; exact mgW_no ht
    obtain rfl : L = 0 := by rw [← hL]; exact mgL_no ht
    obtain rfl : N = 0 := hN.symm
    clear hx hL hN ht
    go_wp2_with fail
    refine (sameMessage_same 0 _ none none none 0 _ 0 _ 0 [] _ R5 (Rd.nil (by omega))).mono ?_; rintro e w6 ⟨rfl, hb6⟩
    clear m0 m1 m2 M5 F5 R5
    go_wp2_with ((go_at_call 25; refine (alive_any _).mono ?_; rintro e w9 ⟨rfl, hb9⟩))
    go_ret
    exact ⟨rfl, (hbb5.trans hb6).trans hb9⟩
  · obtain ⟨t1, t2, t3⟩ := told_msg ht
    have hki := (told_in ht).1
    have hx' : xs = [a / 256, a % 256, r] := by rw [← hx]; exact mgW_yes ht
    have hL' : L = 100 + k := by rw [← hL]; exact mgL_yes ht
    obtain rfl : N = 3 := by rw [← hN, hx']; rfl
    rw [← hx', ← hL'] at t3
    rw [← hx'] at t2
    rw [← hL'] at t1
    have T3 := Lib.hid t3
    have hLb : 101 ≤ L := by omega
    have hLc : L ≤ 102 := by omega
    clear hx hN ht hx' hL hL' t3 hki
    go_wp2_with fail
    refine (ReadFault_any L _ _ _ _ _ _ xs _ R5 (by omega) (by omega)).mono ?_; rintro e w6 ⟨rfl, hb6⟩; rw [T3.out]
    simp only
    have hv6 : Ext w6 (w6.alloc (.cells #[.int .i64 k, .int .i64 a, .int .i64 r] 32)) := (Below.refl _ _).alloc (Nat.le_refl _) _
    have G6 : FtAt (w6.alloc (.cells #[.int .i64 k, .int .i64 a, .int .i64 r] 32)) w6.heap.size k a r := FtAt.new w6 32 k a r
    have F6 := F5.out.below (hb6.trans hv6)
    have M6 := M5.out.below (hb6.trans hv6)
    have R6 := R5.below (hb6.trans hv6)
    have hbb6 := hbb5.trans (hb6.trans hv6)
    clear m0 m1 m2 M5 F5 R5 hbb5 hb6 hv6
    obtain ⟨m0, m1, m2⟩ := M6
    obtain ⟨f0, f1, f2⟩ := F6
    obtain ⟨e0, e1, e2⟩ := G6
    go_wp2_with fail
    refine (MessageValid_told L _ _ _ xs _ R6 t1 (by omega) t2).mono ?_; rintro e w7 ⟨rfl, hb7⟩
    clear m0 m1 m2 f0 f1 f2 e0 e1 e2 R6
    go_wp2
    go_ret
    exact ⟨rfl, hbb6.trans hb7⟩
end Go.Proofs.Yteahiiflgiimnaa
