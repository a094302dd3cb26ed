/-
  Messages about faults, read back: the reference.
-/
import Derived.Test.YteahiiflgiimnaaMsB
import Derived.BigRegion
namespace Go.Proofs.Yteahiiflgiimnaa
open Go.RowKit

set_option maxHeartbeats 4000000 in
theorem specReadFault_any (l : Int) (A B : Option Addr) (n c m d : Nat) (ws : List Int) (w : World) (h : Rd w 1 A n c (cI ws)) :
    Calls Try.prog 33 #[.agg #[.int .i64 l, .slice A n c, .slice B m d]] w fun e w' => e = .returned (.tuple #[.agg #[.int .i64 (rdF l ws m).1.1, .int .i64 (rdF l ws m).1.2.1, .int .i64 (rdF l ws m).1.2.2], .bool (rdF l ws m).2]) ∧ Ext w w' := by
  have hlen := h.lenI
  have hle := h.le
  have htop := h.top
  have hb0 : Ext w ((w.alloc (.cells #[.int .i64 l, .slice A n c, .slice B m d] 51)).alloc (.cells #[.int .i64 0, .int .i64 0, .int .i64 0] 32)) := ((Below.refl _ _).alloc (Nat.le_refl _) _).alloc (by simp) _
  have M0 : MsAt ((w.alloc (.cells #[.int .i64 l, .slice A n c, .slice B m d] 51)).alloc (.cells #[.int .i64 0, .int .i64 0, .int .i64 0] 32)) w.heap.size (.int .i64 l) (.slice A n c) (.slice B m d) := (MsAt.new w 51 _ _ _).below ((Below.refl _ _).alloc (Nat.le_refl _) _)
  have P0 : ((w.alloc (.cells #[.int .i64 l, .slice A n c, .slice B m d] 51)).alloc (.cells #[.int .i64 0, .int .i64 0, .int .i64 0] 32)).heap[w.heap.size + 1]? = some (.cells #[.int .i64 0, .int .i64 0, .int .i64 0] 32 (0, 0)) := by
    have := heap_alloc_new (w.alloc (.cells #[.int .i64 l, .slice A n c, .slice B m d] 51)) (.cells #[.int .i64 0, .int .i64 0, .int .i64 0] 32)
    simpa using this
  have hR := h.below hb0
  obtain ⟨q0, q1, q2⟩ := M0
  obtain ⟨w1, hw1⟩ : ∃ w1, w1 = ((w.alloc (.cells #[.int .i64 l, .slice A n c, .slice B m d] 51)).alloc (.cells #[.int .i64 0, .int .i64 0, .int .i64 0] 32)) := ⟨_, rfl⟩
  rw [← hw1] at hb0 P0 q0 q1 q2 hR
  go_enter Try.func33, Try.ntmps33
  go_upto_region 1 with fail
  rw [← hw1]
  clear hw1 h
  by_cases hn : n = 3
  case neg =>
    have hnb : ((n : Int) == 3) = false := by rw [beq_eq_false_iff_ne]; omega
    have N := Lib.hid (rdF_len (l := l) (m := m) (ws := ws) (by omega))
    have sq0 : w1.cell? ⟨w.heap.size + 1, 0, none⟩ = some (.int .i64 0) := by rw [cell_of_row w1 _ _ _ _ _ P0]; rfl
    have sf0 := frozen_of_row w1 (w.heap.size + 1) 0 _ _ P0
    have sq1 : w1.cell? ⟨w.heap.size + 1, 1, none⟩ = some (.int .i64 0) := by rw [cell_of_row w1 _ _ _ _ _ P0]; rfl
    have sf1 := frozen_of_row w1 (w.heap.size + 1) 1 _ _ P0
    have sq2 : w1.cell? ⟨w.heap.size + 1, 2, none⟩ = some (.int .i64 0) := by rw [cell_of_row w1 _ _ _ _ _ P0]; rfl
    have sf2 := frozen_of_row w1 (w.heap.size + 1) 2 _ _ P0
    go_wp2
    refine bodyPost_ret (v := .tuple #[.agg #[.int .i64 0, .int .i64 0, .int .i64 0], .bool false]) (by simp [results, Try.results33, go_sem, sq0, sq1, sq2]) rfl ⟨by rw [N.out], Ext.sets3 hb0 (by omega) _ _ _⟩
  subst hn
  obtain ⟨b, off, rfl, hc⟩ := hR.cells (by omega)
  obtain ⟨x, y, z, rfl⟩ : ∃ x y z, ws = [x, y, z] := by
    match ws, hlen with
    | [x, y, z], _ => exact ⟨x, y, z, rfl⟩
  have g0 := hc 0 (.int .i64 x) rfl
  have g1 := hc 1 (.int .i64 y) rfl
  have g2 := hc 2 (.int .i64 z) rfl
  simp only [Nat.add_zero] at g0 g1 g2
  clear hc hlen
  by_cases hm : m = 0
  case neg =>
    have hmb : ((m : Int) == 0) = false := by rw [beq_eq_false_iff_ne]; omega
    have hmp : (0 : Int) < (m : Int) := by omega
    have N := Lib.hid (rdF_caps (l := l) (x := x) (y := y) (z := z) hm)
    have sq0 : w1.cell? ⟨w.heap.size + 1, 0, none⟩ = some (.int .i64 0) := by rw [cell_of_row w1 _ _ _ _ _ P0]; rfl
    have sf0 := frozen_of_row w1 (w.heap.size + 1) 0 _ _ P0
    have sq1 : w1.cell? ⟨w.heap.size + 1, 1, none⟩ = some (.int .i64 0) := by rw [cell_of_row w1 _ _ _ _ _ P0]; rfl
    have sf1 := frozen_of_row w1 (w.heap.size + 1) 1 _ _ P0
    have sq2 : w1.cell? ⟨w.heap.size + 1, 2, none⟩ = some (.int .i64 0) := by rw [cell_of_row w1 _ _ _ _ _ P0]; rfl
    have sf2 := frozen_of_row w1 (w.heap.size + 1) 2 _ _ P0
    go_wp2
    refine bodyPost_ret (v := .tuple #[.agg #[.int .i64 0, .int .i64 0, .int .i64 0], .bool false]) (by simp [results, Try.results33, go_sem, sq0, sq1, sq2]) rfl ⟨by rw [N.out], Ext.sets3 hb0 (by omega) _ _ _⟩
  subst hm
  obtain ⟨t0, e0⟩ : ∃ t, inB x 0 255 = t := ⟨_, rfl⟩
  obtain ⟨t1, e1⟩ : ∃ t, inB y 0 255 = t := ⟨_, rfl⟩
  have E0 := Lib.hid e0
  have E1 := Lib.hid e1
  cases t0
  · go_wp2_with fail
    refine (l1In_any _ _ _ _).mono ?_; rintro e w' ⟨rfl, rfl⟩; rw [E0.out]
    have N := Lib.hid (rdF_0 (l := l) (y := y) (z := z) (m := 0) e0)
    have sq0 : w1.cell? ⟨w.heap.size + 1, 0, none⟩ = some (.int .i64 0) := by rw [cell_of_row w1 _ _ _ _ _ P0]; rfl
    have sf0 := frozen_of_row w1 (w.heap.size + 1) 0 _ _ P0
    have sq1 : w1.cell? ⟨w.heap.size + 1, 1, none⟩ = some (.int .i64 0) := by rw [cell_of_row w1 _ _ _ _ _ P0]; rfl
    have sf1 := frozen_of_row w1 (w.heap.size + 1) 1 _ _ P0
    have sq2 : w1.cell? ⟨w.heap.size + 1, 2, none⟩ = some (.int .i64 0) := by rw [cell_of_row w1 _ _ _ _ _ P0]; rfl
    have sf2 := frozen_of_row w1 (w.heap.size + 1) 2 _ _ P0
    go_wp2
    refine bodyPost_ret (v := .tuple #[.agg #[.int .i64 0, .int .i64 0, .int .i64 0], .bool false]) (by simp [results, Try.results33, go_sem, sq0, sq1, sq2]) rfl ⟨by rw [N.out], Ext.sets3 hb0 (by omega) _ _ _⟩
  cases t1
  · go_wp2_with fail
    refine (l1In_any _ _ _ _).mono ?_; rintro e w' ⟨rfl, rfl⟩; rw [E0.out]
    go_wp2_with fail
    refine (l1In_any _ _ _ _).mono ?_; rintro e w' ⟨rfl, rfl⟩; rw [E1.out]
    have N := Lib.hid (rdF_1 (l := l) (x := x) (z := z) (m := 0) e1)
    have sq0 : w1.cell? ⟨w.heap.size + 1, 0, none⟩ = some (.int .i64 0) := by rw [cell_of_row w1 _ _ _ _ _ P0]; rfl
    have sf0 := frozen_of_row w1 (w.heap.size + 1) 0 _ _ P0
    have sq1 : w1.cell? ⟨w.heap.size + 1, 1, none⟩ = some (.int .i64 0) := by rw [cell_of_row w1 _ _ _ _ _ P0]; rfl
    have sf1 := frozen_of_row w1 (w.heap.size + 1) 1 _ _ P0
    have sq2 : w1.cell? ⟨w.heap.size + 1, 2, none⟩ = some (.int .i64 0) := by rw [cell_of_row w1 _ _ _ _ _ P0]; rfl
    have sf2 := frozen_of_row w1 (w.heap.size + 1) 2 _ _ P0
    go_wp2
    refine bodyPost_ret (v := .tuple #[.agg #[.int .i64 0, .int .i64 0, .int .i64 0], .bool false]) (by simp [results, Try.results33, go_sem, sq0, sq1, sq2]) rfl ⟨by rw [N.out], Ext.sets3 hb0 (by omega) _ _ _⟩
  have hx := inB_iff.1 e0
  have hy := inB_iff.1 e1
  obtain ⟨hx0, hx1⟩ := hx
  obtain ⟨hy0, hy1⟩ := hy
  obtain ⟨t2, e2⟩ : ∃ t, inB z 0 15 = t := ⟨_, rfl⟩
  have E2 := Lib.hid e2
  cases t2
  · go_wp2_with fail
    refine (l1In_any _ _ _ _).mono ?_; rintro e w' ⟨rfl, rfl⟩; rw [E0.out]
    go_wp2_with fail
    refine (l1In_any _ _ _ _).mono ?_; rintro e w' ⟨rfl, rfl⟩; rw [E1.out]
    go_wp2_with fail
    refine (specRightsValid_any _ _).mono ?_; rintro e w' ⟨rfl, rfl⟩; rw [E2.out]
    have N := Lib.hid (rdF_2 (l := l) (x := x) (y := y) (m := 0) e2)
    have sq0 : w1.cell? ⟨w.heap.size + 1, 0, none⟩ = some (.int .i64 0) := by rw [cell_of_row w1 _ _ _ _ _ P0]; rfl
    have sf0 := frozen_of_row w1 (w.heap.size + 1) 0 _ _ P0
    have sq1 : w1.cell? ⟨w.heap.size + 1, 1, none⟩ = some (.int .i64 0) := by rw [cell_of_row w1 _ _ _ _ _ P0]; rfl
    have sf1 := frozen_of_row w1 (w.heap.size + 1) 1 _ _ P0
    have sq2 : w1.cell? ⟨w.heap.size + 1, 2, none⟩ = some (.int .i64 0) := by rw [cell_of_row w1 _ _ _ _ _ P0]; rfl
    have sf2 := frozen_of_row w1 (w.heap.size + 1) 2 _ _ P0
    go_wp2
    refine bodyPost_ret (v := .tuple #[.agg #[.int .i64 0, .int .i64 0, .int .i64 0], .bool false]) (by simp [results, Try.results33, go_sem, sq0, sq1, sq2]) rfl ⟨by rw [N.out], Ext.sets3 hb0 (by omega) _ _ _⟩
  by_cases hl1 : l = 101 ∨ l = 102
  case neg =>
    have hla : (l == 101) = false := by rw [beq_eq_false_iff_ne]; omega
    have hlb : (l == 102) = false := by rw [beq_eq_false_iff_ne]; omega
    have hla2 : (l != 101) = true := by rw [bne_iff_ne]; omega
    have hlb2 : (l != 102) = true := by rw [bne_iff_ne]; omega
    have hlc : inB l 101 102 = false := by rw [← Bool.not_eq_true]; intro h; have := inB_iff.1 h; omega
    go_wp2_with fail
    refine (l1In_any _ _ _ _).mono ?_; rintro e w' ⟨rfl, rfl⟩; rw [E0.out]
    go_wp2_with fail
    refine (l1In_any _ _ _ _).mono ?_; rintro e w' ⟨rfl, rfl⟩; rw [E1.out]
    go_wp2_with fail
    refine (specRightsValid_any _ _).mono ?_; rintro e w' ⟨rfl, rfl⟩; rw [E2.out]
    have N := Lib.hid (rdF_l (x := x) (y := y) (z := z) (m := 0) hlc)
    have sq0 : w1.cell? ⟨w.heap.size + 1, 0, none⟩ = some (.int .i64 0) := by rw [cell_of_row w1 _ _ _ _ _ P0]; rfl
    have sf0 := frozen_of_row w1 (w.heap.size + 1) 0 _ _ P0
    have sq1 : w1.cell? ⟨w.heap.size + 1, 1, none⟩ = some (.int .i64 0) := by rw [cell_of_row w1 _ _ _ _ _ P0]; rfl
    have sf1 := frozen_of_row w1 (w.heap.size + 1) 1 _ _ P0
    have sq2 : w1.cell? ⟨w.heap.size + 1, 2, none⟩ = some (.int .i64 0) := by rw [cell_of_row w1 _ _ _ _ _ P0]; rfl
    have sf2 := frozen_of_row w1 (w.heap.size + 1) 2 _ _ P0
    go_wp2
    refine bodyPost_ret (v := .tuple #[.agg #[.int .i64 0, .int .i64 0, .int .i64 0], .bool false]) (by simp [results, Try.results33, go_sem, sq0, sq1, sq2]) rfl ⟨by rw [N.out], Ext.sets3 hb0 (by omega) _ _ _⟩
  have hlc : inB l 101 102 = true := inB_iff.2 (by omega)
  have N := Lib.hid (rdF_yes e0 e1 e2 hlc)
  clear e0 e1 e2
  rcases hl1 with rfl | rfl
  · go_wp2_with fail
    refine (l1In_any _ _ _ _).mono ?_; rintro e w' ⟨rfl, rfl⟩; rw [E0.out]
    go_wp2_with fail
    refine (l1In_any _ _ _ _).mono ?_; rintro e w' ⟨rfl, rfl⟩; rw [E1.out]
    go_wp2_with fail
    refine (specRightsValid_any _ _).mono ?_; rintro e w' ⟨rfl, rfl⟩; rw [E2.out]
    have sq0 : w1.cell? ⟨w.heap.size + 1, 0, none⟩ = some (.int .i64 0) := by rw [cell_of_row w1 _ _ _ _ _ P0]; rfl
    have sf0 := frozen_of_row w1 (w.heap.size + 1) 0 _ _ P0
    have sq1 : w1.cell? ⟨w.heap.size + 1, 1, none⟩ = some (.int .i64 0) := by rw [cell_of_row w1 _ _ _ _ _ P0]; rfl
    have sf1 := frozen_of_row w1 (w.heap.size + 1) 1 _ _ P0
    have sq2 : w1.cell? ⟨w.heap.size + 1, 2, none⟩ = some (.int .i64 0) := by rw [cell_of_row w1 _ _ _ _ _ P0]; rfl
    have sf2 := frozen_of_row w1 (w.heap.size + 1) 2 _ _ P0
    go_wp2
    go_region
    all_goals go_wp2
    all_goals refine bodyPost_ret (v := .tuple #[.agg #[.int .i64 1, .int .i64 (x * 256 + y), .int .i64 z], .bool true]) (by simp [results, Try.results33, go_sem, sq0, sq1, sq2]) rfl ⟨by rw [N.out]; rfl, ?_⟩
    all_goals exact Below.drew (Ext.sets3 hb0 (by omega) _ _ _)
  · go_wp2_with fail
    refine (l1In_any _ _ _ _).mono ?_; rintro e w' ⟨rfl, rfl⟩; rw [E0.out]
    go_wp2_with fail
    refine (l1In_any _ _ _ _).mono ?_; rintro e w' ⟨rfl, rfl⟩; rw [E1.out]
    go_wp2_with fail
    refine (specRightsValid_any _ _).mono ?_; rintro e w' ⟨rfl, rfl⟩; rw [E2.out]
    have sq0 : w1.cell? ⟨w.heap.size + 1, 0, none⟩ = some (.int .i64 0) := by rw [cell_of_row w1 _ _ _ _ _ P0]; rfl
    have sf0 := frozen_of_row w1 (w.heap.size + 1) 0 _ _ P0
    have sq1 : w1.cell? ⟨w.heap.size + 1, 1, none⟩ = some (.int .i64 0) := by rw [cell_of_row w1 _ _ _ _ _ P0]; rfl
    have sf1 := frozen_of_row w1 (w.heap.size + 1) 1 _ _ P0
    have sq2 : w1.cell? ⟨w.heap.size + 1, 2, none⟩ = some (.int .i64 0) := by rw [cell_of_row w1 _ _ _ _ _ P0]; rfl
    have sf2 := frozen_of_row w1 (w.heap.size + 1) 2 _ _ P0
    go_wp2
    go_region
    all_goals go_wp2
    all_goals refine bodyPost_ret (v := .tuple #[.agg #[.int .i64 2, .int .i64 (x * 256 + y), .int .i64 z], .bool true]) (by simp [results, Try.results33, go_sem, sq0, sq1, sq2]) rfl ⟨by rw [N.out]; rfl, ?_⟩
    all_goals exact Below.drew (Ext.sets3 hb0 (by omega) _ _ _)
end Go.Proofs.Yteahiiflgiimnaa
