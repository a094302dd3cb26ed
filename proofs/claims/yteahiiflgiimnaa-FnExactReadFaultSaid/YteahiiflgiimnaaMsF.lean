/-
  Messages of the law: counted and copied.
-/
import Derived.Test.YteahiiflgiimnaaMsA
import Derived.Test.YteahiiflgiimnaaDrO
import Derived.Deep.Cut
namespace Go.Proofs.Yteahiiflgiimnaa
open Go.RowKit

set_option maxHeartbeats 400000 in
theorem szIntS_any (A : Option Addr) (n c : Nat) (left : Int) (w : World) (hn : n ≤ 9223372036854775807) (h0 : 0 ≤ left) (h1 : left ≤ 1048576) :
    Calls Try.prog 68 #[.slice A n c, .int .i64 left] w fun e w' => e = .returned (.int .i64 (szB left n)) ∧ w = w' := by
  go_enter Try.func68, Try.ntmps68
  go_wp2
  · go_ret
    exact ⟨ret_int (by unfold szB; rw [if_pos (by assumption)]), rfl⟩
  · go_ret
    exact ⟨ret_int (by unfold szB; rw [if_neg (by omega)]), rfl⟩

theorem szB_no {left : Int} {n : Nat} (h : left < n) : szB left n = -1 := by unfold szB; rw [if_pos (by omega)]
theorem szB_yes {left : Int} {n : Nat} (h : (n : Int) ≤ left) : szB left n = left - n := by unfold szB; rw [if_neg (by omega)]
/-- What is left of a number when n and m are counted. -/
def szM (n m : Nat) : Int := if 1048576 < n + m then -1 else 1048576 - n - m
set_option maxHeartbeats 1000000 in
theorem szMessage_any (l : Int) (A B : Option Addr) (n c m d : Nat) (w : World) (hn : n ≤ 9223372036854775807) (hm : m ≤ 9223372036854775807) :
    Calls Try.prog 32 #[.agg #[.int .i64 l, .slice A n c, .slice B m d], .int .i64 1048576] w fun e w' => e = .returned (.int .i64 (szM n m)) ∧ Ext w w' := by
  have hb0 : Ext w (w.alloc (.cells #[.int .i64 l, .slice A n c, .slice B m d] 58)) := (Below.refl _ _).alloc (Nat.le_refl _) _
  have M0 : MsAt (w.alloc (.cells #[.int .i64 l, .slice A n c, .slice B m d] 58)) w.heap.size (.int .i64 l) (.slice A n c) (.slice B m d) := MsAt.new w 58 _ _ _
  obtain ⟨q0, q1, q2⟩ := M0
  by_cases h1 : n ≤ 1048576
  case neg =>
    have e1 := szB_no (left := 1048576) (n := n) (by omega)
    have e2 : szM n m = -1 := by unfold szM; rw [if_pos (by omega)]
    have E2 := Lib.hid e2
    clear e2
    go_enter Try.func32, Try.ntmps32
    go_wp2_with fail
    refine (szIntS_any _ _ _ _ _ hn (by omega) (by omega)).mono ?_; rintro e w' ⟨rfl, rfl⟩; rw [e1]
    go_wp2
    go_ret
    exact ⟨ret_int E2.out.symm, hb0⟩
  have e1 := szB_yes (left := 1048576) (n := n) (by omega)
  obtain ⟨L, hL⟩ : ∃ L : Int, 1048576 - (n : Int) = L := ⟨_, rfl⟩
  rw [hL] at e1
  have hL0 : 0 ≤ L := by omega
  have hL1 : L ≤ 1048576 := by omega
  have E1 := Lib.hid e1
  clear e1
  by_cases h2 : (m : Int) ≤ L
  case neg =>
    have e2 := szB_no (left := L) (n := m) (by omega)
    have e3 : szM n m = -1 := by unfold szM; rw [if_pos (by omega)]
    have E2 := Lib.hid e2
    have E3 := Lib.hid e3
    clear e2 e3 hL h1 h2
    go_enter Try.func32, Try.ntmps32
    go_wp2_with fail
    refine (szIntS_any _ _ _ _ _ hn (by omega) (by omega)).mono ?_; rintro e w' ⟨rfl, rfl⟩; rw [E1.out]
    go_wp2_with fail
    refine (szCapS_any _ _ _ _ _ hm (by omega) (by omega)).mono ?_; rintro e w' ⟨rfl, rfl⟩; rw [E2.out]
    go_wp2
    go_ret
    exact ⟨ret_int E3.out.symm, hb0⟩
  have e2 := szB_yes (left := L) (n := m) (by omega)
  obtain ⟨L2, hL2⟩ : ∃ L2 : Int, L - (m : Int) = L2 := ⟨_, rfl⟩
  rw [hL2] at e2
  have hL20 : 0 ≤ L2 := by omega
  have e3 : szM n m = L2 := by unfold szM; rw [if_neg (by omega)]; omega
  have E2 := Lib.hid e2
  have E3 := Lib.hid e3
  clear e2 e3 hL h1 h2 hL2
  go_enter Try.func32, Try.ntmps32
  go_wp2_with fail
  refine (szIntS_any _ _ _ _ _ hn (by omega) (by omega)).mono ?_; rintro e w' ⟨rfl, rfl⟩; rw [E1.out]
  go_wp2_with fail
  refine (szCapS_any _ _ _ _ _ hm (by omega) (by omega)).mono ?_; rintro e w' ⟨rfl, rfl⟩; rw [E2.out]
  go_wp2
  go_ret
  exact ⟨ret_int E3.out.symm, hb0⟩

set_option maxHeartbeats 2000000 in
theorem toMessage_any (l : Int) (A B : Option Addr) (n c m d : Nat) (xs : List Int) (cs : List (Int × Int × Int × Int)) (w : World) (h : Rd w 1 A n c (cI xs)) (g : Rd w 4 B m d (c4 cs)) (hn : n ≤ 1048576) (hm : m ≤ 1048576) :
    Calls Try.prog 34 #[.agg #[.int .i64 l, .slice A n c, .slice B m d]] w fun e w' => ∃ A' c' B' d', e = .returned (.agg #[.int .i64 l, .slice A' n c', .slice B' m d']) ∧ Rd w' 1 A' n c' (cI xs) ∧ Rd w' 4 B' m d' (c4 cs) ∧ Ext w w' := by
  obtain ⟨W0, hW0⟩ : ∃ W0, W0 = (((w.alloc (.cells #[.int .i64 l, .slice A n c, .slice B m d] 58)).alloc (.cells #[.int .i64 0, .slice none 0 0, .slice none 0 0] 51)).alloc (.cells #[.int .i64 0, .slice none 0 0, .slice none 0 0] 51)) := ⟨_, rfl⟩
  have hb0 : Ext w W0 := by rw [hW0]; exact (((Below.refl _ _).alloc (Nat.le_refl _) _).alloc (by simp) _).alloc (by simp; omega) _
  have hs0 : W0.heap.size = w.heap.size + 3 := by rw [hW0]; simp
  have M0 : MsAt W0 w.heap.size (.int .i64 l) (.slice A n c) (.slice B m d) := by
    rw [hW0]
    exact (MsAt.new w 58 _ _ _).below (((Below.refl _ _).alloc (Nat.le_refl _) _).alloc (by simp) _)
  have Z0 : W0.heap[w.heap.size + 1]? = some (.cells #[.int .i64 0, .slice none 0 0, .slice none 0 0] 51 (0, 0)) := by
    have h1 := heap_alloc_new (w.alloc (.cells #[.int .i64 l, .slice A n c, .slice B m d] 58)) (.cells #[.int .i64 0, .slice none 0 0, .slice none 0 0] 51)
    have h2 : Ext ((w.alloc (.cells #[.int .i64 l, .slice A n c, .slice B m d] 58)).alloc (.cells #[.int .i64 0, .slice none 0 0, .slice none 0 0] 51)) W0 := by rw [hW0]; exact (Below.refl _ _).alloc (Nat.le_refl _) _
    have h3 : (w.alloc (.cells #[.int .i64 l, .slice A n c, .slice B m d] 58)).heap.size = w.heap.size + 1 := by simp
    rw [h3] at h1
    exact (h2.block _ (Array.getElem?_eq_some_iff.1 h1).1).trans h1
  have Q0 : W0.heap[w.heap.size + 2]? = some (.cells #[.int .i64 0, .slice none 0 0, .slice none 0 0] 51 (0, 0)) := by
    have h1 := heap_alloc_new ((w.alloc (.cells #[.int .i64 l, .slice A n c, .slice B m d] 58)).alloc (.cells #[.int .i64 0, .slice none 0 0, .slice none 0 0] 51)) (.cells #[.int .i64 0, .slice none 0 0, .slice none 0 0] 51)
    have h3 : ((w.alloc (.cells #[.int .i64 l, .slice A n c, .slice B m d] 58)).alloc (.cells #[.int .i64 0, .slice none 0 0, .slice none 0 0] 51)).heap.size = w.heap.size + 2 := by simp
    rw [h3] at h1
    rw [hW0]; exact h1
  go_enter Try.func34, Try.ntmps34
  go_upto_region 2 with fail
  rw [← hW0]
  clear hW0
  obtain ⟨q0, q1, q2⟩ := M0
  have z0 : W0.cell? ⟨w.heap.size + 2, 0, none⟩ = some (.int .i64 0) := by rw [cell_of_row W0 _ _ _ _ _ Q0]; rfl
  have z0f := frozen_of_row W0 (w.heap.size + 2) 0 _ _ Q0
  go_upto_region 3 with fail
  obtain ⟨W1, hW1⟩ : ∃ W1, W1 = W0.setCell ⟨w.heap.size + 2, 0, none⟩ (.int .i64 l) := ⟨_, rfl⟩
  rw [← hW1]
  have G1 : World.grownBy W0 W1 (some (w.heap.size + 2)) := by rw [hW1]; exact grown_set (p := ⟨w.heap.size + 2, 0, none⟩) (g := w.heap.size + 2) (World.grownBy.refl _ _) rfl _
  have T1 : Tch W0 W1 (· = w.heap.size + 2) := Tch.of_grown G1 (fun k e => by cases e; rfl)
  have M1 := MsAt.tch (⟨q0, q1, q2⟩ : MsAt W0 w.heap.size _ _ _) T1 (by omega)
  have Z1 := (T1.block _ (Array.getElem?_eq_some_iff.1 Z0).1 (by omega)).trans Z0
  have Q1 : W1.heap[w.heap.size + 2]? = some (.cells #[.int .i64 l, .slice none 0 0, .slice none 0 0] 51 (0, 0)) := by rw [hW1]; exact heap_setCell_same _ _ 0 _ _ (.int .i64 l) Q0
  have hb1 : Ext w W1 := ext_tch hb0 T1 (fun k e => by omega)
  have hs1 := T1.size
  clear hW1 G1 T1 Z0 Q0 q0 q1 q2 z0 z0f hb0
  obtain ⟨q0, q1, q2⟩ := M1
  go_wp2_with fail
  refine (toIntS_any _ _ _ _ _ (h.below hb1) hn).mono ?_; rintro e w2 ⟨A1, c1, rfl, o1, hb2⟩
  have Q2 := (hb2.block _ (Array.getElem?_eq_some_iff.1 Q1).1).trans Q1
  have Z2 := (hb2.block _ (Array.getElem?_eq_some_iff.1 Z1).1).trans Z1
  have M2 := MsAt.below (⟨q0, q1, q2⟩ : MsAt W1 w.heap.size _ _ _) hb2
  have hbb2 : Ext w w2 := hb1.trans hb2
  have hs2 := hb2.size
  have z1 : w2.cell? ⟨w.heap.size + 2, 1, none⟩ = some (.slice none 0 0) := by rw [cell_of_row w2 _ _ _ _ _ Q2]; rfl
  have z1f := frozen_of_row w2 (w.heap.size + 2) 1 _ _ Q2
  clear q0 q1 q2 Q1 Z1 hb1 hb2 h
  go_upto_region 4 with fail
  obtain ⟨W3, hW3⟩ : ∃ W3, W3 = w2.setCell ⟨w.heap.size + 2, 1, none⟩ (.slice A1 n c1) := ⟨_, rfl⟩
  rw [← hW3]
  have G3 : World.grownBy w2 W3 (some (w.heap.size + 2)) := by rw [hW3]; exact grown_set (p := ⟨w.heap.size + 2, 1, none⟩) (g := w.heap.size + 2) (World.grownBy.refl _ _) rfl _
  have T3 : Tch w2 W3 (· = w.heap.size + 2) := Tch.of_grown G3 (fun k e => by cases e; rfl)
  have M3 := M2.tch T3 (by omega)
  have Z3 := (T3.block _ (Array.getElem?_eq_some_iff.1 Z2).1 (by omega)).trans Z2
  have Q3 : W3.heap[w.heap.size + 2]? = some (.cells #[.int .i64 l, .slice A1 n c1, .slice none 0 0] 51 (0, 0)) := by rw [hW3]; exact heap_setCell_same _ _ 1 _ _ (.slice A1 n c1) Q2
  have hb3 : Ext w W3 := ext_tch hbb2 T3 (fun k e => by omega)
  have o3 := o1.only T3 (fun k e => by omega)
  have hs3 := T3.size
  clear hW3 G3 T3 M2 Z2 Q2 z1 z1f hbb2 o1
  obtain ⟨q0, q1, q2⟩ := M3
  go_wp2_with fail
  refine (toCapS_any _ _ _ _ _ (g.below hb3) hm).mono ?_; rintro e w4 ⟨B1, d1, rfl, o4, hb4⟩
  have Q4 := (hb4.block _ (Array.getElem?_eq_some_iff.1 Q3).1).trans Q3
  have Z4 := (hb4.block _ (Array.getElem?_eq_some_iff.1 Z3).1).trans Z3
  have p4 := o3.below hb4
  have hbb4 : Ext w w4 := hb3.trans hb4
  have z2 : w4.cell? ⟨w.heap.size + 2, 2, none⟩ = some (.slice none 0 0) := by rw [cell_of_row w4 _ _ _ _ _ Q4]; rfl
  have z2f := frozen_of_row w4 (w.heap.size + 2) 2 _ _ Q4
  clear q0 q1 q2 Q3 Z3 hb3 hb4 o3 g
  go_upto_region 5 with fail
  obtain ⟨W5, hW5⟩ : ∃ W5, W5 = w4.setCell ⟨w.heap.size + 2, 2, none⟩ (.slice B1 m d1) := ⟨_, rfl⟩
  rw [← hW5]
  have G5 : World.grownBy w4 W5 (some (w.heap.size + 2)) := by rw [hW5]; exact grown_set (p := ⟨w.heap.size + 2, 2, none⟩) (g := w.heap.size + 2) (World.grownBy.refl _ _) rfl _
  have T5 : Tch w4 W5 (· = w.heap.size + 2) := Tch.of_grown G5 (fun k e => by cases e; rfl)
  have Z5 := (T5.block _ (Array.getElem?_eq_some_iff.1 Z4).1 (by omega)).trans Z4
  have Q5 : W5.heap[w.heap.size + 2]? = some (.cells #[.int .i64 l, .slice A1 n c1, .slice B1 m d1] 51 (0, 0)) := by rw [hW5]; exact heap_setCell_same _ _ 2 _ _ (.slice B1 m d1) Q4
  have hb5 : Ext w W5 := ext_tch hbb4 T5 (fun k e => by omega)
  have p5 := p4.only T5 (fun k e => by omega)
  have o5 := o4.only T5 (fun k e => by omega)
  clear hW5 G5 T5 Z4 Q4 z2 z2f hbb4 p4 o4
  have z0 : W5.cell? ⟨w.heap.size + 2, 0, none⟩ = some (.int .i64 l) := by rw [cell_of_row W5 _ _ _ _ _ Q5]; rfl
  have z1 : W5.cell? ⟨w.heap.size + 2, 1, none⟩ = some (.slice A1 n c1) := by rw [cell_of_row W5 _ _ _ _ _ Q5]; rfl
  have z2 : W5.cell? ⟨w.heap.size + 2, 2, none⟩ = some (.slice B1 m d1) := by rw [cell_of_row W5 _ _ _ _ _ Q5]; rfl
  have sq0 : W5.cell? ⟨w.heap.size + 1, 0, none⟩ = some (.int .i64 0) := by rw [cell_of_row W5 _ _ _ _ _ Z5]; rfl
  have sf0 := frozen_of_row W5 (w.heap.size + 1) 0 _ _ Z5
  have sq1 : W5.cell? ⟨w.heap.size + 1, 1, none⟩ = some (.slice none 0 0) := by rw [cell_of_row W5 _ _ _ _ _ Z5]; rfl
  have sf1 := frozen_of_row W5 (w.heap.size + 1) 1 _ _ Z5
  have sq2 : W5.cell? ⟨w.heap.size + 1, 2, none⟩ = some (.slice none 0 0) := by rw [cell_of_row W5 _ _ _ _ _ Z5]; rfl
  have sf2 := frozen_of_row W5 (w.heap.size + 1) 2 _ _ Z5
  clear Z5 Q5
  go_wp2
  refine bodyPost_ret (v := .agg #[.int .i64 l, .slice A1 n c1, .slice B1 m d1]) (by simp [results, Try.results34, go_sem, sq0, sq1, sq2]) rfl ⟨A1, c1, B1, d1, rfl, ?_, ?_, Ext.sets3 hb5 (by omega) _ _ _⟩
  · exact (Fr.sets3 (Or.inr p5) (by omega) _ _ _).rd'.2
  · exact (Fr.sets3 (Or.inr o5) (by omega) _ _ _).rd'.2
end Go.Proofs.Yteahiiflgiimnaa
