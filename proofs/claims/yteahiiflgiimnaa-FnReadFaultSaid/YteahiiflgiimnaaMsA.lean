/-
  Messages about faults: the program's and the reference's; messages alike, marked, still marked.
-/
import Derived.Test.YteahiiflgiimnaaFaC
import Derived.Test.YteahiiflgiimnaaInts
import Derived.Test.YteahiiflgiimnaaCpA
import Derived.Test.YteahiiflgiimnaaRows2
import Derived.Test.YteahiiflgiimnaaDrv
namespace Go.Proofs.Yteahiiflgiimnaa
open Go.RowKit

def mgW (k a r : Int) : List Int := if toldB k a r then [a / 256, a % 256, r] else []
def mgL (k a r : Int) : Int := if toldB k a r then 100 + k else 0
section
variable {k a r : Int}
theorem mgW_no (h : toldB k a r = false) : mgW k a r = [] := by unfold mgW; rw [h]; rfl
theorem mgL_no (h : toldB k a r = false) : mgL k a r = 0 := by unfold mgL; rw [h]; rfl
theorem mgW_yes (h : toldB k a r = true) : mgW k a r = [a / 256, a % 256, r] := by unfold mgW; rw [h]; rfl
theorem mgL_yes (h : toldB k a r = true) : mgL k a r = 100 + k := by unfold mgL; rw [h]; rfl
theorem told_in (h : toldB k a r = true) : (1 ≤ k ∧ k ≤ 2) ∧ (0 ≤ a ∧ a ≤ 65535) ∧ (0 ≤ r ∧ r ≤ 15) := by
  unfold toldB at h
  simp only [Bool.and_eq_true] at h
  exact ⟨inB_iff.1 h.1.1, inB_iff.1 h.1.2, inB_iff.1 h.2⟩
theorem mgW_len : (mgW k a r).length ≤ 3 := by unfold mgW; split <;> simp
end
theorem Fr.sets3 {w : World} {B e sz n q : Nat} {v : Value} {xs : List Value} (h : Fr w B e sz v n xs) (hq : q < B) (u0 u1 u2 : Value) : Fr (((w.setCell ⟨q, 0, none⟩ u0).setCell ⟨q, 1, none⟩ u1).setCell ⟨q, 2, none⟩ u2) B e sz v n xs :=
  h.past (grown_set (p := ⟨q, 2, none⟩) (g := q) (grown_set (p := ⟨q, 1, none⟩) (g := q) (grown_set (p := ⟨q, 0, none⟩) (g := q) (World.grownBy.refl w _) rfl u0) rfl u1) rfl u2) (fun k e => by cases e; exact hq)
theorem Ext.sets3 {a w : World} {q : Nat} (h : Ext a w) (hq : a.heap.size ≤ q) (u0 u1 u2 : Value) : Ext a (((w.setCell ⟨q, 0, none⟩ u0).setCell ⟨q, 1, none⟩ u1).setCell ⟨q, 2, none⟩ u2) :=
  ((h.setCell (by exact hq) _).setCell (by exact hq) _).setCell (by exact hq) _

structure MsAt (w : World) (p : Nat) (x y z : Value) : Prop where
  c0 : w.cell? ⟨p, 0, none⟩ = some x
  c1 : w.cell? ⟨p, 1, none⟩ = some y
  c2 : w.cell? ⟨p, 2, none⟩ = some z
theorem MsAt.below {w w' : World} {p : Nat} {x y z : Value} (h : MsAt w p x y z) (hb : Below w.heap.size w w') : MsAt w' p x y z :=
  ⟨kept_of_below hb _ _ h.c0, kept_of_below hb _ _ h.c1, kept_of_below hb _ _ h.c2⟩
theorem MsAt.tch {w w' : World} {p : Nat} {x y z : Value} {S : Nat → Prop} (h : MsAt w p x y z) (ht : Tch w w' S) (hp : ¬ S p) : MsAt w' p x y z :=
  ⟨ht.cell h.c0 hp, ht.cell h.c1 hp, ht.cell h.c2 hp⟩
theorem MsAt.new (w : World) (e : Nat) (x y z : Value) : MsAt (w.alloc (.cells #[x, y, z] e)) w.heap.size x y z :=
  ⟨by rw [World.cell?_alloc_new]; rfl, by rw [World.cell?_alloc_new]; rfl, by rw [World.cell?_alloc_new]; rfl⟩

set_option maxHeartbeats 2000000 in
theorem FaultMessage_any (k a r : Int) (w : World) :
    Calls Try.prog 28 #[.agg #[.int .i64 k, .int .i64 a, .int .i64 r]] w fun e w' => ∃ A c, e = .returned (.agg #[.int .i64 (mgL k a r), .slice A (mgW k a r).length c, .slice none 0 0]) ∧ Fr w' w.heap.size 3 1 (.slice A (mgW k a r).length c) (mgW k a r).length (cI (mgW k a r)) ∧ Ext w w' := by
  have hb0 : Ext w ((w.alloc (.cells #[.int .i64 k, .int .i64 a, .int .i64 r] 32)).alloc (.cells #[.int .i64 0, .slice none 0 0, .slice none 0 0] 51)) := ((Below.refl _ _).alloc (Nat.le_refl _) _).alloc (by simp) _
  have F0 : FtAt ((w.alloc (.cells #[.int .i64 k, .int .i64 a, .int .i64 r] 32)).alloc (.cells #[.int .i64 0, .slice none 0 0, .slice none 0 0] 51)) w.heap.size k a r := (FtAt.new w 32 k a r).below ((Below.refl _ _).alloc (Nat.le_refl _) _)
  have P0 : ((w.alloc (.cells #[.int .i64 k, .int .i64 a, .int .i64 r] 32)).alloc (.cells #[.int .i64 0, .slice none 0 0, .slice none 0 0] 51)).heap[w.heap.size + 1]? = some (.cells #[.int .i64 0, .slice none 0 0, .slice none 0 0] 51 (0, 0)) := by
    have := heap_alloc_new (w.alloc (.cells #[.int .i64 k, .int .i64 a, .int .i64 r] 32)) (.cells #[.int .i64 0, .slice none 0 0, .slice none 0 0] 51)
    simpa using this
  obtain ⟨t, ht⟩ : ∃ t, toldB k a r = t := ⟨_, rfl⟩
  obtain ⟨q0, q1, q2⟩ := F0
  have F0 : FtAt ((w.alloc (.cells #[.int .i64 k, .int .i64 a, .int .i64 r] 32)).alloc (.cells #[.int .i64 0, .slice none 0 0, .slice none 0 0] 51)) w.heap.size k a r := ⟨q0, q1, q2⟩
  have HT := Lib.hid ht
  go_enter Try.func28, Try.ntmps28
  go_wp2_with fail
  refine (told_any _ _ _ _).mono ?_; rintro e w1 ⟨rfl, hb1⟩; rw [HT.out]
  have P1 := (hb1.block _ (Array.getElem?_eq_some_iff.1 P0).1).trans P0
  have F1 := F0.below hb1
  have hbb := hb0.trans hb1
  clear P0 F0 q0 q1 q2 hb0 hb1
  obtain ⟨q0, q1, q2⟩ := F1
  cases t
  · have sq0 : w1.cell? ⟨w.heap.size + 1, 0, none⟩ = some (.int .i64 0) := by rw [cell_of_row w1 _ _ _ _ _ P1]; rfl
    have sf0 := frozen_of_row w1 (w.heap.size + 1) 0 _ _ P1
    have sq1 : w1.cell? ⟨w.heap.size + 1, 1, none⟩ = some (.slice none 0 0) := by rw [cell_of_row w1 _ _ _ _ _ P1]; rfl
    have sf1 := frozen_of_row w1 (w.heap.size + 1) 1 _ _ P1
    have sq2 : w1.cell? ⟨w.heap.size + 1, 2, none⟩ = some (.slice none 0 0) := by rw [cell_of_row w1 _ _ _ _ _ P1]; rfl
    have sf2 := frozen_of_row w1 (w.heap.size + 1) 2 _ _ P1
    go_wp2
    refine bodyPost_ret (v := .agg #[.int .i64 0, .slice none 0 0, .slice none 0 0]) (by simp [results, Try.results28, go_sem, sq0, sq1, sq2]) rfl ⟨none, 0, by rw [mgL_no ht, mgW_no ht]; rfl, by rw [mgW_no ht]; exact .inl ⟨none, rfl, rfl, rfl⟩, Ext.sets3 hbb (by omega) _ _ _⟩
  · have hi := told_in ht
    obtain ⟨⟨hk0, hk1⟩, ⟨ha0, ha1⟩, ⟨hr0, hr1⟩⟩ := hi
    have hws : w.heap.size + 1 < w1.heap.size := (Array.getElem?_eq_some_iff.1 P1).1
    have hsz : (((w1.setCell ⟨w.heap.size + 1, 0, none⟩ (.int .i64 (100 + k))).setCell ⟨w.heap.size + 1, 1, none⟩ (.slice (some ⟨w1.heap.size, 0, none⟩) 3 3)).setCell ⟨w.heap.size + 1, 2, none⟩ (.slice none 0 0)).heap.size = w1.heap.size := by first | rfl | simp
    have hRw : Row ((((w1.setCell ⟨w.heap.size + 1, 0, none⟩ (.int .i64 (100 + k))).setCell ⟨w.heap.size + 1, 1, none⟩ (.slice (some ⟨w1.heap.size, 0, none⟩) 3 3)).setCell ⟨w.heap.size + 1, 2, none⟩ (.slice none 0 0)).alloc (.cells #[.int .i64 (a / 256), .int .i64 (a % 256), .int .i64 r] 3)) w1.heap.size 3 1 (.slice (some ⟨w1.heap.size, 0, none⟩) 3 3) 3 (cI [a / 256, a % 256, r]) := by
      have := Row.lit (w := (((w1.setCell ⟨w.heap.size + 1, 0, none⟩ (.int .i64 (100 + k))).setCell ⟨w.heap.size + 1, 1, none⟩ (.slice (some ⟨w1.heap.size, 0, none⟩) 3 3)).setCell ⟨w.heap.size + 1, 2, none⟩ (.slice none 0 0))) (B := w1.heap.size) (e := 3) (sz := 1) (n := 3) #[.int .i64 (a / 256), .int .i64 (a % 256), .int .i64 r] rfl (by unfold maxLen; omega) (by rw [hsz]; exact Nat.le_refl _)
      rw [hsz] at this
      exact this
    have hbW := (Ext.sets3 hbb (show w.heap.size ≤ w.heap.size + 1 by omega) (.int .i64 (100 + k)) (.slice (some ⟨w1.heap.size, 0, none⟩) 3 3) (.slice none 0 0)).alloc (by rw [hsz]; omega) (.cells #[.int .i64 (a / 256), .int .i64 (a % 256), .int .i64 r] 3)
    have P3 : (((w1.setCell ⟨w.heap.size + 1, 0, none⟩ (.int .i64 (100 + k))).setCell ⟨w.heap.size + 1, 1, none⟩ (.slice (some ⟨w1.heap.size, 0, none⟩) 3 3)).setCell ⟨w.heap.size + 1, 2, none⟩ (.slice none 0 0)).heap[w.heap.size + 1]? = some (.cells #[.int .i64 (100 + k), .slice (some ⟨w1.heap.size, 0, none⟩) 3 3, .slice none 0 0] 51 (0, 0)) := heap_setCell_same _ _ 2 _ _ (.slice none 0 0) (heap_setCell_same _ _ 1 _ _ (.slice (some ⟨w1.heap.size, 0, none⟩) 3 3) (heap_setCell_same _ _ 0 _ _ (.int .i64 (100 + k)) P1))
    have P4 : ((((w1.setCell ⟨w.heap.size + 1, 0, none⟩ (.int .i64 (100 + k))).setCell ⟨w.heap.size + 1, 1, none⟩ (.slice (some ⟨w1.heap.size, 0, none⟩) 3 3)).setCell ⟨w.heap.size + 1, 2, none⟩ (.slice none 0 0)).alloc (.cells #[.int .i64 (a / 256), .int .i64 (a % 256), .int .i64 r] 3)).heap[w.heap.size + 1]? = some (.cells #[.int .i64 (100 + k), .slice (some ⟨w1.heap.size, 0, none⟩) 3 3, .slice none 0 0] 51 (0, 0)) := ((show Ext (((w1.setCell ⟨w.heap.size + 1, 0, none⟩ (.int .i64 (100 + k))).setCell ⟨w.heap.size + 1, 1, none⟩ (.slice (some ⟨w1.heap.size, 0, none⟩) 3 3)).setCell ⟨w.heap.size + 1, 2, none⟩ (.slice none 0 0)) _ from (Below.refl _ _).alloc (Nat.le_refl _) _).block _ (Array.getElem?_eq_some_iff.1 P3).1).trans P3
    have z0 : ((((w1.setCell ⟨w.heap.size + 1, 0, none⟩ (.int .i64 (100 + k))).setCell ⟨w.heap.size + 1, 1, none⟩ (.slice (some ⟨w1.heap.size, 0, none⟩) 3 3)).setCell ⟨w.heap.size + 1, 2, none⟩ (.slice none 0 0)).alloc (.cells #[.int .i64 (a / 256), .int .i64 (a % 256), .int .i64 r] 3)).cell? ⟨w.heap.size + 1, 0, none⟩ = some (.int .i64 (100 + k)) := by rw [cell_of_row _ _ _ _ _ _ P4]; rfl
    have z1 : ((((w1.setCell ⟨w.heap.size + 1, 0, none⟩ (.int .i64 (100 + k))).setCell ⟨w.heap.size + 1, 1, none⟩ (.slice (some ⟨w1.heap.size, 0, none⟩) 3 3)).setCell ⟨w.heap.size + 1, 2, none⟩ (.slice none 0 0)).alloc (.cells #[.int .i64 (a / 256), .int .i64 (a % 256), .int .i64 r] 3)).cell? ⟨w.heap.size + 1, 1, none⟩ = some (.slice (some ⟨w1.heap.size, 0, none⟩) 3 3) := by rw [cell_of_row _ _ _ _ _ _ P4]; rfl
    have z2 : ((((w1.setCell ⟨w.heap.size + 1, 0, none⟩ (.int .i64 (100 + k))).setCell ⟨w.heap.size + 1, 1, none⟩ (.slice (some ⟨w1.heap.size, 0, none⟩) 3 3)).setCell ⟨w.heap.size + 1, 2, none⟩ (.slice none 0 0)).alloc (.cells #[.int .i64 (a / 256), .int .i64 (a % 256), .int .i64 r] 3)).cell? ⟨w.heap.size + 1, 2, none⟩ = some (.slice none 0 0) := by rw [cell_of_row _ _ _ _ _ _ P4]; rfl
    have sq0 : w1.cell? ⟨w.heap.size + 1, 0, none⟩ = some (.int .i64 0) := by rw [cell_of_row w1 _ _ _ _ _ P1]; rfl
    have sf0 := frozen_of_row w1 (w.heap.size + 1) 0 _ _ P1
    have sq1 : w1.cell? ⟨w.heap.size + 1, 1, none⟩ = some (.slice none 0 0) := by rw [cell_of_row w1 _ _ _ _ _ P1]; rfl
    have sf1 := frozen_of_row w1 (w.heap.size + 1) 1 _ _ P1
    have sq2 : w1.cell? ⟨w.heap.size + 1, 2, none⟩ = some (.slice none 0 0) := by rw [cell_of_row w1 _ _ _ _ _ P1]; rfl
    have sf2 := frozen_of_row w1 (w.heap.size + 1) 2 _ _ P1
    clear P1 P3 P4
    go_wp2
    refine bodyPost_ret (v := .agg #[.int .i64 (100 + k), .slice (some ⟨w1.heap.size, 0, none⟩) 3 3, .slice none 0 0]) (by simp [results, Try.results28, go_sem, z0, z1, z2]) rfl ⟨some ⟨w1.heap.size, 0, none⟩, 3, by rw [mgL_yes ht, mgW_yes ht]; rfl, by rw [mgW_yes ht]; exact Fr.mono (Or.inr hRw) (by omega), hbW⟩

set_option maxHeartbeats 2000000 in
theorem specFaultMessage_any (k a r : Int) (w : World) :
    Calls Try.prog 27 #[.agg #[.int .i64 k, .int .i64 a, .int .i64 r]] w fun e w' => ∃ A c, e = .returned (.agg #[.int .i64 (mgL k a r), .slice A (mgW k a r).length c, .slice none 0 0]) ∧ Fr w' w.heap.size 3 1 (.slice A (mgW k a r).length c) (mgW k a r).length (cI (mgW k a r)) ∧ Ext w w' := by
  have hb0 : Ext w ((w.alloc (.cells #[.int .i64 k, .int .i64 a, .int .i64 r] 32)).alloc (.cells #[.int .i64 0, .slice none 0 0, .slice none 0 0] 51)) := ((Below.refl _ _).alloc (Nat.le_refl _) _).alloc (by simp) _
  have F0 : FtAt ((w.alloc (.cells #[.int .i64 k, .int .i64 a, .int .i64 r] 32)).alloc (.cells #[.int .i64 0, .slice none 0 0, .slice none 0 0] 51)) w.heap.size k a r := (FtAt.new w 32 k a r).below ((Below.refl _ _).alloc (Nat.le_refl _) _)
  have P0 : ((w.alloc (.cells #[.int .i64 k, .int .i64 a, .int .i64 r] 32)).alloc (.cells #[.int .i64 0, .slice none 0 0, .slice none 0 0] 51)).heap[w.heap.size + 1]? = some (.cells #[.int .i64 0, .slice none 0 0, .slice none 0 0] 51 (0, 0)) := by
    have := heap_alloc_new (w.alloc (.cells #[.int .i64 k, .int .i64 a, .int .i64 r] 32)) (.cells #[.int .i64 0, .slice none 0 0, .slice none 0 0] 51)
    simpa using this
  obtain ⟨t, ht⟩ : ∃ t, toldB k a r = t := ⟨_, rfl⟩
  obtain ⟨q0, q1, q2⟩ := F0
  obtain ⟨w1, hw1⟩ : ∃ w1, w1 = ((w.alloc (.cells #[.int .i64 k, .int .i64 a, .int .i64 r] 32)).alloc (.cells #[.int .i64 0, .slice none 0 0, .slice none 0 0] 51)) := ⟨_, rfl⟩
  rw [← hw1] at hb0 P0 q0 q1 q2
  obtain ⟨t1, e1⟩ : ∃ b, inB k 1 2 = b := ⟨_, rfl⟩
  obtain ⟨t2, e2⟩ : ∃ b, inB a 0 65535 = b := ⟨_, rfl⟩
  obtain ⟨t3, e3⟩ : ∃ b, inB r 0 15 = b := ⟨_, rfl⟩
  have E2 := Lib.hid e2
  have E3 := Lib.hid e3
  have htt : (t1 && t2 && t3) = t := by rw [← ht, ← e1, ← e2, ← e3]; rfl
  go_enter Try.func27, Try.ntmps27
  go_upto_region 1 with fail
  rw [← hw1]
  clear hw1
  cases t1
  · have hkn : ¬ (k = 1 ∨ k = 2) := fun h => by rw [inB_iff.2 (by omega)] at e1; cases e1
    obtain rfl : t = false := by rw [← htt]; rfl
    have k1 : (k == 1) = false := by rw [beq_eq_false_iff_ne]; omega
    have k2 : (k == 2) = false := by rw [beq_eq_false_iff_ne]; omega
    have sq0 : w1.cell? ⟨w.heap.size + 1, 0, none⟩ = some (.int .i64 0) := by rw [cell_of_row w1 _ _ _ _ _ P0]; rfl
    have sf0 := frozen_of_row w1 (w.heap.size + 1) 0 _ _ P0
    have sq1 : w1.cell? ⟨w.heap.size + 1, 1, none⟩ = some (.slice none 0 0) := by rw [cell_of_row w1 _ _ _ _ _ P0]; rfl
    have sf1 := frozen_of_row w1 (w.heap.size + 1) 1 _ _ P0
    have sq2 : w1.cell? ⟨w.heap.size + 1, 2, none⟩ = some (.slice none 0 0) := by rw [cell_of_row w1 _ _ _ _ _ P0]; rfl
    have sf2 := frozen_of_row w1 (w.heap.size + 1) 2 _ _ P0
    go_wp2
    refine bodyPost_ret (v := .agg #[.int .i64 0, .slice none 0 0, .slice none 0 0]) (by simp [results, Try.results27, go_sem, sq0, sq1, sq2]) rfl ⟨none, 0, by rw [mgL_no ht, mgW_no ht]; rfl, by rw [mgW_no ht]; exact .inl ⟨none, rfl, rfl, rfl⟩, Ext.sets3 hb0 (by omega) _ _ _⟩
  have hk := inB_iff.1 e1
  have hk12 : k = 1 ∨ k = 2 := by omega
  cases t2
  · obtain rfl : t = false := by rw [← htt]; rfl
    rcases hk12 with rfl | rfl
    · go_wp2_with fail
      refine (l1In_any _ _ _ _).mono ?_; rintro e w' ⟨rfl, rfl⟩; rw [E2.out]
      have sq0 : w1.cell? ⟨w.heap.size + 1, 0, none⟩ = some (.int .i64 0) := by rw [cell_of_row w1 _ _ _ _ _ P0]; rfl
      have sf0 := frozen_of_row w1 (w.heap.size + 1) 0 _ _ P0
      have sq1 : w1.cell? ⟨w.heap.size + 1, 1, none⟩ = some (.slice none 0 0) := by rw [cell_of_row w1 _ _ _ _ _ P0]; rfl
      have sf1 := frozen_of_row w1 (w.heap.size + 1) 1 _ _ P0
      have sq2 : w1.cell? ⟨w.heap.size + 1, 2, none⟩ = some (.slice none 0 0) := by rw [cell_of_row w1 _ _ _ _ _ P0]; rfl
      have sf2 := frozen_of_row w1 (w.heap.size + 1) 2 _ _ P0
      go_wp2
      refine bodyPost_ret (v := .agg #[.int .i64 0, .slice none 0 0, .slice none 0 0]) (by simp [results, Try.results27, go_sem, sq0, sq1, sq2]) rfl ⟨none, 0, by rw [mgL_no ht, mgW_no ht]; rfl, by rw [mgW_no ht]; exact .inl ⟨none, rfl, rfl, rfl⟩, Ext.sets3 hb0 (by omega) _ _ _⟩
    · go_wp2_with fail
      refine (l1In_any _ _ _ _).mono ?_; rintro e w' ⟨rfl, rfl⟩; rw [E2.out]
      have sq0 : w1.cell? ⟨w.heap.size + 1, 0, none⟩ = some (.int .i64 0) := by rw [cell_of_row w1 _ _ _ _ _ P0]; rfl
      have sf0 := frozen_of_row w1 (w.heap.size + 1) 0 _ _ P0
      have sq1 : w1.cell? ⟨w.heap.size + 1, 1, none⟩ = some (.slice none 0 0) := by rw [cell_of_row w1 _ _ _ _ _ P0]; rfl
      have sf1 := frozen_of_row w1 (w.heap.size + 1) 1 _ _ P0
      have sq2 : w1.cell? ⟨w.heap.size + 1, 2, none⟩ = some (.slice none 0 0) := by rw [cell_of_row w1 _ _ _ _ _ P0]; rfl
      have sf2 := frozen_of_row w1 (w.heap.size + 1) 2 _ _ P0
      go_wp2
      refine bodyPost_ret (v := .agg #[.int .i64 0, .slice none 0 0, .slice none 0 0]) (by simp [results, Try.results27, go_sem, sq0, sq1, sq2]) rfl ⟨none, 0, by rw [mgL_no ht, mgW_no ht]; rfl, by rw [mgW_no ht]; exact .inl ⟨none, rfl, rfl, rfl⟩, Ext.sets3 hb0 (by omega) _ _ _⟩
  cases t3
  · obtain rfl : t = false := by rw [← htt]; rfl
    rcases hk12 with rfl | rfl
    · go_wp2_with fail
      refine (l1In_any _ _ _ _).mono ?_; rintro e w' ⟨rfl, rfl⟩; rw [E2.out]
      go_wp2_with fail
      refine (specRightsValid_any _ _).mono ?_; rintro e w' ⟨rfl, rfl⟩; rw [E3.out]
      have sq0 : w1.cell? ⟨w.heap.size + 1, 0, none⟩ = some (.int .i64 0) := by rw [cell_of_row w1 _ _ _ _ _ P0]; rfl
      have sf0 := frozen_of_row w1 (w.heap.size + 1) 0 _ _ P0
      have sq1 : w1.cell? ⟨w.heap.size + 1, 1, none⟩ = some (.slice none 0 0) := by rw [cell_of_row w1 _ _ _ _ _ P0]; rfl
      have sf1 := frozen_of_row w1 (w.heap.size + 1) 1 _ _ P0
      have sq2 : w1.cell? ⟨w.heap.size + 1, 2, none⟩ = some (.slice none 0 0) := by rw [cell_of_row w1 _ _ _ _ _ P0]; rfl
      have sf2 := frozen_of_row w1 (w.heap.size + 1) 2 _ _ P0
      go_wp2
      refine bodyPost_ret (v := .agg #[.int .i64 0, .slice none 0 0, .slice none 0 0]) (by simp [results, Try.results27, go_sem, sq0, sq1, sq2]) rfl ⟨none, 0, by rw [mgL_no ht, mgW_no ht]; rfl, by rw [mgW_no ht]; exact .inl ⟨none, rfl, rfl, rfl⟩, Ext.sets3 hb0 (by omega) _ _ _⟩
    · go_wp2_with fail
      refine (l1In_any _ _ _ _).mono ?_; rintro e w' ⟨rfl, rfl⟩; rw [E2.out]
      go_wp2_with fail
      refine (specRightsValid_any _ _).mono ?_; rintro e w' ⟨rfl, rfl⟩; rw [E3.out]
      have sq0 : w1.cell? ⟨w.heap.size + 1, 0, none⟩ = some (.int .i64 0) := by rw [cell_of_row w1 _ _ _ _ _ P0]; rfl
      have sf0 := frozen_of_row w1 (w.heap.size + 1) 0 _ _ P0
      have sq1 : w1.cell? ⟨w.heap.size + 1, 1, none⟩ = some (.slice none 0 0) := by rw [cell_of_row w1 _ _ _ _ _ P0]; rfl
      have sf1 := frozen_of_row w1 (w.heap.size + 1) 1 _ _ P0
      have sq2 : w1.cell? ⟨w.heap.size + 1, 2, none⟩ = some (.slice none 0 0) := by rw [cell_of_row w1 _ _ _ _ _ P0]; rfl
      have sf2 := frozen_of_row w1 (w.heap.size + 1) 2 _ _ P0
      go_wp2
      refine bodyPost_ret (v := .agg #[.int .i64 0, .slice none 0 0, .slice none 0 0]) (by simp [results, Try.results27, go_sem, sq0, sq1, sq2]) rfl ⟨none, 0, by rw [mgL_no ht, mgW_no ht]; rfl, by rw [mgW_no ht]; exact .inl ⟨none, rfl, rfl, rfl⟩, Ext.sets3 hb0 (by omega) _ _ _⟩
  obtain rfl : t = true := by rw [← htt]; rfl
  have hi := told_in ht
  obtain ⟨_, ⟨ha0, ha1⟩, ⟨hr0, hr1⟩⟩ := hi
  rcases hk12 with rfl | rfl
  · go_wp2_with fail
    refine (l1In_any _ _ _ _).mono ?_; rintro e w' ⟨rfl, rfl⟩; rw [E2.out]
    go_wp2_with fail
    refine (specRightsValid_any _ _).mono ?_; rintro e w' ⟨rfl, rfl⟩; rw [E3.out]
    have hws : w.heap.size + 1 < w1.heap.size := (Array.getElem?_eq_some_iff.1 P0).1
    have hsz : (((w1.setCell ⟨w.heap.size + 1, 0, none⟩ (.int .i64 101)).setCell ⟨w.heap.size + 1, 1, none⟩ (.slice (some ⟨w1.heap.size, 0, none⟩) 3 3)).setCell ⟨w.heap.size + 1, 2, none⟩ (.slice none 0 0)).heap.size = w1.heap.size := by first | rfl | simp
    have hRw : Row ((((w1.setCell ⟨w.heap.size + 1, 0, none⟩ (.int .i64 101)).setCell ⟨w.heap.size + 1, 1, none⟩ (.slice (some ⟨w1.heap.size, 0, none⟩) 3 3)).setCell ⟨w.heap.size + 1, 2, none⟩ (.slice none 0 0)).alloc (.cells #[.int .i64 (a / 256), .int .i64 (a % 256), .int .i64 r] 3)) w1.heap.size 3 1 (.slice (some ⟨w1.heap.size, 0, none⟩) 3 3) 3 (cI [a / 256, a % 256, r]) := by
      have := Row.lit (w := (((w1.setCell ⟨w.heap.size + 1, 0, none⟩ (.int .i64 101)).setCell ⟨w.heap.size + 1, 1, none⟩ (.slice (some ⟨w1.heap.size, 0, none⟩) 3 3)).setCell ⟨w.heap.size + 1, 2, none⟩ (.slice none 0 0))) (B := w1.heap.size) (e := 3) (sz := 1) (n := 3) #[.int .i64 (a / 256), .int .i64 (a % 256), .int .i64 r] rfl (by unfold maxLen; omega) (by rw [hsz]; exact Nat.le_refl _)
      rw [hsz] at this
      exact this
    have hbW := (Ext.sets3 hb0 (show w.heap.size ≤ w.heap.size + 1 by omega) (.int .i64 101) (.slice (some ⟨w1.heap.size, 0, none⟩) 3 3) (.slice none 0 0)).alloc (by rw [hsz]; omega) (.cells #[.int .i64 (a / 256), .int .i64 (a % 256), .int .i64 r] 3)
    have P3 : (((w1.setCell ⟨w.heap.size + 1, 0, none⟩ (.int .i64 101)).setCell ⟨w.heap.size + 1, 1, none⟩ (.slice (some ⟨w1.heap.size, 0, none⟩) 3 3)).setCell ⟨w.heap.size + 1, 2, none⟩ (.slice none 0 0)).heap[w.heap.size + 1]? = some (.cells #[.int .i64 101, .slice (some ⟨w1.heap.size, 0, none⟩) 3 3, .slice none 0 0] 51 (0, 0)) := heap_setCell_same _ _ 2 _ _ (.slice none 0 0) (heap_setCell_same _ _ 1 _ _ (.slice (some ⟨w1.heap.size, 0, none⟩) 3 3) (heap_setCell_same _ _ 0 _ _ (.int .i64 101) P0))
    have P4 : ((((w1.setCell ⟨w.heap.size + 1, 0, none⟩ (.int .i64 101)).setCell ⟨w.heap.size + 1, 1, none⟩ (.slice (some ⟨w1.heap.size, 0, none⟩) 3 3)).setCell ⟨w.heap.size + 1, 2, none⟩ (.slice none 0 0)).alloc (.cells #[.int .i64 (a / 256), .int .i64 (a % 256), .int .i64 r] 3)).heap[w.heap.size + 1]? = some (.cells #[.int .i64 101, .slice (some ⟨w1.heap.size, 0, none⟩) 3 3, .slice none 0 0] 51 (0, 0)) := ((show Ext (((w1.setCell ⟨w.heap.size + 1, 0, none⟩ (.int .i64 101)).setCell ⟨w.heap.size + 1, 1, none⟩ (.slice (some ⟨w1.heap.size, 0, none⟩) 3 3)).setCell ⟨w.heap.size + 1, 2, none⟩ (.slice none 0 0)) _ from (Below.refl _ _).alloc (Nat.le_refl _) _).block _ (Array.getElem?_eq_some_iff.1 P3).1).trans P3
    have z0 : ((((w1.setCell ⟨w.heap.size + 1, 0, none⟩ (.int .i64 101)).setCell ⟨w.heap.size + 1, 1, none⟩ (.slice (some ⟨w1.heap.size, 0, none⟩) 3 3)).setCell ⟨w.heap.size + 1, 2, none⟩ (.slice none 0 0)).alloc (.cells #[.int .i64 (a / 256), .int .i64 (a % 256), .int .i64 r] 3)).cell? ⟨w.heap.size + 1, 0, none⟩ = some (.int .i64 101) := by rw [cell_of_row _ _ _ _ _ _ P4]; rfl
    have z1 : ((((w1.setCell ⟨w.heap.size + 1, 0, none⟩ (.int .i64 101)).setCell ⟨w.heap.size + 1, 1, none⟩ (.slice (some ⟨w1.heap.size, 0, none⟩) 3 3)).setCell ⟨w.heap.size + 1, 2, none⟩ (.slice none 0 0)).alloc (.cells #[.int .i64 (a / 256), .int .i64 (a % 256), .int .i64 r] 3)).cell? ⟨w.heap.size + 1, 1, none⟩ = some (.slice (some ⟨w1.heap.size, 0, none⟩) 3 3) := by rw [cell_of_row _ _ _ _ _ _ P4]; rfl
    have z2 : ((((w1.setCell ⟨w.heap.size + 1, 0, none⟩ (.int .i64 101)).setCell ⟨w.heap.size + 1, 1, none⟩ (.slice (some ⟨w1.heap.size, 0, none⟩) 3 3)).setCell ⟨w.heap.size + 1, 2, none⟩ (.slice none 0 0)).alloc (.cells #[.int .i64 (a / 256), .int .i64 (a % 256), .int .i64 r] 3)).cell? ⟨w.heap.size + 1, 2, none⟩ = some (.slice none 0 0) := by rw [cell_of_row _ _ _ _ _ _ P4]; rfl
    have sq0 : w1.cell? ⟨w.heap.size + 1, 0, none⟩ = some (.int .i64 0) := by rw [cell_of_row w1 _ _ _ _ _ P0]; rfl
    have sf0 := frozen_of_row w1 (w.heap.size + 1) 0 _ _ P0
    have sq1 : w1.cell? ⟨w.heap.size + 1, 1, none⟩ = some (.slice none 0 0) := by rw [cell_of_row w1 _ _ _ _ _ P0]; rfl
    have sf1 := frozen_of_row w1 (w.heap.size + 1) 1 _ _ P0
    have sq2 : w1.cell? ⟨w.heap.size + 1, 2, none⟩ = some (.slice none 0 0) := by rw [cell_of_row w1 _ _ _ _ _ P0]; rfl
    have sf2 := frozen_of_row w1 (w.heap.size + 1) 2 _ _ P0
    clear P0 P3 P4
    go_wp2
    refine bodyPost_ret (v := .agg #[.int .i64 101, .slice (some ⟨w1.heap.size, 0, none⟩) 3 3, .slice none 0 0]) (by simp [results, Try.results27, go_sem, z0, z1, z2]) rfl ⟨some ⟨w1.heap.size, 0, none⟩, 3, by rw [mgL_yes ht, mgW_yes ht]; rfl, by rw [mgW_yes ht]; exact Fr.mono (Or.inr hRw) (by omega), hbW⟩
  · go_wp2_with fail
    refine (l1In_any _ _ _ _).mono ?_; rintro e w' ⟨rfl, rfl⟩; rw [E2.out]
    go_wp2_with fail
    refine (specRightsValid_any _ _).mono ?_; rintro e w' ⟨rfl, rfl⟩; rw [E3.out]
    have hws : w.heap.size + 1 < w1.heap.size := (Array.getElem?_eq_some_iff.1 P0).1
    have hsz : (((w1.setCell ⟨w.heap.size + 1, 0, none⟩ (.int .i64 102)).setCell ⟨w.heap.size + 1, 1, none⟩ (.slice (some ⟨w1.heap.size, 0, none⟩) 3 3)).setCell ⟨w.heap.size + 1, 2, none⟩ (.slice none 0 0)).heap.size = w1.heap.size := by first | rfl | simp
    have hRw : Row ((((w1.setCell ⟨w.heap.size + 1, 0, none⟩ (.int .i64 102)).setCell ⟨w.heap.size + 1, 1, none⟩ (.slice (some ⟨w1.heap.size, 0, none⟩) 3 3)).setCell ⟨w.heap.size + 1, 2, none⟩ (.slice none 0 0)).alloc (.cells #[.int .i64 (a / 256), .int .i64 (a % 256), .int .i64 r] 3)) w1.heap.size 3 1 (.slice (some ⟨w1.heap.size, 0, none⟩) 3 3) 3 (cI [a / 256, a % 256, r]) := by
      have := Row.lit (w := (((w1.setCell ⟨w.heap.size + 1, 0, none⟩ (.int .i64 102)).setCell ⟨w.heap.size + 1, 1, none⟩ (.slice (some ⟨w1.heap.size, 0, none⟩) 3 3)).setCell ⟨w.heap.size + 1, 2, none⟩ (.slice none 0 0))) (B := w1.heap.size) (e := 3) (sz := 1) (n := 3) #[.int .i64 (a / 256), .int .i64 (a % 256), .int .i64 r] rfl (by unfold maxLen; omega) (by rw [hsz]; exact Nat.le_refl _)
      rw [hsz] at this
      exact this
    have hbW := (Ext.sets3 hb0 (show w.heap.size ≤ w.heap.size + 1 by omega) (.int .i64 102) (.slice (some ⟨w1.heap.size, 0, none⟩) 3 3) (.slice none 0 0)).alloc (by rw [hsz]; omega) (.cells #[.int .i64 (a / 256), .int .i64 (a % 256), .int .i64 r] 3)
    have P3 : (((w1.setCell ⟨w.heap.size + 1, 0, none⟩ (.int .i64 102)).setCell ⟨w.heap.size + 1, 1, none⟩ (.slice (some ⟨w1.heap.size, 0, none⟩) 3 3)).setCell ⟨w.heap.size + 1, 2, none⟩ (.slice none 0 0)).heap[w.heap.size + 1]? = some (.cells #[.int .i64 102, .slice (some ⟨w1.heap.size, 0, none⟩) 3 3, .slice none 0 0] 51 (0, 0)) := heap_setCell_same _ _ 2 _ _ (.slice none 0 0) (heap_setCell_same _ _ 1 _ _ (.slice (some ⟨w1.heap.size, 0, none⟩) 3 3) (heap_setCell_same _ _ 0 _ _ (.int .i64 102) P0))
    have P4 : ((((w1.setCell ⟨w.heap.size + 1, 0, none⟩ (.int .i64 102)).setCell ⟨w.heap.size + 1, 1, none⟩ (.slice (some ⟨w1.heap.size, 0, none⟩) 3 3)).setCell ⟨w.heap.size + 1, 2, none⟩ (.slice none 0 0)).alloc (.cells #[.int .i64 (a / 256), .int .i64 (a % 256), .int .i64 r] 3)).heap[w.heap.size + 1]? = some (.cells #[.int .i64 102, .slice (some ⟨w1.heap.size, 0, none⟩) 3 3, .slice none 0 0] 51 (0, 0)) := ((show Ext (((w1.setCell ⟨w.heap.size + 1, 0, none⟩ (.int .i64 102)).setCell ⟨w.heap.size + 1, 1, none⟩ (.slice (some ⟨w1.heap.size, 0, none⟩) 3 3)).setCell ⟨w.heap.size + 1, 2, none⟩ (.slice none 0 0)) _ from (Below.refl _ _).alloc (Nat.le_refl _) _).block _ (Array.getElem?_eq_some_iff.1 P3).1).trans P3
    have z0 : ((((w1.setCell ⟨w.heap.size + 1, 0, none⟩ (.int .i64 102)).setCell ⟨w.heap.size + 1, 1, none⟩ (.slice (some ⟨w1.heap.size, 0, none⟩) 3 3)).setCell ⟨w.heap.size + 1, 2, none⟩ (.slice none 0 0)).alloc (.cells #[.int .i64 (a / 256), .int .i64 (a % 256), .int .i64 r] 3)).cell? ⟨w.heap.size + 1, 0, none⟩ = some (.int .i64 102) := by rw [cell_of_row _ _ _ _ _ _ P4]; rfl
    have z1 : ((((w1.setCell ⟨w.heap.size + 1, 0, none⟩ (.int .i64 102)).setCell ⟨w.heap.size + 1, 1, none⟩ (.slice (some ⟨w1.heap.size, 0, none⟩) 3 3)).setCell ⟨w.heap.size + 1, 2, none⟩ (.slice none 0 0)).alloc (.cells #[.int .i64 (a / 256), .int .i64 (a % 256), .int .i64 r] 3)).cell? ⟨w.heap.size + 1, 1, none⟩ = some (.slice (some ⟨w1.heap.size, 0, none⟩) 3 3) := by rw [cell_of_row _ _ _ _ _ _ P4]; rfl
    have z2 : ((((w1.setCell ⟨w.heap.size + 1, 0, none⟩ (.int .i64 102)).setCell ⟨w.heap.size + 1, 1, none⟩ (.slice (some ⟨w1.heap.size, 0, none⟩) 3 3)).setCell ⟨w.heap.size + 1, 2, none⟩ (.slice none 0 0)).alloc (.cells #[.int .i64 (a / 256), .int .i64 (a % 256), .int .i64 r] 3)).cell? ⟨w.heap.size + 1, 2, none⟩ = some (.slice none 0 0) := by rw [cell_of_row _ _ _ _ _ _ P4]; rfl
    have sq0 : w1.cell? ⟨w.heap.size + 1, 0, none⟩ = some (.int .i64 0) := by rw [cell_of_row w1 _ _ _ _ _ P0]; rfl
    have sf0 := frozen_of_row w1 (w.heap.size + 1) 0 _ _ P0
    have sq1 : w1.cell? ⟨w.heap.size + 1, 1, none⟩ = some (.slice none 0 0) := by rw [cell_of_row w1 _ _ _ _ _ P0]; rfl
    have sf1 := frozen_of_row w1 (w.heap.size + 1) 1 _ _ P0
    have sq2 : w1.cell? ⟨w.heap.size + 1, 2, none⟩ = some (.slice none 0 0) := by rw [cell_of_row w1 _ _ _ _ _ P0]; rfl
    have sf2 := frozen_of_row w1 (w.heap.size + 1) 2 _ _ P0
    clear P0 P3 P4
    go_wp2
    refine bodyPost_ret (v := .agg #[.int .i64 102, .slice (some ⟨w1.heap.size, 0, none⟩) 3 3, .slice none 0 0]) (by simp [results, Try.results27, go_sem, z0, z1, z2]) rfl ⟨some ⟨w1.heap.size, 0, none⟩, 3, by rw [mgL_yes ht, mgW_yes ht]; rfl, by rw [mgW_yes ht]; exact Fr.mono (Or.inr hRw) (by omega), hbW⟩

set_option maxHeartbeats 1000000 in
theorem eqMessage_self (l : Int) (A A' B B' : Option Addr) (n c c' m d d' : Nat) (xs : List Int) (cs : List (Int × Int × Int × Int)) (w : World) (h : Rd w 1 A n c (cI xs)) (h' : Rd w 1 A' n c' (cI xs)) (g : Rd w 4 B m d (c4 cs)) (g' : Rd w 4 B' m d' (c4 cs)) :
    Calls Try.prog 29 #[.agg #[.int .i64 l, .slice A n c, .slice B m d], .agg #[.int .i64 l, .slice A' n c', .slice B' m d']] w fun e w' => e = .returned (.bool true) ∧ Ext w w' := by
  have hb0 : Ext w ((w.alloc (.cells #[.int .i64 l, .slice A n c, .slice B m d] 51)).alloc (.cells #[.int .i64 l, .slice A' n c', .slice B' m d'] 51)) := ((Below.refl _ _).alloc (Nat.le_refl _) _).alloc (by simp) _
  have M0 : MsAt ((w.alloc (.cells #[.int .i64 l, .slice A n c, .slice B m d] 51)).alloc (.cells #[.int .i64 l, .slice A' n c', .slice B' m d'] 51)) w.heap.size (.int .i64 l) (.slice A n c) (.slice B m d) := (MsAt.new w 51 _ _ _).below ((Below.refl _ _).alloc (Nat.le_refl _) _)
  have M1 : MsAt ((w.alloc (.cells #[.int .i64 l, .slice A n c, .slice B m d] 51)).alloc (.cells #[.int .i64 l, .slice A' n c', .slice B' m d'] 51)) (w.heap.size + 1) (.int .i64 l) (.slice A' n c') (.slice B' m d') := by
    have := MsAt.new (w.alloc (.cells #[.int .i64 l, .slice A n c, .slice B m d] 51)) 51 (.int .i64 l) (.slice A' n c') (.slice B' m d')
    simpa using this
  have hA := h.below hb0
  have hA' := h'.below hb0
  have hB := g.below hb0
  have hB' := g'.below hb0
  obtain ⟨p0, p1, p2⟩ := M0
  obtain ⟨q0, q1, q2⟩ := M1
  clear h h' g g'
  go_enter Try.func29, Try.ntmps29
  go_wp2_with fail
  refine (eqIntS_any _ _ _ _ _ _ _ _ _ hA hA').mono ?_; rintro e w1 ⟨rfl, hb1⟩; rw [(eqIs_iff _ _).2 rfl]
  have x0 := kept_of_below hb1 _ _ p2
  have x1 := kept_of_below hb1 _ _ q2
  have hB1 := hB.below hb1
  have hB1' := hB'.below hb1
  have hbb := hb0.trans hb1
  clear p0 p1 p2 q0 q1 q2 hA hA' hB hB' hb0 hb1
  go_wp2_with fail
  refine (eqCapS_any _ _ _ _ _ _ _ _ _ hB1 hB1').mono ?_; rintro e w2 ⟨rfl, hb2⟩; rw [(eqCps_iff _ _).2 rfl]
  go_wp2
  go_ret
  exact ⟨rfl, hbb.trans hb2⟩

set_option maxHeartbeats 1000000 in
theorem markMessage_any (l : Int) (A : Option Addr) (n c B : Nat) (xs : List Int) (k : Int) (w : World) (h : Fr w B 3 1 (.slice A n c) n (cI xs)) (hl : xs.length = n) (hn : n ≤ 1000) (h0 : 0 ≤ k) (h1 : k ≤ 1000) (S : Nat → Prop) (hS : ∀ b, ownB (.slice A n c) n = some b → S b) :
    Calls Try.prog 30 #[.agg #[.int .i64 l, .slice A n c, .slice none 0 0], .int .i64 k] w fun e w' => e = .returned (.int .i64 (k + n)) ∧ Fr w' B 3 1 (.slice A n c) n (cI (marks1 k n)) ∧ Tch w w' S := by
  have hb0 : Ext w (w.alloc (.cells #[.int .i64 l, .slice A n c, .slice none 0 0] 51)) := (Below.refl _ _).alloc (Nat.le_refl _) _
  have M0 : MsAt (w.alloc (.cells #[.int .i64 l, .slice A n c, .slice none 0 0] 51)) w.heap.size (.int .i64 l) (.slice A n c) (.slice none 0 0) := MsAt.new w 51 _ _ _
  have hF := h.below hb0
  have hob : ∀ b, ownB (.slice A n c) n = some b → b ≠ w.heap.size := fun b hb => by have := (h.blkB b hb).2; omega
  obtain ⟨p0, p1, p2⟩ := M0
  clear h
  go_enter Try.func30, Try.ntmps30
  go_wp2_with fail
  refine (markIntS_any _ _ _ _ _ _ _ hF hl (by omega) h0 (by omega)).mono ?_; rintro e w1 ⟨rfl, hF1, hg1⟩
  have x2 : w1.cell? ⟨w.heap.size, 2, none⟩ = some (.slice none 0 0) := (Tch.of_grown (S := fun b => ownB (.slice A n c) n = some b) hg1 (fun k hk => hk)).cell p2 (fun hk => hob _ hk rfl)
  have hT1 : Tch w w1 S := (Tch.ext hb0).trans (Tch.of_grown hg1 hS)
  clear p0 p1 p2 hF hg1 hb0 hob
  go_wp2_with fail
  refine (markCapS_any none 0 0 0 [] _ _ (.inl ⟨none, rfl, rfl, rfl⟩) rfl (by omega) (by omega) (by omega)).mono ?_; rintro e w2 ⟨rfl, _, hg2⟩
  have hT2 : Tch w1 w2 (fun _ => False) := Tch.of_grown hg2 (fun k hk => by unfold ownB at hk; simp at hk)
  have hF2 := hF1.keepB (w' := w2) (fun g _ _ hlt => hT2.block g hlt (fun h => h))
  have hT3 : Tch w w2 S := hT1.trans ⟨hT2.os, hT2.tape, hT2.output, hT2.size, fun k hk _ => hT2.block k hk (fun h => h)⟩
  go_wp2
  go_ret
  exact ⟨by simp, hF2, hT3⟩

set_option maxHeartbeats 1000000 in
theorem heldMessage_any (l : Int) (A : Option Addr) (n c : Nat) (k : Int) (w : World) (h : Rd w 1 A n c (cI (marks1 k n))) (hn : n ≤ 1000) (h0 : 0 ≤ k) (h1 : k ≤ 1000) :
    Calls Try.prog 31 #[.agg #[.int .i64 l, .slice A n c, .slice none 0 0], .int .i64 k] w fun e w' => e = .returned (.int .i64 (k + n)) ∧ Ext w w' := by
  have hb0 : Ext w (w.alloc (.cells #[.int .i64 l, .slice A n c, .slice none 0 0] 51)) := (Below.refl _ _).alloc (Nat.le_refl _) _
  have M0 : MsAt (w.alloc (.cells #[.int .i64 l, .slice A n c, .slice none 0 0] 51)) w.heap.size (.int .i64 l) (.slice A n c) (.slice none 0 0) := MsAt.new w 51 _ _ _
  have hF := h.below hb0
  obtain ⟨p0, p1, p2⟩ := M0
  clear h
  go_enter Try.func31, Try.ntmps31
  go_wp2_with fail
  refine (heldIntS_any _ _ _ _ _ hF (by omega) h0 (by omega)).mono ?_; rintro e w' ⟨rfl, rfl⟩
  go_wp2_with fail
  refine (heldCapS_any none 0 0 _ _ (Rd.nil (by omega)) (by omega) (by omega) (by omega)).mono ?_; rintro e w' ⟨rfl, rfl⟩
  go_wp2
  go_ret
  exact ⟨by simp, hb0⟩
end Go.Proofs.Yteahiiflgiimnaa
