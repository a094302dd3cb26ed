/-
  The law FnMoveAllowed returns true at every input, and leaves all that was there as it was: the walk.
-/
import Derived.Test.YtbljkahdhckegaaDrN
import Derived.Test.YtbljkahdhckegaaDrX
import Derived.Test.YtbljkahdhckegaaAlive
import Derived.Test.YtbljkahdhckegaaMvL
namespace Go.Proofs.Ytbljkahdhckegaa
open Go.RowKit

set_option maxHeartbeats 2000000 in
theorem FnMoveAllowed_walk (A : Option Addr) (n0 c0 : Nat) (code : List Int) (w : World) (h0 : Rd w 1 A n0 c0 (code.map (Value.int .u8))) (F0 : ∀ z ∈ code, (Lit.int .u8 z).wf = true) :
    Calls Try.prog 4 #[.slice A n0 c0] w fun e w' => e = .returned (.bool true) ∧ Ext w w' := by
  obtain ⟨bs, hbs⟩ := bytes_of F0
  rw [hbs] at h0
  have hle := h0.le
  have htop := h0.top
  by_cases hn : 1048576 < n0
  · go_enter Try.func4, Try.ntmps4
    go_wp2
    go_ret
    exact ⟨rfl, Below.refl _ _⟩
  go_enter Try.func4, Try.ntmps4
  go_wp2_with fail
  refine (DrawMoveAllowed_any _ _ _ _ _ h0).mono ?_; rintro e w1 ⟨A1, n1, c1, g, kd, who, oth, thg, rts, rfl, hg, hn1, hn8, hb1⟩
  have hx : Ext w1 (w1.alloc (.cells #[.int .i64 kd, .int .i64 who, .int .i64 oth, .int .i64 thg, .int .i64 rts] 28)) := (Below.refl _ _).alloc (Nat.le_refl _) _
  have L0 := later_cell (w := w1.alloc (.cells #[.int .i64 kd, .int .i64 who, .int .i64 oth, .int .i64 thg, .int .i64 rts] 28)) (p := ⟨w1.heap.size, 0, none⟩) (v := .int .i64 kd) (by rw [World.cell?_alloc_new]; rfl)
  have L1 := later_cell (w := w1.alloc (.cells #[.int .i64 kd, .int .i64 who, .int .i64 oth, .int .i64 thg, .int .i64 rts] 28)) (p := ⟨w1.heap.size, 1, none⟩) (v := .int .i64 who) (by rw [World.cell?_alloc_new]; rfl)
  have L2 := later_cell (w := w1.alloc (.cells #[.int .i64 kd, .int .i64 who, .int .i64 oth, .int .i64 thg, .int .i64 rts] 28)) (p := ⟨w1.heap.size, 2, none⟩) (v := .int .i64 oth) (by rw [World.cell?_alloc_new]; rfl)
  have L3 := later_cell (w := w1.alloc (.cells #[.int .i64 kd, .int .i64 who, .int .i64 oth, .int .i64 thg, .int .i64 rts] 28)) (p := ⟨w1.heap.size, 3, none⟩) (v := .int .i64 thg) (by rw [World.cell?_alloc_new]; rfl)
  have L4 := later_cell (w := w1.alloc (.cells #[.int .i64 kd, .int .i64 who, .int .i64 oth, .int .i64 thg, .int .i64 rts] 28)) (p := ⟨w1.heap.size, 4, none⟩) (v := .int .i64 rts) (by rw [World.cell?_alloc_new]; rfl)
  have hg1 := hg.rdR.below hx
  have hbx := hb1.trans hx
  clear hb1 hg h0 hbs F0
  go_wp2_with fail
  refine (MoveAllowed_any _ _ _ _ kd who oth thg rts _ hg1).mono ?_; rintro e w2 ⟨rfl, hb2⟩
  have M0 := later_at L0 hb2
  have M1 := later_at L1 hb2
  have M2 := later_at L2 hb2
  have M3 := later_at L3 hb2
  have M4 := later_at L4 hb2
  go_wp2_with fail
  refine (specMoveAllowed_any _ _ _ _ kd who oth thg rts _ (hg1.below hb2)).mono ?_; rintro e w3 ⟨rfl, hb3⟩
  have hb23 := Ext.trans hb2 hb3
  have N0 := later_at L0 hb23
  have N1 := later_at L1 hb23
  have N2 := later_at L2 hb23
  have N3 := later_at L3 hb23
  have N4 := later_at L4 hb23
  have hg3 := hg1.below hb23
  have hb := hbx.trans hb23
  clear M0 M1 M2 M3 M4 L0 L1 L2 L3 L4 hb2 hb3 hb23 hbx hg1 hx
  obtain ⟨t, ht⟩ : ∃ t, allowR g (kd, who, oth, thg, rts) = t := ⟨_, rfl⟩
  rw [ht]
  cases t with
  | false =>
    clear ht
    go_wp2_with ((go_at_call 17; refine (alive_any _).mono ?_; rintro e w9 ⟨rfl, hb9⟩))
    go_ret
    exact ⟨rfl, hb.trans hb9⟩
  | true =>
    obtain ⟨q1, q2⟩ := allow_less ht
    obtain ⟨r5, hr5⟩ : ∃ r5, bits .and .i64 rts 5 = r5 := ⟨_, rfl⟩
    rw [hr5] at q1
    have hx4 : Ext w3 (w3.alloc (.cells #[.int .i64 kd, .int .i64 who, .int .i64 oth, .int .i64 thg, .int .i64 r5] 28)) := (Below.refl _ _).alloc (Nat.le_refl _) _
    have hx5 := (Ext.trans hx4 ((Below.refl _ _).alloc (Nat.le_refl _) (.cells #[.int .i64 3, .int .i64 who, .int .i64 oth, .int .i64 thg, .int .i64 rts] 28)))
    have hg5 := hg3.below hx5
    have hsz : (w3.alloc (.cells #[.int .i64 kd, .int .i64 who, .int .i64 oth, .int .i64 thg, .int .i64 r5] 28)).heap.size = w3.heap.size + 1 := by simp
    have hw13 : w1.heap.size < w3.heap.size := cell_lt N4
    have hne13 : ¬ w3.heap.size = w1.heap.size := by omega
    have Q1 := Lib.hid q1
    have Q2 := Lib.hid q2
    clear ht q1 q2
    go_wp2_with fail
    refine (MoveAllowed_any _ _ _ _ kd who oth thg r5 _ hg5).mono ?_; rintro e w6 ⟨rfl, hb6⟩; rw [Q1.out]
    have P0 : w6.cell? ⟨w3.heap.size + 1, 0, none⟩ = some (.int .i64 3) := by
      have := kept_of_below hb6 ⟨(w3.alloc (.cells #[.int .i64 kd, .int .i64 who, .int .i64 oth, .int .i64 thg, .int .i64 r5] 28)).heap.size, 0, none⟩ (.int .i64 3) (by rw [World.cell?_alloc_new]; rfl)
      rwa [hsz] at this
    have P1 : w6.cell? ⟨w3.heap.size + 1, 1, none⟩ = some (.int .i64 who) := by
      have := kept_of_below hb6 ⟨(w3.alloc (.cells #[.int .i64 kd, .int .i64 who, .int .i64 oth, .int .i64 thg, .int .i64 r5] 28)).heap.size, 1, none⟩ (.int .i64 who) (by rw [World.cell?_alloc_new]; rfl)
      rwa [hsz] at this
    have P2 : w6.cell? ⟨w3.heap.size + 1, 2, none⟩ = some (.int .i64 oth) := by
      have := kept_of_below hb6 ⟨(w3.alloc (.cells #[.int .i64 kd, .int .i64 who, .int .i64 oth, .int .i64 thg, .int .i64 r5] 28)).heap.size, 2, none⟩ (.int .i64 oth) (by rw [World.cell?_alloc_new]; rfl)
      rwa [hsz] at this
    have P3 : w6.cell? ⟨w3.heap.size + 1, 3, none⟩ = some (.int .i64 thg) := by
      have := kept_of_below hb6 ⟨(w3.alloc (.cells #[.int .i64 kd, .int .i64 who, .int .i64 oth, .int .i64 thg, .int .i64 r5] 28)).heap.size, 3, none⟩ (.int .i64 thg) (by rw [World.cell?_alloc_new]; rfl)
      rwa [hsz] at this
    have P4 : w6.cell? ⟨w3.heap.size + 1, 4, none⟩ = some (.int .i64 rts) := by
      have := kept_of_below hb6 ⟨(w3.alloc (.cells #[.int .i64 kd, .int .i64 who, .int .i64 oth, .int .i64 thg, .int .i64 r5] 28)).heap.size, 4, none⟩ (.int .i64 rts) (by rw [World.cell?_alloc_new]; rfl)
      rwa [hsz] at this
    go_wp2_with fail
    refine (MoveAllowed_any _ _ _ _ 3 who oth thg rts _ (hg5.below hb6)).mono ?_; rintro e w7 ⟨rfl, hb7⟩; rw [Q2.out]
    go_wp2
    go_ret
    exact ⟨rfl, hb.trans (Ext.trans hx5 (Ext.trans hb6 hb7))⟩
end Go.Proofs.Ytbljkahdhckegaa
