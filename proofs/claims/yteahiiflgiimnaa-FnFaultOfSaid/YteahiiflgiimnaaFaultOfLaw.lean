/-
  The law FnFaultOf returns true at every input, and leaves all that was there as it was: the walk.
-/
import Derived.Test.YteahiiflgiimnaaDrT
import Derived.Test.YteahiiflgiimnaaFaA
import Derived.Test.YteahiiflgiimnaaMpL
import Derived.Test.YteahiiflgiimnaaMpS
import Derived.Test.YteahiiflgiimnaaAlive
namespace Go.Proofs.Yteahiiflgiimnaa
open Go.RowKit

theorem fk_vals {ms : List Mp} {a r : Int} : fkOf ms a r = 0 ∨ fkOf ms a r = 1 ∨ fkOf ms a r = 2 ∨ fkOf ms a r = 3 := by
  unfold fkOf
  split
  · split
    · simp
    · split <;> simp
  · simp
theorem foR_one {ms : List Mp} {a r : Int} (hv : spValid ms = true) (h : fkOf ms a r = 1) : (foR ms a 0).1 = 1 := by
  have h0 : fkOf ms a 0 = 1 := by
    unfold fkOf at h ⊢
    split at h
    · rename_i hc
      rw [if_pos hc]
      split at h
      · rfl
      · split at h <;> simp at h
    · simp at h
  rw [foR_yes (by rw [hv, h0]; rfl), h0]
theorem foR_two {ms : List Mp} {a r : Int} (hv : spValid ms = true) (h : fkOf ms a r = 2) : (foR ms a 0).1 = 0 := by
  have h0 : fkOf ms a 0 = 0 := by
    unfold fkOf at h ⊢
    split at h
    · rename_i hc
      rw [if_pos hc]
      split at h
      · simp at h
      · rename_i m hl
        have hm := (spFrom_mem (spValid_from hv) _ (look_mem hl).1).2.2
        rw [if_pos (cov_zero (by omega))]
    · simp at h
  rw [foR_no (by rw [h0]; simp)]

set_option maxHeartbeats 4000000 in
theorem FnFaultOf_walk (A : Option Addr) (n0 c : Nat) (code : List Int) (w : World) (h0 : Rd w 1 A n0 c (code.map (Value.int .u8))) (F0 : ∀ z ∈ code, (Lit.int .u8 z).wf = true) :
    Calls Try.prog 11 #[.slice A n0 c] w fun e w' => e = .returned (.bool true) ∧ Ext w w' := by
  obtain ⟨bs, hbs⟩ := bytes_of F0
  rw [hbs] at h0
  have hle := h0.le
  have htop := h0.top
  by_cases hn : 1048576 < n0
  · go_enter Try.func11, Try.ntmps11
    go_wp2
    go_ret
    exact ⟨rfl, Below.refl _ _⟩
  go_enter Try.func11, Try.ntmps11
  go_wp2_with fail
  refine (DrawFaultOf_any _ _ _ _ _ h0).mono ?_; rintro e w1 ⟨A1, n, c1, ms, a, r, rfl, hg, h22, ha, hr, hb1⟩
  obtain ⟨t1, e1⟩ : ∃ b, spValid ms = b := ⟨_, rfl⟩
  obtain ⟨t2, e2⟩ : ∃ b, inB r 0 15 = b := ⟨_, rfl⟩
  have T1 := Lib.hid e1
  have T2 := Lib.hid e2
  cases hbad : (t1 && t2)
  · have HF : Hid (foR ms a r = (0, 0, 0)) := foR_no (by rw [e1, e2, hbad]; rfl)
    clear e1 e2
    go_wp2_with fail
    refine (FaultOf_any _ _ _ _ _ _ _ hg).mono ?_; rintro e w2 ⟨rfl, hb2⟩; rw [HF.out]
    simp only
    have hv : Ext w2 (w2.alloc (.cells #[.int .i64 0, .int .i64 0, .int .i64 0] 32)) := (Below.refl _ _).alloc (Nat.le_refl _) _
    have G0 := later_cell (show (w2.alloc (.cells #[.int .i64 0, .int .i64 0, .int .i64 0] 32)).cell? ⟨w2.heap.size, 0, none⟩ = some (.int .i64 0) by rw [World.cell?_alloc_new]; rfl)
    have G1 := later_cell (show (w2.alloc (.cells #[.int .i64 0, .int .i64 0, .int .i64 0] 32)).cell? ⟨w2.heap.size, 1, none⟩ = some (.int .i64 0) by rw [World.cell?_alloc_new]; rfl)
    have G2 := later_cell (show (w2.alloc (.cells #[.int .i64 0, .int .i64 0, .int .i64 0] 32)).cell? ⟨w2.heap.size, 2, none⟩ = some (.int .i64 0) by rw [World.cell?_alloc_new]; rfl)
    have hg2 := hg.below (hb2.trans hv)
    have hcall : ∀ nw : Later (w2.alloc (.cells #[.int .i64 0, .int .i64 0, .int .i64 0] 32)), Calls Try.prog 21 #[.slice A1 n c1, .int .i64 a, .int .i64 r] nw.out fun e w' => e = .returned (.agg #[.int .i64 0, .int .i64 0, .int .i64 0]) ∧ Ext nw.out w' := fun nw => by
      have := specFaultOf_any _ _ _ _ a r nw.out (hg2.below nw.ext)
      rw [HF.out] at this
      exact this
    have hbb := (hb1.trans hb2).trans hv
    clear hg hb1 hb2 h0 F0 hbs hv
    go_wp2
    (refine wp_region_later (by kernel_rfl) (by kernel_rfl) ?_; repeat (any_goals (first | (with_reducible refine wpQuiet_nil ?_; intro wq hq) | go_big_quiet_step (((go_at_call 21; exact later_of _ (hcall _)))))))
    have hgq := hg2.below hq
    have hb3 := hbb.trans hq
    have g0 := G0 ⟨_, hq⟩
    have g1 := G1 ⟨_, hq⟩
    have g2 := G2 ⟨_, hq⟩
    clear G0 G1 G2 hcall hg2
    cases t1
    · go_wp2_with fail
      refine (specSpaceValid_any _ _ _ _ _ hgq).mono ?_; rintro e w4 ⟨rfl, hb4⟩; rw [T1.out]
      have q0 := later_cell g0 ⟨_, hb4⟩
      have q1 := later_cell g1 ⟨_, hb4⟩
      have q2 := later_cell g2 ⟨_, hb4⟩
      clear g0 g1 g2
      go_wp2_with ((go_at_call 25; refine (alive_any _).mono ?_; rintro e w9 ⟨rfl, hb9⟩))
      go_ret
      exact ⟨rfl, (hb3.trans hb4).trans hb9⟩
    · obtain rfl : t2 = false := by simpa using hbad
      go_wp2_with fail
      refine (specSpaceValid_any _ _ _ _ _ hgq).mono ?_; rintro e w4 ⟨rfl, hb4⟩; rw [T1.out]
      have q0 := later_cell g0 ⟨_, hb4⟩
      have q1 := later_cell g1 ⟨_, hb4⟩
      have q2 := later_cell g2 ⟨_, hb4⟩
      clear g0 g1 g2
      go_wp2_with fail
      refine (specRightsValid_any _ _).mono ?_; rintro e w' ⟨rfl, rfl⟩; rw [T2.out]
      go_wp2_with ((go_at_call 25; refine (alive_any _).mono ?_; rintro e w9 ⟨rfl, hb9⟩))
      go_ret
      exact ⟨rfl, (hb3.trans hb4).trans hb9⟩
  obtain ⟨rfl, rfl⟩ : t1 = true ∧ t2 = true := by simpa using hbad
  obtain ⟨tr, htr⟩ : ∃ z, trOf ms a r = z := ⟨_, rfl⟩
  have HT := Lib.hid htr
  obtain ⟨k0, k1, k2, hk⟩ : ∃ x y z, foR ms a 0 = (x, y, z) := ⟨_, _, _, rfl⟩
  have HK := Lib.hid hk
  have hz := tr_fk (a := a) e1 e2
  rw [htr] at hz
  clear hbad htr
  rcases fk_vals (ms := ms) (a := a) (r := r) with hf | hf | hf | hf
  · have HF : Hid (foR ms a r = (0, 0, 0)) := foR_no (by rw [e1, e2, hf]; rfl)
    have htr0 : 0 ≤ tr := hz.2 hf
    clear e1 e2 hf hz hk
    go_wp2_with fail
    refine (FaultOf_any _ _ _ _ _ _ _ hg).mono ?_; rintro e w2 ⟨rfl, hb2⟩; rw [HF.out]
    simp only
    have hv : Ext w2 (w2.alloc (.cells #[.int .i64 0, .int .i64 0, .int .i64 0] 32)) := (Below.refl _ _).alloc (Nat.le_refl _) _
    have G0 := later_cell (show (w2.alloc (.cells #[.int .i64 0, .int .i64 0, .int .i64 0] 32)).cell? ⟨w2.heap.size, 0, none⟩ = some (.int .i64 0) by rw [World.cell?_alloc_new]; rfl)
    have G1 := later_cell (show (w2.alloc (.cells #[.int .i64 0, .int .i64 0, .int .i64 0] 32)).cell? ⟨w2.heap.size, 1, none⟩ = some (.int .i64 0) by rw [World.cell?_alloc_new]; rfl)
    have G2 := later_cell (show (w2.alloc (.cells #[.int .i64 0, .int .i64 0, .int .i64 0] 32)).cell? ⟨w2.heap.size, 2, none⟩ = some (.int .i64 0) by rw [World.cell?_alloc_new]; rfl)
    have hg2 := hg.below (hb2.trans hv)
    have hcall : ∀ nw : Later (w2.alloc (.cells #[.int .i64 0, .int .i64 0, .int .i64 0] 32)), Calls Try.prog 21 #[.slice A1 n c1, .int .i64 a, .int .i64 r] nw.out fun e w' => e = .returned (.agg #[.int .i64 0, .int .i64 0, .int .i64 0]) ∧ Ext nw.out w' := fun nw => by
      have := specFaultOf_any _ _ _ _ a r nw.out (hg2.below nw.ext)
      rw [HF.out] at this
      exact this
    have hbb := (hb1.trans hb2).trans hv
    clear hg hb1 hb2 h0 F0 hbs hv
    go_wp2
    (refine wp_region_later (by kernel_rfl) (by kernel_rfl) ?_; repeat (any_goals (first | (with_reducible refine wpQuiet_nil ?_; intro wq hq) | go_big_quiet_step (((go_at_call 21; exact later_of _ (hcall _)))))))
    have hgq := hg2.below hq
    have hb3 := hbb.trans hq
    have g0 := G0 ⟨_, hq⟩
    have g1 := G1 ⟨_, hq⟩
    have g2 := G2 ⟨_, hq⟩
    clear G0 G1 G2 hcall hg2
    go_wp2_with fail
    refine (specSpaceValid_any _ _ _ _ _ hgq).mono ?_; rintro e w4 ⟨rfl, hb4⟩; rw [T1.out]
    go_wp2_with fail
    refine (specRightsValid_any _ _).mono ?_; rintro e w' ⟨rfl, rfl⟩; rw [T2.out]
    have hg4 := hgq.below hb4
    go_wp2_with fail
    refine (FaultOf_any _ _ _ _ _ _ _ hg4).mono ?_; rintro e w5 ⟨rfl, hb5⟩; rw [HK.out]
    simp only
    have hv5 : Ext w5 (w5.alloc (.cells #[.int .i64 k0, .int .i64 k1, .int .i64 k2] 32)) := (Below.refl _ _).alloc (Nat.le_refl _) _
    have q0 := later_cell (show (w5.alloc (.cells #[.int .i64 k0, .int .i64 k1, .int .i64 k2] 32)).cell? ⟨w2.heap.size, 0, none⟩ = some (.int .i64 0) from later_cell g0 ⟨_, (hb4.trans hb5).trans hv5⟩)
    have q1 := later_cell (show (w5.alloc (.cells #[.int .i64 k0, .int .i64 k1, .int .i64 k2] 32)).cell? ⟨w2.heap.size, 1, none⟩ = some (.int .i64 0) from later_cell g1 ⟨_, (hb4.trans hb5).trans hv5⟩)
    have q2 := later_cell (show (w5.alloc (.cells #[.int .i64 k0, .int .i64 k1, .int .i64 k2] 32)).cell? ⟨w2.heap.size, 2, none⟩ = some (.int .i64 0) from later_cell g2 ⟨_, (hb4.trans hb5).trans hv5⟩)
    have K0 := later_cell (show (w5.alloc (.cells #[.int .i64 k0, .int .i64 k1, .int .i64 k2] 32)).cell? ⟨w5.heap.size, 0, none⟩ = some (.int .i64 k0) by rw [World.cell?_alloc_new]; rfl)
    have hg6 := hg4.below (hb5.trans hv5)
    have hcall : ∀ nw : Later (w5.alloc (.cells #[.int .i64 k0, .int .i64 k1, .int .i64 k2] 32)), Calls Try.prog 26 #[.slice A1 n c1, .int .i64 a, .int .i64 r] nw.out fun e w' => e = .returned (.int .i64 tr) ∧ Ext nw.out w' := fun nw => by
      rw [← HT.out]; exact Translate_any _ _ _ _ a r nw.out (hg6.below nw.ext)
    have hbz := ((hb3.trans hb4).trans hb5).trans hv5
    clear g0 g1 g2 hgq hg4 hb3 hb4 hb5 hv5 hbb hq hg6
    go_wp2
    (refine wp_region_later (by kernel_rfl) (by kernel_rfl) ?_; repeat (any_goals (first | (with_reducible refine wpQuiet_nil ?_; intro wq hq) | go_big_quiet_step (((go_at_call 26; exact later_of _ (hcall _)))))))
    go_wp2
    go_ret
    exact ⟨rfl, hbz.trans hq⟩
  · have HF : Hid (foR ms a r = (1, a, r)) := by
      have := foR_yes (ms := ms) (a := a) (r := r) (by rw [e1, e2, hf]; rfl)
      rw [hf] at this; exact this
    have htr0 : decide (0 ≤ tr) = false := decide_eq_false fun h => by have := hz.1 h; rw [hf] at this; cases this
    obtain rfl : k0 = 1 := by have := foR_one e1 hf; rw [hk] at this; exact this
    clear e1 e2 hf hz hk
    go_wp2_with fail
    refine (FaultOf_any _ _ _ _ _ _ _ hg).mono ?_; rintro e w2 ⟨rfl, hb2⟩; rw [HF.out]
    simp only
    have hv : Ext w2 (w2.alloc (.cells #[.int .i64 1, .int .i64 a, .int .i64 r] 32)) := (Below.refl _ _).alloc (Nat.le_refl _) _
    have G0 := later_cell (show (w2.alloc (.cells #[.int .i64 1, .int .i64 a, .int .i64 r] 32)).cell? ⟨w2.heap.size, 0, none⟩ = some (.int .i64 1) by rw [World.cell?_alloc_new]; rfl)
    have G1 := later_cell (show (w2.alloc (.cells #[.int .i64 1, .int .i64 a, .int .i64 r] 32)).cell? ⟨w2.heap.size, 1, none⟩ = some (.int .i64 a) by rw [World.cell?_alloc_new]; rfl)
    have G2 := later_cell (show (w2.alloc (.cells #[.int .i64 1, .int .i64 a, .int .i64 r] 32)).cell? ⟨w2.heap.size, 2, none⟩ = some (.int .i64 r) by rw [World.cell?_alloc_new]; rfl)
    have hg2 := hg.below (hb2.trans hv)
    have hcall : ∀ nw : Later (w2.alloc (.cells #[.int .i64 1, .int .i64 a, .int .i64 r] 32)), Calls Try.prog 21 #[.slice A1 n c1, .int .i64 a, .int .i64 r] nw.out fun e w' => e = .returned (.agg #[.int .i64 1, .int .i64 a, .int .i64 r]) ∧ Ext nw.out w' := fun nw => by
      have := specFaultOf_any _ _ _ _ a r nw.out (hg2.below nw.ext)
      rw [HF.out] at this
      exact this
    have hbb := (hb1.trans hb2).trans hv
    clear hg hb1 hb2 h0 F0 hbs hv
    go_wp2
    (refine wp_region_later (by kernel_rfl) (by kernel_rfl) ?_; repeat (any_goals (first | (with_reducible refine wpQuiet_nil ?_; intro wq hq) | go_big_quiet_step (((go_at_call 21; exact later_of _ (hcall _)))))))
    have hgq := hg2.below hq
    have hb3 := hbb.trans hq
    have g0 := G0 ⟨_, hq⟩
    have g1 := G1 ⟨_, hq⟩
    have g2 := G2 ⟨_, hq⟩
    clear G0 G1 G2 hcall hg2
    go_wp2_with fail
    refine (specSpaceValid_any _ _ _ _ _ hgq).mono ?_; rintro e w4 ⟨rfl, hb4⟩; rw [T1.out]
    go_wp2_with fail
    refine (specRightsValid_any _ _).mono ?_; rintro e w' ⟨rfl, rfl⟩; rw [T2.out]
    have hg4 := hgq.below hb4
    go_wp2_with fail
    refine (FaultOf_any _ _ _ _ _ _ _ hg4).mono ?_; rintro e w5 ⟨rfl, hb5⟩; rw [HK.out]
    simp only
    have hv5 : Ext w5 (w5.alloc (.cells #[.int .i64 1, .int .i64 k1, .int .i64 k2] 32)) := (Below.refl _ _).alloc (Nat.le_refl _) _
    have q0 := later_cell (show (w5.alloc (.cells #[.int .i64 1, .int .i64 k1, .int .i64 k2] 32)).cell? ⟨w2.heap.size, 0, none⟩ = some (.int .i64 1) from later_cell g0 ⟨_, (hb4.trans hb5).trans hv5⟩)
    have q1 := later_cell (show (w5.alloc (.cells #[.int .i64 1, .int .i64 k1, .int .i64 k2] 32)).cell? ⟨w2.heap.size, 1, none⟩ = some (.int .i64 a) from later_cell g1 ⟨_, (hb4.trans hb5).trans hv5⟩)
    have q2 := later_cell (show (w5.alloc (.cells #[.int .i64 1, .int .i64 k1, .int .i64 k2] 32)).cell? ⟨w2.heap.size, 2, none⟩ = some (.int .i64 r) from later_cell g2 ⟨_, (hb4.trans hb5).trans hv5⟩)
    have K0 := later_cell (show (w5.alloc (.cells #[.int .i64 1, .int .i64 k1, .int .i64 k2] 32)).cell? ⟨w5.heap.size, 0, none⟩ = some (.int .i64 1) by rw [World.cell?_alloc_new]; rfl)
    have hg6 := hg4.below (hb5.trans hv5)
    have hcall : ∀ nw : Later (w5.alloc (.cells #[.int .i64 1, .int .i64 k1, .int .i64 k2] 32)), Calls Try.prog 26 #[.slice A1 n c1, .int .i64 a, .int .i64 r] nw.out fun e w' => e = .returned (.int .i64 tr) ∧ Ext nw.out w' := fun nw => by
      rw [← HT.out]; exact Translate_any _ _ _ _ a r nw.out (hg6.below nw.ext)
    have hbz := ((hb3.trans hb4).trans hb5).trans hv5
    clear g0 g1 g2 hgq hg4 hb3 hb4 hb5 hv5 hbb hq hg6
    go_wp2
    (refine wp_region_later (by kernel_rfl) (by kernel_rfl) ?_; repeat (any_goals (first | (with_reducible refine wpQuiet_nil ?_; intro wq hq) | go_big_quiet_step (((go_at_call 26; exact later_of _ (hcall _)))))))
    go_wp2
    go_ret
    exact ⟨rfl, hbz.trans hq⟩
  · have HF : Hid (foR ms a r = (2, a, r)) := by
      have := foR_yes (ms := ms) (a := a) (r := r) (by rw [e1, e2, hf]; rfl)
      rw [hf] at this; exact this
    have htr0 : decide (0 ≤ tr) = false := decide_eq_false fun h => by have := hz.1 h; rw [hf] at this; cases this
    obtain rfl : k0 = 0 := by have := foR_two e1 hf; rw [hk] at this; exact this
    clear e1 e2 hf hz hk
    go_wp2_with fail
    refine (FaultOf_any _ _ _ _ _ _ _ hg).mono ?_; rintro e w2 ⟨rfl, hb2⟩; rw [HF.out]
    simp only
    have hv : Ext w2 (w2.alloc (.cells #[.int .i64 2, .int .i64 a, .int .i64 r] 32)) := (Below.refl _ _).alloc (Nat.le_refl _) _
    have G0 := later_cell (show (w2.alloc (.cells #[.int .i64 2, .int .i64 a, .int .i64 r] 32)).cell? ⟨w2.heap.size, 0, none⟩ = some (.int .i64 2) by rw [World.cell?_alloc_new]; rfl)
    have G1 := later_cell (show (w2.alloc (.cells #[.int .i64 2, .int .i64 a, .int .i64 r] 32)).cell? ⟨w2.heap.size, 1, none⟩ = some (.int .i64 a) by rw [World.cell?_alloc_new]; rfl)
    have G2 := later_cell (show (w2.alloc (.cells #[.int .i64 2, .int .i64 a, .int .i64 r] 32)).cell? ⟨w2.heap.size, 2, none⟩ = some (.int .i64 r) by rw [World.cell?_alloc_new]; rfl)
    have hg2 := hg.below (hb2.trans hv)
    have hcall : ∀ nw : Later (w2.alloc (.cells #[.int .i64 2, .int .i64 a, .int .i64 r] 32)), Calls Try.prog 21 #[.slice A1 n c1, .int .i64 a, .int .i64 r] nw.out fun e w' => e = .returned (.agg #[.int .i64 2, .int .i64 a, .int .i64 r]) ∧ Ext nw.out w' := fun nw => by
      have := specFaultOf_any _ _ _ _ a r nw.out (hg2.below nw.ext)
      rw [HF.out] at this
      exact this
    have hbb := (hb1.trans hb2).trans hv
    clear hg hb1 hb2 h0 F0 hbs hv
    go_wp2
    (refine wp_region_later (by kernel_rfl) (by kernel_rfl) ?_; repeat (any_goals (first | (with_reducible refine wpQuiet_nil ?_; intro wq hq) | go_big_quiet_step (((go_at_call 21; exact later_of _ (hcall _)))))))
    have hgq := hg2.below hq
    have hb3 := hbb.trans hq
    have g0 := G0 ⟨_, hq⟩
    have g1 := G1 ⟨_, hq⟩
    have g2 := G2 ⟨_, hq⟩
    clear G0 G1 G2 hcall hg2
    go_wp2_with fail
    refine (specSpaceValid_any _ _ _ _ _ hgq).mono ?_; rintro e w4 ⟨rfl, hb4⟩; rw [T1.out]
    go_wp2_with fail
    refine (specRightsValid_any _ _).mono ?_; rintro e w' ⟨rfl, rfl⟩; rw [T2.out]
    have hg4 := hgq.below hb4
    go_wp2_with fail
    refine (FaultOf_any _ _ _ _ _ _ _ hg4).mono ?_; rintro e w5 ⟨rfl, hb5⟩; rw [HK.out]
    simp only
    have hv5 : Ext w5 (w5.alloc (.cells #[.int .i64 0, .int .i64 k1, .int .i64 k2] 32)) := (Below.refl _ _).alloc (Nat.le_refl _) _
    have q0 := later_cell (show (w5.alloc (.cells #[.int .i64 0, .int .i64 k1, .int .i64 k2] 32)).cell? ⟨w2.heap.size, 0, none⟩ = some (.int .i64 2) from later_cell g0 ⟨_, (hb4.trans hb5).trans hv5⟩)
    have q1 := later_cell (show (w5.alloc (.cells #[.int .i64 0, .int .i64 k1, .int .i64 k2] 32)).cell? ⟨w2.heap.size, 1, none⟩ = some (.int .i64 a) from later_cell g1 ⟨_, (hb4.trans hb5).trans hv5⟩)
    have q2 := later_cell (show (w5.alloc (.cells #[.int .i64 0, .int .i64 k1, .int .i64 k2] 32)).cell? ⟨w2.heap.size, 2, none⟩ = some (.int .i64 r) from later_cell g2 ⟨_, (hb4.trans hb5).trans hv5⟩)
    have K0 := later_cell (show (w5.alloc (.cells #[.int .i64 0, .int .i64 k1, .int .i64 k2] 32)).cell? ⟨w5.heap.size, 0, none⟩ = some (.int .i64 0) by rw [World.cell?_alloc_new]; rfl)
    have hg6 := hg4.below (hb5.trans hv5)
    have hcall : ∀ nw : Later (w5.alloc (.cells #[.int .i64 0, .int .i64 k1, .int .i64 k2] 32)), Calls Try.prog 26 #[.slice A1 n c1, .int .i64 a, .int .i64 r] nw.out fun e w' => e = .returned (.int .i64 tr) ∧ Ext nw.out w' := fun nw => by
      rw [← HT.out]; exact Translate_any _ _ _ _ a r nw.out (hg6.below nw.ext)
    have hbz := ((hb3.trans hb4).trans hb5).trans hv5
    clear g0 g1 g2 hgq hg4 hb3 hb4 hb5 hv5 hbb hq hg6
    go_wp2
    (refine wp_region_later (by kernel_rfl) (by kernel_rfl) ?_; repeat (any_goals (first | (with_reducible refine wpQuiet_nil ?_; intro wq hq) | go_big_quiet_step (((go_at_call 26; exact later_of _ (hcall _)))))))
    go_wp2
    go_ret
    exact ⟨rfl, hbz.trans hq⟩
  · have HF : Hid (foR ms a r = (3, a, r)) := by
      have := foR_yes (ms := ms) (a := a) (r := r) (by rw [e1, e2, hf]; rfl)
      rw [hf] at this; exact this
    have htr0 : decide (0 ≤ tr) = false := decide_eq_false fun h => by have := hz.1 h; rw [hf] at this; cases this
    clear e1 e2 hf hz hk
    go_wp2_with fail
    refine (FaultOf_any _ _ _ _ _ _ _ hg).mono ?_; rintro e w2 ⟨rfl, hb2⟩; rw [HF.out]
    simp only
    have hv : Ext w2 (w2.alloc (.cells #[.int .i64 3, .int .i64 a, .int .i64 r] 32)) := (Below.refl _ _).alloc (Nat.le_refl _) _
    have G0 := later_cell (show (w2.alloc (.cells #[.int .i64 3, .int .i64 a, .int .i64 r] 32)).cell? ⟨w2.heap.size, 0, none⟩ = some (.int .i64 3) by rw [World.cell?_alloc_new]; rfl)
    have G1 := later_cell (show (w2.alloc (.cells #[.int .i64 3, .int .i64 a, .int .i64 r] 32)).cell? ⟨w2.heap.size, 1, none⟩ = some (.int .i64 a) by rw [World.cell?_alloc_new]; rfl)
    have G2 := later_cell (show (w2.alloc (.cells #[.int .i64 3, .int .i64 a, .int .i64 r] 32)).cell? ⟨w2.heap.size, 2, none⟩ = some (.int .i64 r) by rw [World.cell?_alloc_new]; rfl)
    have hg2 := hg.below (hb2.trans hv)
    have hcall : ∀ nw : Later (w2.alloc (.cells #[.int .i64 3, .int .i64 a, .int .i64 r] 32)), Calls Try.prog 21 #[.slice A1 n c1, .int .i64 a, .int .i64 r] nw.out fun e w' => e = .returned (.agg #[.int .i64 3, .int .i64 a, .int .i64 r]) ∧ Ext nw.out w' := fun nw => by
      have := specFaultOf_any _ _ _ _ a r nw.out (hg2.below nw.ext)
      rw [HF.out] at this
      exact this
    have hbb := (hb1.trans hb2).trans hv
    clear hg hb1 hb2 h0 F0 hbs hv
    go_wp2
    (refine wp_region_later (by kernel_rfl) (by kernel_rfl) ?_; repeat (any_goals (first | (with_reducible refine wpQuiet_nil ?_; intro wq hq) | go_big_quiet_step (((go_at_call 21; exact later_of _ (hcall _)))))))
    have hgq := hg2.below hq
    have hb3 := hbb.trans hq
    have g0 := G0 ⟨_, hq⟩
    have g1 := G1 ⟨_, hq⟩
    have g2 := G2 ⟨_, hq⟩
    clear G0 G1 G2 hcall hg2
    go_wp2_with fail
    refine (specSpaceValid_any _ _ _ _ _ hgq).mono ?_; rintro e w4 ⟨rfl, hb4⟩; rw [T1.out]
    go_wp2_with fail
    refine (specRightsValid_any _ _).mono ?_; rintro e w' ⟨rfl, rfl⟩; rw [T2.out]
    have hg4 := hgq.below hb4
    go_wp2_with fail
    refine (FaultOf_any _ _ _ _ _ _ _ hg4).mono ?_; rintro e w5 ⟨rfl, hb5⟩; rw [HK.out]
    simp only
    have hv5 : Ext w5 (w5.alloc (.cells #[.int .i64 k0, .int .i64 k1, .int .i64 k2] 32)) := (Below.refl _ _).alloc (Nat.le_refl _) _
    have q0 := later_cell (show (w5.alloc (.cells #[.int .i64 k0, .int .i64 k1, .int .i64 k2] 32)).cell? ⟨w2.heap.size, 0, none⟩ = some (.int .i64 3) from later_cell g0 ⟨_, (hb4.trans hb5).trans hv5⟩)
    have q1 := later_cell (show (w5.alloc (.cells #[.int .i64 k0, .int .i64 k1, .int .i64 k2] 32)).cell? ⟨w2.heap.size, 1, none⟩ = some (.int .i64 a) from later_cell g1 ⟨_, (hb4.trans hb5).trans hv5⟩)
    have q2 := later_cell (show (w5.alloc (.cells #[.int .i64 k0, .int .i64 k1, .int .i64 k2] 32)).cell? ⟨w2.heap.size, 2, none⟩ = some (.int .i64 r) from later_cell g2 ⟨_, (hb4.trans hb5).trans hv5⟩)
    have K0 := later_cell (show (w5.alloc (.cells #[.int .i64 k0, .int .i64 k1, .int .i64 k2] 32)).cell? ⟨w5.heap.size, 0, none⟩ = some (.int .i64 k0) by rw [World.cell?_alloc_new]; rfl)
    have hg6 := hg4.below (hb5.trans hv5)
    have hcall : ∀ nw : Later (w5.alloc (.cells #[.int .i64 k0, .int .i64 k1, .int .i64 k2] 32)), Calls Try.prog 26 #[.slice A1 n c1, .int .i64 a, .int .i64 r] nw.out fun e w' => e = .returned (.int .i64 tr) ∧ Ext nw.out w' := fun nw => by
      rw [← HT.out]; exact Translate_any _ _ _ _ a r nw.out (hg6.below nw.ext)
    have hbz := ((hb3.trans hb4).trans hb5).trans hv5
    clear g0 g1 g2 hgq hg4 hb3 hb4 hb5 hv5 hbb hq hg6
    go_wp2
    (refine wp_region_later (by kernel_rfl) (by kernel_rfl) ?_; repeat (any_goals (first | (with_reducible refine wpQuiet_nil ?_; intro wq hq) | go_big_quiet_step (((go_at_call 26; exact later_of _ (hcall _)))))))
    go_wp2
    go_ret
    exact ⟨rfl, hbz.trans hq⟩
end Go.Proofs.Yteahiiflgiimnaa
