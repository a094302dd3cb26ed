/-
  The law FnFaultHealed returns true at every input, and leaves all that was there as it was: the walk.
-/
import Derived.Test.YteahiiflgiimnaaDrT
import Derived.Test.YteahiiflgiimnaaFaC
import Derived.Test.YteahiiflgiimnaaMpL
import Derived.Test.YteahiiflgiimnaaMpS
import Derived.Test.YteahiiflgiimnaaAlive
namespace Go.Proofs.Yteahiiflgiimnaa
open Go.RowKit

theorem fk_vals' {ms : List Mp} {a r : Int} : fkOf ms a r = 0 ∨ fkOf ms a r = 1 ∨ fkOf ms a r = 2 ∨ fkOf ms a r = 3 := by
  unfold fkOf
  split
  · split
    · simp
    · split <;> simp
  · simp
theorem fk_addr {ms : List Mp} {a r k : Int} (h : fkOf ms a r = k) (hk : k ≠ 3) : inB a 0 65535 = true := by
  unfold fkOf at h
  split at h
  · assumption
  · exact absurd h.symm hk
theorem unmapL_le (p : Int) (ms : List Mp) : (unmapL p ms).length ≤ ms.length := by
  cases h : pThere p ms
  · rw [unmapL_none h]; exact Nat.le_refl _
  · have := unmapL_one h; omega
/-- A repair with a capability that allows all rights heals the fault. -/
theorem heal {ms : List Mp} {a r k : Int} (hv : spValid ms = true) (hr : 1 ≤ r ∧ r ≤ 3) (hk : fkOf ms a r = k) (h12 : k = 1 ∨ k = 2) (hl : ms.length ≠ 20) : ∃ zs, repR k a r 6 9 15 0 ms = (zs, true) ∧ trOf zs a r = 2304 + a % 256 := by
  have ha := fk_addr hk (by omega)
  have ha' := inB_iff.1 ha
  have hbv := rBase_valid (fk := k) (fa := a) hv
  obtain ⟨base, hb⟩ : ∃ base, rBase k a ms = base := ⟨_, rfl⟩
  rw [hb] at hbv
  have hlv := spValid_len hv
  have hbl : base.length ≤ 19 := by
    rw [← hb]; unfold rBase
    split
    · have := unmapL_le (a / 256) ms; omega
    · omega
  have hbt : pThere (a / 256) base = false := by
    rw [← hb]; unfold rBase
    split
    · rw [pThere_look, look_unmapL _ _ (spValid_from hv), if_pos rfl]; rfl
    · rename_i h2
      obtain rfl : k = 1 := by omega
      rw [pThere_look]
      unfold fkOf at hk
      rw [if_pos ha] at hk
      split at hk
      · rename_i hl2; rw [hl2]; rfl
      · split at hk <;> simp at hk
  have hq : bits .and .i64 (bits .and .i64 r 15) 3 = r := by
    obtain rfl | rfl | rfl : r = 1 ∨ r = 2 ∨ r = 3 := by omega
    all_goals decide +kernel
  have hc : covB r r = true := by
    obtain rfl | rfl | rfl : r = 1 ∨ r = 2 ∨ r = 3 := by omega
    all_goals decide +kernel
  have hm : mapL (a / 256) 9 r base = (insL (a / 256, 9, r) base, true) := mapL_ins (by rw [hbt]; simp; omega)
  have hvz : spValid (insL (a / 256, 9, r) base) = true := ins_valid hbv (by omega) (by omega) hr hbt hbl
  have hlook : lookP (a / 256) (insL (a / 256, 9, r) base) = some (a / 256, 9, r) := by rw [look_insL _ hbt, if_pos rfl]
  have hr' : inB r 0 15 = true := inB_iff.2 (by omega)
  refine ⟨insL (a / 256, 9, r) base, repR_yes hv ?_ (by decide +kernel) rfl hb hq hm (fk_zero.2 ⟨ha, _, hlook, hc⟩), tr_val hvz ha hr' hlook hc⟩
  unfold toldB
  rw [ha, hr', inB_iff.2 (show 1 ≤ k ∧ k ≤ 2 by omega)]; rfl

set_option maxHeartbeats 4000000 in
theorem FnFaultHealed_walk (A : Option Addr) (n0 c : Nat) (code : List Int) (w : World) (h0 : Rd w 1 A n0 c (code.map (Value.int .u8))) (F0 : ∀ z ∈ code, (Lit.int .u8 z).wf = true) :
    Calls Try.prog 5 #[.slice A n0 c] w fun e w' => e = .returned (.bool true) ∧ Ext w w' := by
  obtain ⟨bs, hbs⟩ := bytes_of F0
  rw [hbs] at h0
  have hle := h0.le
  have htop := h0.top
  by_cases hn : 1048576 < n0
  · go_enter Try.func5, Try.ntmps5
    go_wp2
    go_ret
    exact ⟨rfl, Below.refl _ _⟩
  go_enter Try.func5, Try.ntmps5
  go_wp2_with fail
  refine (DrawFaultOf_any _ _ _ _ _ h0).mono ?_; rintro e w1 ⟨A1, n, c1, ms, a, r, rfl, hg, h22, ha, hr, hb1⟩
  have hlen := hg.len3
  cases hbad : (spValid ms && inB r 0 15)
  · have HF : Hid (foR ms a r = (0, 0, 0)) := foR_no (by rw [hbad]; rfl)
    clear hbad hlen
    go_wp2_with fail
    refine (FaultOf_any _ _ _ _ _ _ _ hg).mono ?_; rintro e w2 ⟨rfl, hb2⟩; rw [HF.out]
    simp only
    have hv : Ext w2 (w2.alloc (.cells #[.int .i64 0, .int .i64 0, .int .i64 0] 32)) := (Below.refl _ _).alloc (Nat.le_refl _) _
    have G0 := later_cell (show (w2.alloc (.cells #[.int .i64 0, .int .i64 0, .int .i64 0] 32)).cell? ⟨w2.heap.size, 0, none⟩ = some (.int .i64 0) by rw [World.cell?_alloc_new]; rfl)
    have G1 := later_cell (show (w2.alloc (.cells #[.int .i64 0, .int .i64 0, .int .i64 0] 32)).cell? ⟨w2.heap.size, 1, none⟩ = some (.int .i64 0) by rw [World.cell?_alloc_new]; rfl)
    have G2 := later_cell (show (w2.alloc (.cells #[.int .i64 0, .int .i64 0, .int .i64 0] 32)).cell? ⟨w2.heap.size, 2, none⟩ = some (.int .i64 0) by rw [World.cell?_alloc_new]; rfl)
    have hg2 := hg.below (hb2.trans hv)
    have hcall : ∀ nw : Later (w2.alloc (.cells #[.int .i64 0, .int .i64 0, .int .i64 0] 32)), Calls Try.prog 21 #[.slice A1 n c1, .int .i64 a, .int .i64 r] nw.out fun e w' => e = .returned (.agg #[.int .i64 0, .int .i64 0, .int .i64 0]) ∧ Ext nw.out w' := fun nw => by
      have := specFaultOf_any _ _ _ _ a r nw.out (hg2.below nw.ext)
      rw [HF.out] at this
      exact this
    have hbb := (hb1.trans hb2).trans hv
    clear hg hb1 hb2 h0 F0 hbs hv
    go_wp2
    (refine wp_region_later (by kernel_rfl) (by kernel_rfl) ?_; repeat (any_goals (first | (with_reducible refine wpQuiet_nil ?_; intro wq hq) | go_big_quiet_step (((go_at_call 21; exact later_of _ (hcall _)))))))
    have hgq := hg2.below hq
    have hb3 := hbb.trans hq
    have g0 := G0 ⟨_, hq⟩
    have g1 := G1 ⟨_, hq⟩
    have g2 := G2 ⟨_, hq⟩
    clear G0 G1 G2 hcall hg2
    go_wp2_with ((go_at_call 25; refine (alive_any _).mono ?_; rintro e w9 ⟨rfl, hb9⟩))
    go_ret
    exact ⟨rfl, hb3.trans hb9⟩
  have e12 : spValid ms = true ∧ inB r 0 15 = true := by simpa using hbad
  obtain ⟨e1, e2⟩ := e12
  clear hbad
  rcases fk_vals' (ms := ms) (a := a) (r := r) with hf | hf | hf | hf
  · have HF : Hid (foR ms a r = (0, 0, 0)) := foR_no (by rw [e1, e2, hf]; rfl)
    clear e1 e2 hf hlen
    go_wp2_with fail
    refine (FaultOf_any _ _ _ _ _ _ _ hg).mono ?_; rintro e w2 ⟨rfl, hb2⟩; rw [HF.out]
    simp only
    have hv : Ext w2 (w2.alloc (.cells #[.int .i64 0, .int .i64 0, .int .i64 0] 32)) := (Below.refl _ _).alloc (Nat.le_refl _) _
    have G0 := later_cell (show (w2.alloc (.cells #[.int .i64 0, .int .i64 0, .int .i64 0] 32)).cell? ⟨w2.heap.size, 0, none⟩ = some (.int .i64 0) by rw [World.cell?_alloc_new]; rfl)
    have G1 := later_cell (show (w2.alloc (.cells #[.int .i64 0, .int .i64 0, .int .i64 0] 32)).cell? ⟨w2.heap.size, 1, none⟩ = some (.int .i64 0) by rw [World.cell?_alloc_new]; rfl)
    have G2 := later_cell (show (w2.alloc (.cells #[.int .i64 0, .int .i64 0, .int .i64 0] 32)).cell? ⟨w2.heap.size, 2, none⟩ = some (.int .i64 0) by rw [World.cell?_alloc_new]; rfl)
    have hg2 := hg.below (hb2.trans hv)
    have hcall : ∀ nw : Later (w2.alloc (.cells #[.int .i64 0, .int .i64 0, .int .i64 0] 32)), Calls Try.prog 21 #[.slice A1 n c1, .int .i64 a, .int .i64 r] nw.out fun e w' => e = .returned (.agg #[.int .i64 0, .int .i64 0, .int .i64 0]) ∧ Ext nw.out w' := fun nw => by
      have := specFaultOf_any _ _ _ _ a r nw.out (hg2.below nw.ext)
      rw [HF.out] at this
      exact this
    have hbb := (hb1.trans hb2).trans hv
    clear hg hb1 hb2 h0 F0 hbs hv
    go_wp2
    (refine wp_region_later (by kernel_rfl) (by kernel_rfl) ?_; repeat (any_goals (first | (with_reducible refine wpQuiet_nil ?_; intro wq hq) | go_big_quiet_step (((go_at_call 21; exact later_of _ (hcall _)))))))
    have hgq := hg2.below hq
    have hb3 := hbb.trans hq
    have g0 := G0 ⟨_, hq⟩
    have g1 := G1 ⟨_, hq⟩
    have g2 := G2 ⟨_, hq⟩
    clear G0 G1 G2 hcall hg2
    go_wp2_with ((go_at_call 25; refine (alive_any _).mono ?_; rintro e w9 ⟨rfl, hb9⟩))
    go_ret
    exact ⟨rfl, hb3.trans hb9⟩
  · have HF : Hid (foR ms a r = (1, a, r)) := by
      have := foR_yes (ms := ms) (a := a) (r := r) (by rw [e1, e2, hf]; rfl)
      rw [hf] at this; exact this
    by_cases hr1 : r < 1
    · clear e1 e2 hf hlen
      go_wp2_with fail
      refine (FaultOf_any _ _ _ _ _ _ _ hg).mono ?_; rintro e w2 ⟨rfl, hb2⟩; rw [HF.out]
      simp only
      have hv : Ext w2 (w2.alloc (.cells #[.int .i64 1, .int .i64 a, .int .i64 r] 32)) := (Below.refl _ _).alloc (Nat.le_refl _) _
      have G0 := later_cell (show (w2.alloc (.cells #[.int .i64 1, .int .i64 a, .int .i64 r] 32)).cell? ⟨w2.heap.size, 0, none⟩ = some (.int .i64 1) by rw [World.cell?_alloc_new]; rfl)
      have G1 := later_cell (show (w2.alloc (.cells #[.int .i64 1, .int .i64 a, .int .i64 r] 32)).cell? ⟨w2.heap.size, 1, none⟩ = some (.int .i64 a) by rw [World.cell?_alloc_new]; rfl)
      have G2 := later_cell (show (w2.alloc (.cells #[.int .i64 1, .int .i64 a, .int .i64 r] 32)).cell? ⟨w2.heap.size, 2, none⟩ = some (.int .i64 r) by rw [World.cell?_alloc_new]; rfl)
      have hg2 := hg.below (hb2.trans hv)
      have hcall : ∀ nw : Later (w2.alloc (.cells #[.int .i64 1, .int .i64 a, .int .i64 r] 32)), Calls Try.prog 21 #[.slice A1 n c1, .int .i64 a, .int .i64 r] nw.out fun e w' => e = .returned (.agg #[.int .i64 1, .int .i64 a, .int .i64 r]) ∧ Ext nw.out w' := fun nw => by
        have := specFaultOf_any _ _ _ _ a r nw.out (hg2.below nw.ext)
        rw [HF.out] at this
        exact this
      have hbb := (hb1.trans hb2).trans hv
      clear hg hb1 hb2 h0 F0 hbs hv
      go_wp2
      (refine wp_region_later (by kernel_rfl) (by kernel_rfl) ?_; repeat (any_goals (first | (with_reducible refine wpQuiet_nil ?_; intro wq hq) | go_big_quiet_step (((go_at_call 21; exact later_of _ (hcall _)))))))
      have hgq := hg2.below hq
      have hb3 := hbb.trans hq
      have g0 := G0 ⟨_, hq⟩
      have g1 := G1 ⟨_, hq⟩
      have g2 := G2 ⟨_, hq⟩
      clear G0 G1 G2 hcall hg2
      go_wp2_with ((go_at_call 25; refine (alive_any _).mono ?_; rintro e w9 ⟨rfl, hb9⟩))
      go_ret
      exact ⟨rfl, hb3.trans hb9⟩
    by_cases hr3 : 3 < r
    · clear e1 e2 hf hlen
      go_wp2_with fail
      refine (FaultOf_any _ _ _ _ _ _ _ hg).mono ?_; rintro e w2 ⟨rfl, hb2⟩; rw [HF.out]
      simp only
      have hv : Ext w2 (w2.alloc (.cells #[.int .i64 1, .int .i64 a, .int .i64 r] 32)) := (Below.refl _ _).alloc (Nat.le_refl _) _
      have G0 := later_cell (show (w2.alloc (.cells #[.int .i64 1, .int .i64 a, .int .i64 r] 32)).cell? ⟨w2.heap.size, 0, none⟩ = some (.int .i64 1) by rw [World.cell?_alloc_new]; rfl)
      have G1 := later_cell (show (w2.alloc (.cells #[.int .i64 1, .int .i64 a, .int .i64 r] 32)).cell? ⟨w2.heap.size, 1, none⟩ = some (.int .i64 a) by rw [World.cell?_alloc_new]; rfl)
      have G2 := later_cell (show (w2.alloc (.cells #[.int .i64 1, .int .i64 a, .int .i64 r] 32)).cell? ⟨w2.heap.size, 2, none⟩ = some (.int .i64 r) by rw [World.cell?_alloc_new]; rfl)
      have hg2 := hg.below (hb2.trans hv)
      have hcall : ∀ nw : Later (w2.alloc (.cells #[.int .i64 1, .int .i64 a, .int .i64 r] 32)), Calls Try.prog 21 #[.slice A1 n c1, .int .i64 a, .int .i64 r] nw.out fun e w' => e = .returned (.agg #[.int .i64 1, .int .i64 a, .int .i64 r]) ∧ Ext nw.out w' := fun nw => by
        have := specFaultOf_any _ _ _ _ a r nw.out (hg2.below nw.ext)
        rw [HF.out] at this
        exact this
      have hbb := (hb1.trans hb2).trans hv
      clear hg hb1 hb2 h0 F0 hbs hv
      go_wp2
      (refine wp_region_later (by kernel_rfl) (by kernel_rfl) ?_; repeat (any_goals (first | (with_reducible refine wpQuiet_nil ?_; intro wq hq) | go_big_quiet_step (((go_at_call 21; exact later_of _ (hcall _)))))))
      have hgq := hg2.below hq
      have hb3 := hbb.trans hq
      have g0 := G0 ⟨_, hq⟩
      have g1 := G1 ⟨_, hq⟩
      have g2 := G2 ⟨_, hq⟩
      clear G0 G1 G2 hcall hg2
      go_wp2_with ((go_at_call 25; refine (alive_any _).mono ?_; rintro e w9 ⟨rfl, hb9⟩))
      go_ret
      exact ⟨rfl, hb3.trans hb9⟩
    by_cases hn20 : n = 20
    · subst hn20
      clear e1 e2 hf hlen
      go_wp2_with fail
      refine (FaultOf_any _ _ _ _ _ _ _ hg).mono ?_; rintro e w2 ⟨rfl, hb2⟩; rw [HF.out]
      simp only
      have hv : Ext w2 (w2.alloc (.cells #[.int .i64 1, .int .i64 a, .int .i64 r] 32)) := (Below.refl _ _).alloc (Nat.le_refl _) _
      have G0 := later_cell (show (w2.alloc (.cells #[.int .i64 1, .int .i64 a, .int .i64 r] 32)).cell? ⟨w2.heap.size, 0, none⟩ = some (.int .i64 1) by rw [World.cell?_alloc_new]; rfl)
      have G1 := later_cell (show (w2.alloc (.cells #[.int .i64 1, .int .i64 a, .int .i64 r] 32)).cell? ⟨w2.heap.size, 1, none⟩ = some (.int .i64 a) by rw [World.cell?_alloc_new]; rfl)
      have G2 := later_cell (show (w2.alloc (.cells #[.int .i64 1, .int .i64 a, .int .i64 r] 32)).cell? ⟨w2.heap.size, 2, none⟩ = some (.int .i64 r) by rw [World.cell?_alloc_new]; rfl)
      have hg2 := hg.below (hb2.trans hv)
      have hcall : ∀ nw : Later (w2.alloc (.cells #[.int .i64 1, .int .i64 a, .int .i64 r] 32)), Calls Try.prog 21 #[.slice A1 20 c1, .int .i64 a, .int .i64 r] nw.out fun e w' => e = .returned (.agg #[.int .i64 1, .int .i64 a, .int .i64 r]) ∧ Ext nw.out w' := fun nw => by
        have := specFaultOf_any _ _ _ _ a r nw.out (hg2.below nw.ext)
        rw [HF.out] at this
        exact this
      have hbb := (hb1.trans hb2).trans hv
      clear hg hb1 hb2 h0 F0 hbs hv
      go_wp2
      (refine wp_region_later (by kernel_rfl) (by kernel_rfl) ?_; repeat (any_goals (first | (with_reducible refine wpQuiet_nil ?_; intro wq hq) | go_big_quiet_step (((go_at_call 21; exact later_of _ (hcall _)))))))
      have hgq := hg2.below hq
      have hb3 := hbb.trans hq
      have g0 := G0 ⟨_, hq⟩
      have g1 := G1 ⟨_, hq⟩
      have g2 := G2 ⟨_, hq⟩
      clear G0 G1 G2 hcall hg2
      go_wp2_with ((go_at_call 25; refine (alive_any _).mono ?_; rintro e w9 ⟨rfl, hb9⟩))
      go_ret
      exact ⟨rfl, hb3.trans hb9⟩
    have hn20d : ((n : Int) == 20) = false := by rw [beq_eq_false_iff_ne]; omega
    have hr1d : decide (r < 1) = false := decide_eq_false hr1
    have hr3d : decide (3 < r) = false := decide_eq_false hr3
    obtain ⟨zs, hz, htr⟩ := heal e1 ⟨show 1 ≤ r by omega, by omega⟩ hf (by omega) (by rw [hlen]; exact hn20)
    have HZ := Lib.hid hz
    have TR := Lib.hid htr
    obtain ⟨nz, hnz⟩ : ∃ nz, zs.length = nz := ⟨_, rfl⟩
    have NZ := Lib.hid hnz
    have har : 0 ≤ a ∧ a ≤ 65535 := inB_iff.1 (fk_addr hf (by omega))
    obtain ⟨har0, har1⟩ := har
    clear hf hz htr hnz e1 hlen e2
    go_wp2_with fail
    refine (FaultOf_any _ _ _ _ _ _ _ hg).mono ?_; rintro e w2 ⟨rfl, hb2⟩; rw [HF.out]
    simp only
    have hv : Ext w2 (w2.alloc (.cells #[.int .i64 1, .int .i64 a, .int .i64 r] 32)) := (Below.refl _ _).alloc (Nat.le_refl _) _
    have G0 := later_cell (show (w2.alloc (.cells #[.int .i64 1, .int .i64 a, .int .i64 r] 32)).cell? ⟨w2.heap.size, 0, none⟩ = some (.int .i64 1) by rw [World.cell?_alloc_new]; rfl)
    have G1 := later_cell (show (w2.alloc (.cells #[.int .i64 1, .int .i64 a, .int .i64 r] 32)).cell? ⟨w2.heap.size, 1, none⟩ = some (.int .i64 a) by rw [World.cell?_alloc_new]; rfl)
    have G2 := later_cell (show (w2.alloc (.cells #[.int .i64 1, .int .i64 a, .int .i64 r] 32)).cell? ⟨w2.heap.size, 2, none⟩ = some (.int .i64 r) by rw [World.cell?_alloc_new]; rfl)
    have hg2 := hg.below (hb2.trans hv)
    have hcall : ∀ nw : Later (w2.alloc (.cells #[.int .i64 1, .int .i64 a, .int .i64 r] 32)), Calls Try.prog 21 #[.slice A1 n c1, .int .i64 a, .int .i64 r] nw.out fun e w' => e = .returned (.agg #[.int .i64 1, .int .i64 a, .int .i64 r]) ∧ Ext nw.out w' := fun nw => by
      have := specFaultOf_any _ _ _ _ a r nw.out (hg2.below nw.ext)
      rw [HF.out] at this
      exact this
    have hbb := (hb1.trans hb2).trans hv
    clear hg hb1 hb2 h0 F0 hbs hv
    go_wp2
    (refine wp_region_later (by kernel_rfl) (by kernel_rfl) ?_; repeat (any_goals (first | (with_reducible refine wpQuiet_nil ?_; intro wq hq) | go_big_quiet_step (((go_at_call 21; exact later_of _ (hcall _)))))))
    have hgq := hg2.below hq
    have hb3 := hbb.trans hq
    have g0 := G0 ⟨_, hq⟩
    have g1 := G1 ⟨_, hq⟩
    have g2 := G2 ⟨_, hq⟩
    clear G0 G1 G2 hcall hg2
    go_wp2_with fail
    refine (RepairFault_any _ _ _ _ 1 a r 6 9 15 0 _ hgq).mono ?_; rintro e w4 ⟨A4, cc4, rfl, hF4, hb4⟩
    rw [HZ.out] at hF4 ⊢
    simp only at hF4 ⊢
    rw [NZ.out] at hF4 ⊢
    have hR4 := hF4.rd'.2
    clear hF4 g0 g1 g2 hgq
    go_wp2_with fail
    refine (Translate_any _ _ _ _ _ _ _ hR4).mono ?_; rintro e w5 ⟨rfl, hb5⟩; rw [TR.out]
    clear hR4
    go_wp2
    go_ret
    exact ⟨rfl, (hb3.trans hb4).trans hb5⟩
  · have HF : Hid (foR ms a r = (2, a, r)) := by
      have := foR_yes (ms := ms) (a := a) (r := r) (by rw [e1, e2, hf]; rfl)
      rw [hf] at this; exact this
    by_cases hr1 : r < 1
    · clear e1 e2 hf hlen
      go_wp2_with fail
      refine (FaultOf_any _ _ _ _ _ _ _ hg).mono ?_; rintro e w2 ⟨rfl, hb2⟩; rw [HF.out]
      simp only
      have hv : Ext w2 (w2.alloc (.cells #[.int .i64 2, .int .i64 a, .int .i64 r] 32)) := (Below.refl _ _).alloc (Nat.le_refl _) _
      have G0 := later_cell (show (w2.alloc (.cells #[.int .i64 2, .int .i64 a, .int .i64 r] 32)).cell? ⟨w2.heap.size, 0, none⟩ = some (.int .i64 2) by rw [World.cell?_alloc_new]; rfl)
      have G1 := later_cell (show (w2.alloc (.cells #[.int .i64 2, .int .i64 a, .int .i64 r] 32)).cell? ⟨w2.heap.size, 1, none⟩ = some (.int .i64 a) by rw [World.cell?_alloc_new]; rfl)
      have G2 := later_cell (show (w2.alloc (.cells #[.int .i64 2, .int .i64 a, .int .i64 r] 32)).cell? ⟨w2.heap.size, 2, none⟩ = some (.int .i64 r) by rw [World.cell?_alloc_new]; rfl)
      have hg2 := hg.below (hb2.trans hv)
      have hcall : ∀ nw : Later (w2.alloc (.cells #[.int .i64 2, .int .i64 a, .int .i64 r] 32)), Calls Try.prog 21 #[.slice A1 n c1, .int .i64 a, .int .i64 r] nw.out fun e w' => e = .returned (.agg #[.int .i64 2, .int .i64 a, .int .i64 r]) ∧ Ext nw.out w' := fun nw => by
        have := specFaultOf_any _ _ _ _ a r nw.out (hg2.below nw.ext)
        rw [HF.out] at this
        exact this
      have hbb := (hb1.trans hb2).trans hv
      clear hg hb1 hb2 h0 F0 hbs hv
      go_wp2
      (refine wp_region_later (by kernel_rfl) (by kernel_rfl) ?_; repeat (any_goals (first | (with_reducible refine wpQuiet_nil ?_; intro wq hq) | go_big_quiet_step (((go_at_call 21; exact later_of _ (hcall _)))))))
      have hgq := hg2.below hq
      have hb3 := hbb.trans hq
      have g0 := G0 ⟨_, hq⟩
      have g1 := G1 ⟨_, hq⟩
      have g2 := G2 ⟨_, hq⟩
      clear G0 G1 G2 hcall hg2
      go_wp2_with ((go_at_call 25; refine (alive_any _).mono ?_; rintro e w9 ⟨rfl, hb9⟩))
      go_ret
      exact ⟨rfl, hb3.trans hb9⟩
    by_cases hr3 : 3 < r
    · clear e1 e2 hf hlen
      go_wp2_with fail
      refine (FaultOf_any _ _ _ _ _ _ _ hg).mono ?_; rintro e w2 ⟨rfl, hb2⟩; rw [HF.out]
      simp only
      have hv : Ext w2 (w2.alloc (.cells #[.int .i64 2, .int .i64 a, .int .i64 r] 32)) := (Below.refl _ _).alloc (Nat.le_refl _) _
      have G0 := later_cell (show (w2.alloc (.cells #[.int .i64 2, .int .i64 a, .int .i64 r] 32)).cell? ⟨w2.heap.size, 0, none⟩ = some (.int .i64 2) by rw [World.cell?_alloc_new]; rfl)
      have G1 := later_cell (show (w2.alloc (.cells #[.int .i64 2, .int .i64 a, .int .i64 r] 32)).cell? ⟨w2.heap.size, 1, none⟩ = some (.int .i64 a) by rw [World.cell?_alloc_new]; rfl)
      have G2 := later_cell (show (w2.alloc (.cells #[.int .i64 2, .int .i64 a, .int .i64 r] 32)).cell? ⟨w2.heap.size, 2, none⟩ = some (.int .i64 r) by rw [World.cell?_alloc_new]; rfl)
      have hg2 := hg.below (hb2.trans hv)
      have hcall : ∀ nw : Later (w2.alloc (.cells #[.int .i64 2, .int .i64 a, .int .i64 r] 32)), Calls Try.prog 21 #[.slice A1 n c1, .int .i64 a, .int .i64 r] nw.out fun e w' => e = .returned (.agg #[.int .i64 2, .int .i64 a, .int .i64 r]) ∧ Ext nw.out w' := fun nw => by
        have := specFaultOf_any _ _ _ _ a r nw.out (hg2.below nw.ext)
        rw [HF.out] at this
        exact this
      have hbb := (hb1.trans hb2).trans hv
      clear hg hb1 hb2 h0 F0 hbs hv
      go_wp2
      (refine wp_region_later (by kernel_rfl) (by kernel_rfl) ?_; repeat (any_goals (first | (with_reducible refine wpQuiet_nil ?_; intro wq hq) | go_big_quiet_step (((go_at_call 21; exact later_of _ (hcall _)))))))
      have hgq := hg2.below hq
      have hb3 := hbb.trans hq
      have g0 := G0 ⟨_, hq⟩
      have g1 := G1 ⟨_, hq⟩
      have g2 := G2 ⟨_, hq⟩
      clear G0 G1 G2 hcall hg2
      go_wp2_with ((go_at_call 25; refine (alive_any _).mono ?_; rintro e w9 ⟨rfl, hb9⟩))
      go_ret
      exact ⟨rfl, hb3.trans hb9⟩
    by_cases hn20 : n = 20
    · subst hn20
      clear e1 e2 hf hlen
      go_wp2_with fail
      refine (FaultOf_any _ _ _ _ _ _ _ hg).mono ?_; rintro e w2 ⟨rfl, hb2⟩; rw [HF.out]
      simp only
      have hv : Ext w2 (w2.alloc (.cells #[.int .i64 2, .int .i64 a, .int .i64 r] 32)) := (Below.refl _ _).alloc (Nat.le_refl _) _
      have G0 := later_cell (show (w2.alloc (.cells #[.int .i64 2, .int .i64 a, .int .i64 r] 32)).cell? ⟨w2.heap.size, 0, none⟩ = some (.int .i64 2) by rw [World.cell?_alloc_new]; rfl)
      have G1 := later_cell (show (w2.alloc (.cells #[.int .i64 2, .int .i64 a, .int .i64 r] 32)).cell? ⟨w2.heap.size, 1, none⟩ = some (.int .i64 a) by rw [World.cell?_alloc_new]; rfl)
      have G2 := later_cell (show (w2.alloc (.cells #[.int .i64 2, .int .i64 a, .int .i64 r] 32)).cell? ⟨w2.heap.size, 2, none⟩ = some (.int .i64 r) by rw [World.cell?_alloc_new]; rfl)
      have hg2 := hg.below (hb2.trans hv)
      have hcall : ∀ nw : Later (w2.alloc (.cells #[.int .i64 2, .int .i64 a, .int .i64 r] 32)), Calls Try.prog 21 #[.slice A1 20 c1, .int .i64 a, .int .i64 r] nw.out fun e w' => e = .returned (.agg #[.int .i64 2, .int .i64 a, .int .i64 r]) ∧ Ext nw.out w' := fun nw => by
        have := specFaultOf_any _ _ _ _ a r nw.out (hg2.below nw.ext)
        rw [HF.out] at this
        exact this
      have hbb := (hb1.trans hb2).trans hv
      clear hg hb1 hb2 h0 F0 hbs hv
      go_wp2
      (refine wp_region_later (by kernel_rfl) (by kernel_rfl) ?_; repeat (any_goals (first | (with_reducible refine wpQuiet_nil ?_; intro wq hq) | go_big_quiet_step (((go_at_call 21; exact later_of _ (hcall _)))))))
      have hgq := hg2.below hq
      have hb3 := hbb.trans hq
      have g0 := G0 ⟨_, hq⟩
      have g1 := G1 ⟨_, hq⟩
      have g2 := G2 ⟨_, hq⟩
      clear G0 G1 G2 hcall hg2
      go_wp2_with ((go_at_call 25; refine (alive_any _).mono ?_; rintro e w9 ⟨rfl, hb9⟩))
      go_ret
      exact ⟨rfl, hb3.trans hb9⟩
    have hn20d : ((n : Int) == 20) = false := by rw [beq_eq_false_iff_ne]; omega
    have hr1d : decide (r < 1) = false := decide_eq_false hr1
    have hr3d : decide (3 < r) = false := decide_eq_false hr3
    obtain ⟨zs, hz, htr⟩ := heal e1 ⟨show 1 ≤ r by omega, by omega⟩ hf (by omega) (by rw [hlen]; exact hn20)
    have HZ := Lib.hid hz
    have TR := Lib.hid htr
    obtain ⟨nz, hnz⟩ : ∃ nz, zs.length = nz := ⟨_, rfl⟩
    have NZ := Lib.hid hnz
    have har : 0 ≤ a ∧ a ≤ 65535 := inB_iff.1 (fk_addr hf (by omega))
    obtain ⟨har0, har1⟩ := har
    clear hf hz htr hnz e1 hlen e2
    go_wp2_with fail
    refine (FaultOf_any _ _ _ _ _ _ _ hg).mono ?_; rintro e w2 ⟨rfl, hb2⟩; rw [HF.out]
    simp only
    have hv : Ext w2 (w2.alloc (.cells #[.int .i64 2, .int .i64 a, .int .i64 r] 32)) := (Below.refl _ _).alloc (Nat.le_refl _) _
    have G0 := later_cell (show (w2.alloc (.cells #[.int .i64 2, .int .i64 a, .int .i64 r] 32)).cell? ⟨w2.heap.size, 0, none⟩ = some (.int .i64 2) by rw [World.cell?_alloc_new]; rfl)
    have G1 := later_cell (show (w2.alloc (.cells #[.int .i64 2, .int .i64 a, .int .i64 r] 32)).cell? ⟨w2.heap.size, 1, none⟩ = some (.int .i64 a) by rw [World.cell?_alloc_new]; rfl)
    have G2 := later_cell (show (w2.alloc (.cells #[.int .i64 2, .int .i64 a, .int .i64 r] 32)).cell? ⟨w2.heap.size, 2, none⟩ = some (.int .i64 r) by rw [World.cell?_alloc_new]; rfl)
    have hg2 := hg.below (hb2.trans hv)
    have hcall : ∀ nw : Later (w2.alloc (.cells #[.int .i64 2, .int .i64 a, .int .i64 r] 32)), Calls Try.prog 21 #[.slice A1 n c1, .int .i64 a, .int .i64 r] nw.out fun e w' => e = .returned (.agg #[.int .i64 2, .int .i64 a, .int .i64 r]) ∧ Ext nw.out w' := fun nw => by
      have := specFaultOf_any _ _ _ _ a r nw.out (hg2.below nw.ext)
      rw [HF.out] at this
      exact this
    have hbb := (hb1.trans hb2).trans hv
    clear hg hb1 hb2 h0 F0 hbs hv
    go_wp2
    (refine wp_region_later (by kernel_rfl) (by kernel_rfl) ?_; repeat (any_goals (first | (with_reducible refine wpQuiet_nil ?_; intro wq hq) | go_big_quiet_step (((go_at_call 21; exact later_of _ (hcall _)))))))
    have hgq := hg2.below hq
    have hb3 := hbb.trans hq
    have g0 := G0 ⟨_, hq⟩
    have g1 := G1 ⟨_, hq⟩
    have g2 := G2 ⟨_, hq⟩
    clear G0 G1 G2 hcall hg2
    go_wp2_with fail
    refine (RepairFault_any _ _ _ _ 2 a r 6 9 15 0 _ hgq).mono ?_; rintro e w4 ⟨A4, cc4, rfl, hF4, hb4⟩
    rw [HZ.out] at hF4 ⊢
    simp only at hF4 ⊢
    rw [NZ.out] at hF4 ⊢
    have hR4 := hF4.rd'.2
    clear hF4 g0 g1 g2 hgq
    go_wp2_with fail
    refine (Translate_any _ _ _ _ _ _ _ hR4).mono ?_; rintro e w5 ⟨rfl, hb5⟩; rw [TR.out]
    clear hR4
    go_wp2
    go_ret
    exact ⟨rfl, (hb3.trans hb4).trans hb5⟩
  · have HF : Hid (foR ms a r = (3, a, r)) := by
      have := foR_yes (ms := ms) (a := a) (r := r) (by rw [e1, e2, hf]; rfl)
      rw [hf] at this; exact this
    clear e1 e2 hf hlen
    go_wp2_with fail
    refine (FaultOf_any _ _ _ _ _ _ _ hg).mono ?_; rintro e w2 ⟨rfl, hb2⟩; rw [HF.out]
    simp only
    have hv : Ext w2 (w2.alloc (.cells #[.int .i64 3, .int .i64 a, .int .i64 r] 32)) := (Below.refl _ _).alloc (Nat.le_refl _) _
    have G0 := later_cell (show (w2.alloc (.cells #[.int .i64 3, .int .i64 a, .int .i64 r] 32)).cell? ⟨w2.heap.size, 0, none⟩ = some (.int .i64 3) by rw [World.cell?_alloc_new]; rfl)
    have G1 := later_cell (show (w2.alloc (.cells #[.int .i64 3, .int .i64 a, .int .i64 r] 32)).cell? ⟨w2.heap.size, 1, none⟩ = some (.int .i64 a) by rw [World.cell?_alloc_new]; rfl)
    have G2 := later_cell (show (w2.alloc (.cells #[.int .i64 3, .int .i64 a, .int .i64 r] 32)).cell? ⟨w2.heap.size, 2, none⟩ = some (.int .i64 r) by rw [World.cell?_alloc_new]; rfl)
    have hg2 := hg.below (hb2.trans hv)
    have hcall : ∀ nw : Later (w2.alloc (.cells #[.int .i64 3, .int .i64 a, .int .i64 r] 32)), Calls Try.prog 21 #[.slice A1 n c1, .int .i64 a, .int .i64 r] nw.out fun e w' => e = .returned (.agg #[.int .i64 3, .int .i64 a, .int .i64 r]) ∧ Ext nw.out w' := fun nw => by
      have := specFaultOf_any _ _ _ _ a r nw.out (hg2.below nw.ext)
      rw [HF.out] at this
      exact this
    have hbb := (hb1.trans hb2).trans hv
    clear hg hb1 hb2 h0 F0 hbs hv
    go_wp2
    (refine wp_region_later (by kernel_rfl) (by kernel_rfl) ?_; repeat (any_goals (first | (with_reducible refine wpQuiet_nil ?_; intro wq hq) | go_big_quiet_step (((go_at_call 21; exact later_of _ (hcall _)))))))
    have hgq := hg2.below hq
    have hb3 := hbb.trans hq
    have g0 := G0 ⟨_, hq⟩
    have g1 := G1 ⟨_, hq⟩
    have g2 := G2 ⟨_, hq⟩
    clear G0 G1 G2 hcall hg2
    go_wp2_with ((go_at_call 25; refine (alive_any _).mono ?_; rintro e w9 ⟨rfl, hb9⟩))
    go_ret
    exact ⟨rfl, hb3.trans hb9⟩
end Go.Proofs.Yteahiiflgiimnaa
