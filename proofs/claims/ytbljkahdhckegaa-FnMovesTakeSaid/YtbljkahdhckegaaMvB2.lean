/-
  Whether a move is possible: the program's exported function; whether its numbers exist, as the reference asks it.
-/
import Derived.Test.YtbljkahdhckegaaMvB
namespace Go.Proofs.Ytbljkahdhckegaa
open Go.RowKit

set_option maxHeartbeats 1000000 in
theorem MoveAllowed_any (A : Option Addr) (n c : Nat) (g : List (List Int)) (kd who oth thg rts : Int) (w : World) (h : RdR w A n c g) :
    Calls Try.prog 14 #[.slice A n c, .agg #[.int .i64 kd, .int .i64 who, .int .i64 oth, .int .i64 thg, .int .i64 rts]] w fun e w' => e = .returned (.bool (allowR g (kd, who, oth, thg, rts))) ∧ Ext w w' := by
  have hx : Ext w (w.alloc (.cells #[.int .i64 kd, .int .i64 who, .int .i64 oth, .int .i64 thg, .int .i64 rts] 28)) := (Below.refl _ _).alloc (Nat.le_refl _) _
  have L0 := later_cell (w := w.alloc (.cells #[.int .i64 kd, .int .i64 who, .int .i64 oth, .int .i64 thg, .int .i64 rts] 28)) (p := ⟨w.heap.size, 0, none⟩) (v := .int .i64 kd) (by rw [World.cell?_alloc_new]; rfl)
  have L1 := later_cell (w := w.alloc (.cells #[.int .i64 kd, .int .i64 who, .int .i64 oth, .int .i64 thg, .int .i64 rts] 28)) (p := ⟨w.heap.size, 1, none⟩) (v := .int .i64 who) (by rw [World.cell?_alloc_new]; rfl)
  have L2 := later_cell (w := w.alloc (.cells #[.int .i64 kd, .int .i64 who, .int .i64 oth, .int .i64 thg, .int .i64 rts] 28)) (p := ⟨w.heap.size, 2, none⟩) (v := .int .i64 oth) (by rw [World.cell?_alloc_new]; rfl)
  have L3 := later_cell (w := w.alloc (.cells #[.int .i64 kd, .int .i64 who, .int .i64 oth, .int .i64 thg, .int .i64 rts] 28)) (p := ⟨w.heap.size, 3, none⟩) (v := .int .i64 thg) (by rw [World.cell?_alloc_new]; rfl)
  have L4 := later_cell (w := w.alloc (.cells #[.int .i64 kd, .int .i64 who, .int .i64 oth, .int .i64 thg, .int .i64 rts] 28)) (p := ⟨w.heap.size, 4, none⟩) (v := .int .i64 rts) (by rw [World.cell?_alloc_new]; rfl)
  have hR := h.below hx
  unfold allowR
  cases hv : gValid g with
  | false =>
    clear L0 L1 L2 L3 L4
    go_enter Try.func14, Try.ntmps14
    go_wp2_with fail
    refine (GraphValid_any _ _ _ _ _ hR).mono ?_; rintro e w1 ⟨rfl, hb1⟩; rw [hv]
    go_wp2
    go_ret
    exact ⟨rfl, hx.trans hb1⟩
  | true =>
    obtain ⟨n', m, ht, hnm, h6, hm, _⟩ := tab_of_valid hv
    have hn : n' = n := by rw [← ht.len, h.lenR]
    subst hn
    have HV := Lib.hid hv
    have HT := Lib.hid ht
    clear hv ht h
    go_enter Try.func14, Try.ntmps14
    go_wp2_with fail
    refine (GraphValid_any _ _ _ _ _ hR).mono ?_; rintro e w1 ⟨rfl, hb1⟩; rw [HV.out]
    have M0 := L0 ⟨w1, hb1⟩
    have M1 := L1 ⟨w1, hb1⟩
    have M2 := L2 ⟨w1, hb1⟩
    have M3 := L3 ⟨w1, hb1⟩
    have M4 := L4 ⟨w1, hb1⟩
    have hR1 := hR.below hb1
    clear L0 L1 L2 L3 L4 hR
    go_wp2_with fail
    refine (allowed_any _ _ _ m _ _ _ _ _ _ _ hR1 HT.out hnm hm).mono ?_; rintro e w2 ⟨rfl, hb2⟩
    go_wp2
    go_ret
    exact ⟨ret_bool (by rw [Bool.true_and]), hx.trans (Ext.trans hb1 hb2)⟩

set_option maxHeartbeats 2000000 in
theorem l21Ok_any (A : Option Addr) (n c : Nat) (g : List (List Int)) (kd who oth thg rts : Int) (w : World) (h : RdR w A n c g) :
    Calls Try.prog 37 #[.slice A n c, .agg #[.int .i64 kd, .int .i64 who, .int .i64 oth, .int .i64 thg, .int .i64 rts]] w fun e w' => e = .returned (.bool (gValid g && rngMv n (len0 g) (kd, who, oth, thg, rts))) ∧ Ext w w' := by
  have hle := h.le
  have htop := h.top
  have hx : Ext w (w.alloc (.cells #[.int .i64 kd, .int .i64 who, .int .i64 oth, .int .i64 thg, .int .i64 rts] 28)) := (Below.refl _ _).alloc (Nat.le_refl _) _
  have L0 := later_cell (w := w.alloc (.cells #[.int .i64 kd, .int .i64 who, .int .i64 oth, .int .i64 thg, .int .i64 rts] 28)) (p := ⟨w.heap.size, 0, none⟩) (v := .int .i64 kd) (by rw [World.cell?_alloc_new]; rfl)
  have L1 := later_cell (w := w.alloc (.cells #[.int .i64 kd, .int .i64 who, .int .i64 oth, .int .i64 thg, .int .i64 rts] 28)) (p := ⟨w.heap.size, 1, none⟩) (v := .int .i64 who) (by rw [World.cell?_alloc_new]; rfl)
  have L2 := later_cell (w := w.alloc (.cells #[.int .i64 kd, .int .i64 who, .int .i64 oth, .int .i64 thg, .int .i64 rts] 28)) (p := ⟨w.heap.size, 2, none⟩) (v := .int .i64 oth) (by rw [World.cell?_alloc_new]; rfl)
  have L3 := later_cell (w := w.alloc (.cells #[.int .i64 kd, .int .i64 who, .int .i64 oth, .int .i64 thg, .int .i64 rts] 28)) (p := ⟨w.heap.size, 3, none⟩) (v := .int .i64 thg) (by rw [World.cell?_alloc_new]; rfl)
  have L4 := later_cell (w := w.alloc (.cells #[.int .i64 kd, .int .i64 who, .int .i64 oth, .int .i64 thg, .int .i64 rts] 28)) (p := ⟨w.heap.size, 4, none⟩) (v := .int .i64 rts) (by rw [World.cell?_alloc_new]; rfl)
  have hR := h.below hx
  cases hv : gValid g with
  | false =>
    clear h
    go_enter Try.func37, Try.ntmps37
    go_wp2
    (refine wp_region_later (by kernel_rfl) (by kernel_rfl) ?_; repeat (any_goals (first | (with_reducible refine wpQuiet_nil ?_; intro wq hq) | go_big_quiet_step (((go_at_call 23; exact later_gv hR hv _))))))
    go_wp2
    go_ret
    exact ⟨rfl, hx.trans hq⟩
  | true =>
    obtain ⟨n', m, ht, hnm, h6, hm, h0⟩ := tab_of_valid hv
    have hn : n' = n := by rw [← ht.len, h.lenR]
    subst hn
    cases ht0 : inB who 0 ((n' : Int) - 1) with
    | false =>
      have e : (true && rngMv n' (len0 g) (kd, who, oth, thg, rts)) = false := by unfold rngMv; simp only [ht0]; rfl
      rw [e]
      clear e h ht
      go_enter Try.func37, Try.ntmps37
      go_wp2
      (refine wp_region_later (by kernel_rfl) (by kernel_rfl) ?_; repeat (any_goals (first | (with_reducible refine wpQuiet_nil ?_; intro wq hq) | go_big_quiet_step (((first | (go_at_call 23; exact later_gv hR hv _) | (go_at_call 60; with_reducible exact later_same _ (l1In_eq ht0))))))))
      go_wp2
      go_ret
      exact ⟨rfl, hx.trans hq⟩
    | true =>
      have hn0 : 0 < n' := by have := inB_iff.1 ht0; omega
      rw [h0 hn0]
      cases ht1 : inB oth 0 ((n' : Int) - 1) with
      | false =>
        have e : (true && rngMv n' m (kd, who, oth, thg, rts)) = false := by unfold rngMv; simp only [ht0, ht1]; rfl
        rw [e]
        clear e h ht h0
        go_enter Try.func37, Try.ntmps37
        go_wp2
        (refine wp_region_later (by kernel_rfl) (by kernel_rfl) ?_; repeat (any_goals (first | (with_reducible refine wpQuiet_nil ?_; intro wq hq) | go_big_quiet_step (((first | (go_at_call 23; exact later_gv hR hv _) | (go_at_call 60; with_reducible first | exact later_same _ (l1In_eq ht0) | exact later_same _ (l1In_eq ht1))))))))
        go_wp2
        go_ret
        exact ⟨rfl, hx.trans hq⟩
      | true =>
        obtain ⟨b, off, A1, m1, c1, xs, rfl, X, g0, R⟩ := h.atR hn0
        have hm1 : m1 = m := by rw [← R.lenI]; exact ht.row _ (List.mem_of_getElem? X.out)
        subst hm1
        rw [Nat.add_zero] at g0
        have P0 := later_cell (kept_of_below hx _ _ g0)
        clear g0 R X h h0 ht
        cases ht2 : inB thg 0 ((m1 : Int) - 1) with
        | false =>
          have e : (true && rngMv n' m1 (kd, who, oth, thg, rts)) = false := by unfold rngMv; simp only [ht0, ht1, ht2]; rfl
          rw [e]
          clear e
          go_enter Try.func37, Try.ntmps37
          go_wp2
          (refine wp_region_later (by kernel_rfl) (by kernel_rfl) ?_; repeat (any_goals (first | (with_reducible refine wpQuiet_nil ?_; intro wq hq) | go_big_quiet_step (((first | (go_at_call 23; exact later_gv hR hv _) | (go_at_call 60; with_reducible first | exact later_same _ (l1In_eq ht0) | exact later_same _ (l1In_eq ht1) | exact later_same _ (l1In_eq ht2))))))))
          go_wp2
          go_ret
          exact ⟨rfl, hx.trans hq⟩
        | true =>
          obtain ⟨t3, ht3⟩ : ∃ t, inB rts 0 15 = t := ⟨_, rfl⟩
          have e : (true && rngMv n' m1 (kd, who, oth, thg, rts)) = t3 := by unfold rngMv; simp only [ht0, ht1, ht2, ht3]; rfl
          rw [e]
          clear e
          go_enter Try.func37, Try.ntmps37
          go_wp2
          (refine wp_region_later (by kernel_rfl) (by kernel_rfl) ?_; repeat (any_goals (first | (with_reducible refine wpQuiet_nil ?_; intro wq hq) | go_big_quiet_step (((first | (go_at_call 23; exact later_gv hR hv _) | (go_at_call 60; with_reducible first | exact later_same _ (l1In_eq ht0) | exact later_same _ (l1In_eq ht1) | exact later_same _ (l1In_eq ht2)) | (go_at_call 49; exact later_same _ (specRightsValid_eq ht3))))))))
          go_wp2
          go_ret
          exact ⟨rfl, hx.trans hq⟩
end Go.Proofs.Ytbljkahdhckegaa
