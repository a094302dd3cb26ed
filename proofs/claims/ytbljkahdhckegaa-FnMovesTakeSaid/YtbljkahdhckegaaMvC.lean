/-
  Whether a move is possible, as the reference asks it.
-/
import Derived.Test.YtbljkahdhckegaaMvB2
namespace Go.Proofs.Ytbljkahdhckegaa
open Go.RowKit

set_option maxHeartbeats 4000000 in
theorem specMoveAllowed_any (A : Option Addr) (n c : Nat) (g : List (List Int)) (kd who oth thg rts : Int) (w : World) (h : RdR w A n c g) :
    Calls Try.prog 11 #[.slice A n c, .agg #[.int .i64 kd, .int .i64 who, .int .i64 oth, .int .i64 thg, .int .i64 rts]] w fun e w' => e = .returned (.bool (allowR g (kd, who, oth, thg, rts))) ∧ Ext w w' := by
  have hle := h.le
  have htop := h.top
  have hx : Ext w (w.alloc (.cells #[.int .i64 kd, .int .i64 who, .int .i64 oth, .int .i64 thg, .int .i64 rts] 28)) := (Below.refl _ _).alloc (Nat.le_refl _) _
  have L0 := later_cell (w := w.alloc (.cells #[.int .i64 kd, .int .i64 who, .int .i64 oth, .int .i64 thg, .int .i64 rts] 28)) (p := ⟨w.heap.size, 0, none⟩) (v := .int .i64 kd) (by rw [World.cell?_alloc_new]; rfl)
  have L1 := later_cell (w := w.alloc (.cells #[.int .i64 kd, .int .i64 who, .int .i64 oth, .int .i64 thg, .int .i64 rts] 28)) (p := ⟨w.heap.size, 1, none⟩) (v := .int .i64 who) (by rw [World.cell?_alloc_new]; rfl)
  have L2 := later_cell (w := w.alloc (.cells #[.int .i64 kd, .int .i64 who, .int .i64 oth, .int .i64 thg, .int .i64 rts] 28)) (p := ⟨w.heap.size, 2, none⟩) (v := .int .i64 oth) (by rw [World.cell?_alloc_new]; rfl)
  have L3 := later_cell (w := w.alloc (.cells #[.int .i64 kd, .int .i64 who, .int .i64 oth, .int .i64 thg, .int .i64 rts] 28)) (p := ⟨w.heap.size, 3, none⟩) (v := .int .i64 thg) (by rw [World.cell?_alloc_new]; rfl)
  have L4 := later_cell (w := w.alloc (.cells #[.int .i64 kd, .int .i64 who, .int .i64 oth, .int .i64 thg, .int .i64 rts] 28)) (p := ⟨w.heap.size, 4, none⟩) (v := .int .i64 rts) (by rw [World.cell?_alloc_new]; rfl)
  have hR := h.below hx
  have hn := h.lenR
  cases hok : (gValid g && rngMv n (len0 g) (kd, who, oth, thg, rts)) with
  | false =>
    have e : allowR g (kd, who, oth, thg, rts) = false := by
      unfold allowR okMv
      rw [hn]
      cases hv : gValid g with
      | false => rfl
      | true => rw [hv, Bool.true_and] at hok; rw [hok]; rfl
    have E := Lib.hid e
    have HO := Lib.hid hok
    clear e hok L0 L1 L2 L3 L4 h
    go_enter Try.func11, Try.ntmps11
    go_wp2_with fail
    refine (l21Ok_any _ _ _ _ _ _ _ _ _ _ hR).mono ?_; rintro e w1 ⟨rfl, hb1⟩; rw [HO.out]
    go_wp2
    go_ret
    exact ⟨ret_bool E.out.symm, hx.trans hb1⟩
  | true =>
    have hok2 := hok
    rw [Bool.and_eq_true] at hok2
    obtain ⟨hv, hr⟩ := hok2
    obtain ⟨n', m, ht, hnm, h6, hm, h0⟩ := tab_of_valid hv
    have hn' : n' = n := by rw [← ht.len, hn]
    subst hn'
    have hn0 : 0 < n' := by obtain ⟨i, _, _, _, _, _, h4, _⟩ := rngMv_iff.1 hr; omega
    rw [h0 hn0] at hr
    obtain ⟨i, k, j, h1, h2, h3, h4, h5, h6', h7, h8⟩ := rngMv_iff.1 hr
    simp only at h1 h2 h3 h7 h8
    subst h1 h2 h3
    have e0 : allowR g (kd, i, k, j, rts) = kindOk g kd i k j rts := by unfold allowR okMv; rw [hv, ht.len, h0 hn0, hr]; simp
    have HOK := Lib.hid e0
    have HO := Lib.hid hok
    obtain ⟨b, off, b1, o1, c1, rfl, p1, q1, r1, s1⟩ := h.atEl ht h4 (show k < m by omega)
    obtain ⟨b'', off'', b2, o2, c2, hA2, p2, q2, r2, s2⟩ := h.atEl ht h5 h6'
    obtain ⟨b3', off3', b3, o3, c3, hA3, p3, q3, r3, s3⟩ := h.atEl ht h4 h6'
    simp only [Option.some.injEq, Addr.mk.injEq, and_true] at hA2 hA3
    obtain ⟨rfl, rfl⟩ := hA2
    obtain ⟨rfl, rfl⟩ := hA3
    have hp13 := p1.symm.trans p3
    simp only [Option.some.injEq, Value.slice.injEq, Addr.mk.injEq, and_true, true_and] at hp13
    obtain ⟨⟨rfl, rfl⟩, rfl⟩ := hp13
    have P1 := later_cell (kept_of_below hx _ _ p1)
    have P2 := later_cell (kept_of_below hx _ _ p2)
    have S1 := later_cell (kept_of_below hx _ _ s1)
    have S2 := later_cell (kept_of_below hx _ _ s2)
    have S3 := later_cell (kept_of_below hx _ _ s3)
    have f2 := cv_flip ⟨h7, h8⟩ (ht.el_rg k j)
    have f3 := cv_flip ⟨h7, h8⟩ (ht.el_rg i j)
    obtain ⟨t1, e1⟩ : ∃ t, (bits .and .i64 (el g i k) 1 == 0) = t := ⟨_, rfl⟩
    obtain ⟨t4, e4⟩ : ∃ t, (bits .and .i64 (el g i k) 4 == 0) = t := ⟨_, rfl⟩
    obtain ⟨tk, ek⟩ : ∃ t, cvB rts (el g k j) = t := ⟨_, rfl⟩
    obtain ⟨ti, ei⟩ : ∃ t, cvB rts (el g i j) = t := ⟨_, rfl⟩
    have n1 : (bits .and .i64 (el g i k) 1 != 0) = !t1 := by rw [← e1]; rfl
    have n4 : (bits .and .i64 (el g i k) 4 != 0) = !t4 := by rw [← e4]; rfl
    rw [ek] at f2
    rw [ei] at f3
    have HK : Hid (kindOk g kd i k j rts = if kd == 1 then !t1 && tk else if kd == 2 then !t4 && ti else kd == 3) := by rw [kind_lo, e1, e4, ek, ei]; exact rfl
    obtain ⟨z1, hz1⟩ : ∃ z, z = el g i k := ⟨_, rfl⟩
    obtain ⟨z2, hz2⟩ : ∃ z, z = el g k j := ⟨_, rfl⟩
    obtain ⟨z3, hz3⟩ : ∃ z, z = el g i j := ⟨_, rfl⟩
    rw [← hz1] at S1 n1 n4
    rw [← hz2] at S2 f2
    rw [← hz3] at S3 f3
    clear hz1 hz2 hz3 h ht hr hok p1 p2 p3 s1 s2 s3 e1 e4 ek ei h0 e0 hv hn
    go_enter Try.func11, Try.ntmps11
    go_wp2_with fail
    refine (l21Ok_any _ _ _ _ _ _ _ _ _ _ hR).mono ?_; rintro e w1 ⟨rfl, hq⟩; rw [HO.out]
    clear hR
    replace L0 := later_next L0 hq
    replace L1 := later_next L1 hq
    replace L2 := later_next L2 hq
    replace L3 := later_next L3 hq
    replace L4 := later_next L4 hq
    replace P1 := later_next P1 hq
    replace P2 := later_next P2 hq
    replace S1 := later_next S1 hq
    replace S2 := later_next S2 hq
    replace S3 := later_next S3 hq
    have hxx := hx.trans hq
    clear hx hq
    have M0 := later_here L0
    by_cases hk1 : kd = 1
    · subst hk1
      cases t1 with
      | true =>
        simp only [Bool.not_true] at n1
        go_wp2
        (refine wp_region_later (by kernel_rfl) (by kernel_rfl) ?_; repeat (any_goals (first | (with_reducible refine wpQuiet_nil ?_; intro wq hq) | go_big_quiet_step ((fail)))))
        go_wp2
        go_ret
        exact ⟨ret_bool (by rw [HOK.out, HK.out]; rfl), hxx.trans hq⟩
      | false =>
        simp only [Bool.not_false] at n1
        go_wp2
        (refine wp_region_later (by kernel_rfl) (by kernel_rfl) ?_; repeat (any_goals (first | (with_reducible refine wpQuiet_nil ?_; intro wq hq) | go_big_quiet_step ((fail)))))
        go_wp2
        go_ret
        exact ⟨ret_bool (by rw [HOK.out, HK.out]; rfl), hxx.trans hq⟩
    · have hk1' : (kd == 1) = false := by simpa using hk1
      by_cases hk2 : kd = 2
      · subst hk2
        cases t4 with
        | true =>
          simp only [Bool.not_true] at n4
          go_wp2
          (refine wp_region_later (by kernel_rfl) (by kernel_rfl) ?_; repeat (any_goals (first | (with_reducible refine wpQuiet_nil ?_; intro wq hq) | go_big_quiet_step ((fail)))))
          go_wp2
          go_ret
          exact ⟨ret_bool (by rw [HOK.out, HK.out]; rfl), hxx.trans hq⟩
        | false =>
          simp only [Bool.not_false] at n4
          go_wp2
          (refine wp_region_later (by kernel_rfl) (by kernel_rfl) ?_; repeat (any_goals (first | (with_reducible refine wpQuiet_nil ?_; intro wq hq) | go_big_quiet_step ((fail)))))
          go_wp2
          go_ret
          exact ⟨ret_bool (by rw [HOK.out, HK.out]; rfl), hxx.trans hq⟩
      · have hk2' : (kd == 2) = false := by simpa using hk2
        clear hk1 hk2
        go_wp2
        go_ret
        exact ⟨ret_bool (by rw [HOK.out, HK.out, hk1', hk2']; rfl), hxx⟩
end Go.Proofs.Ytbljkahdhckegaa
