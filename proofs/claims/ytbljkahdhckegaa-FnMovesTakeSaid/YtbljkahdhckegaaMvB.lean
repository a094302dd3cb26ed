/-
  Whether a move is possible, as the program and as the reference ask it.
-/
import Derived.Test.YtbljkahdhckegaaMvP
namespace Go.Proofs.Ytbljkahdhckegaa
open Go.RowKit

theorem later_next {w wq : World} {p : Addr} {v : Value} (h : ∀ n : Later w, n.out.cell? p = some v) (hq : Ext w wq) (n : Later wq) : n.out.cell? p = some v := h ⟨n.out, Ext.trans hq n.ext⟩
theorem later_at {w w' : World} {p : Addr} {v : Value} (h : ∀ n : Later w, n.out.cell? p = some v) (hb : Ext w w') : w'.cell? p = some v := h ⟨w', hb⟩
theorem later_here {w : World} {p : Addr} {v : Value} (h : ∀ n : Later w, n.out.cell? p = some v) : w.cell? p = some v := h ⟨w, Below.refl _ _⟩
theorem later_gv {w : World} {A : Option Addr} {n c : Nat} {g : List (List Int)} {t : Bool} (h : RdR w A n c g) (hv : gValid g = t) (z : Later w) : Calls Try.prog 23 #[.slice A n c] z.out fun e w'' => e = .returned (.bool t) ∧ ∃ m : Later w, w'' = m.out :=
  later_of z (hv ▸ specGraphValid_any _ _ _ _ _ (h.below z.ext))
theorem kind_lo {g : List (List Int)} {kd : Int} {i k j : Nat} {r : Int} : kindOk g kd i k j r = if kd == 1 then !(bits .and .i64 (el g i k) 1 == 0) && cvB r (el g k j) else if kd == 2 then !(bits .and .i64 (el g i k) 4 == 0) && cvB r (el g i j) else kd == 3 := rfl

set_option maxHeartbeats 4000000 in
theorem allowed_any (A : Option Addr) (n c m : Nat) (g : List (List Int)) (kd who oth thg rts : Int) (w : World) (h : RdR w A n c g) (ht : Tab n m g) (hnm : n ≤ m) (hm10 : m ≤ 10) :
    Calls Try.prog 39 #[.agg #[.int .i64 kd, .int .i64 who, .int .i64 oth, .int .i64 thg, .int .i64 rts], .slice A n c] w fun e w' => e = .returned (.bool (okMv g (kd, who, oth, thg, rts))) ∧ Ext w w' := by
  have hle := h.le
  have htop := h.top
  have hx : Ext w (w.alloc (.cells #[.int .i64 kd, .int .i64 who, .int .i64 oth, .int .i64 thg, .int .i64 rts] 28)) := (Below.refl _ _).alloc (Nat.le_refl _) _
  have L0 := later_cell (w := w.alloc (.cells #[.int .i64 kd, .int .i64 who, .int .i64 oth, .int .i64 thg, .int .i64 rts] 28)) (p := ⟨w.heap.size, 0, none⟩) (v := .int .i64 kd) (by rw [World.cell?_alloc_new]; rfl)
  have L1 := later_cell (w := w.alloc (.cells #[.int .i64 kd, .int .i64 who, .int .i64 oth, .int .i64 thg, .int .i64 rts] 28)) (p := ⟨w.heap.size, 1, none⟩) (v := .int .i64 who) (by rw [World.cell?_alloc_new]; rfl)
  have L2 := later_cell (w := w.alloc (.cells #[.int .i64 kd, .int .i64 who, .int .i64 oth, .int .i64 thg, .int .i64 rts] 28)) (p := ⟨w.heap.size, 2, none⟩) (v := .int .i64 oth) (by rw [World.cell?_alloc_new]; rfl)
  have L3 := later_cell (w := w.alloc (.cells #[.int .i64 kd, .int .i64 who, .int .i64 oth, .int .i64 thg, .int .i64 rts] 28)) (p := ⟨w.heap.size, 3, none⟩) (v := .int .i64 thg) (by rw [World.cell?_alloc_new]; rfl)
  have L4 := later_cell (w := w.alloc (.cells #[.int .i64 kd, .int .i64 who, .int .i64 oth, .int .i64 thg, .int .i64 rts] 28)) (p := ⟨w.heap.size, 4, none⟩) (v := .int .i64 rts) (by rw [World.cell?_alloc_new]; rfl)
  by_cases hr : rngMv n m (kd, who, oth, thg, rts) = true ∧ 0 < n
  · obtain ⟨hr, hn0⟩ := hr
    have hl0 := len0_tab ht hn0
    have hok : okMv g (kd, who, oth, thg, rts) = kindOk g kd who.toNat oth.toNat thg.toNat rts := by unfold okMv; rw [ht.len, hl0, hr]; rfl
    have hr2 := hr
    obtain ⟨i, k, j, h1, h2, h3, h4, h5, h6, h7, h8⟩ := rngMv_iff.1 hr
    simp only at h1 h2 h3 h7 h8
    subst h1 h2 h3
    simp only [Int.toNat_natCast] at hok
    have HOK := Lib.hid hok
    unfold rngMv at hr2
    simp only [Bool.and_eq_true] at hr2
    obtain ⟨⟨⟨ht0, ht1⟩, ht2⟩, ht3⟩ := hr2
    obtain ⟨b, off, b0, o0, c0, rfl, p0, q0, r0, s0⟩ := h.atEl ht hn0 (show 0 < m by omega)
    obtain ⟨b', off', b1, o1, c1, hA1, p1, q1, r1, s1⟩ := h.atEl ht h4 (show k < m by omega)
    obtain ⟨b'', off'', b2, o2, c2, hA2, p2, q2, r2, s2⟩ := h.atEl ht h5 h6
    obtain ⟨b3', off3', b3, o3, c3, hA3, p3, q3, r3, s3⟩ := h.atEl ht h4 h6
    simp only [Option.some.injEq, Addr.mk.injEq, and_true] at hA1 hA2 hA3
    obtain ⟨rfl, rfl⟩ := hA1
    obtain ⟨rfl, rfl⟩ := hA2
    obtain ⟨rfl, rfl⟩ := hA3
    have hp13 := p1.symm.trans p3
    simp only [Option.some.injEq, Value.slice.injEq, Addr.mk.injEq, and_true, true_and] at hp13
    obtain ⟨⟨rfl, rfl⟩, rfl⟩ := hp13
    rw [Nat.add_zero] at p0
    have P0 := later_cell (kept_of_below hx _ _ p0)
    have P1 := later_cell (kept_of_below hx _ _ p1)
    have P2 := later_cell (kept_of_below hx _ _ p2)
    have S1 := later_cell (kept_of_below hx _ _ s1)
    have S2 := later_cell (kept_of_below hx _ _ s2)
    have S3 := later_cell (kept_of_below hx _ _ s3)
    obtain ⟨t1, e1⟩ : ∃ t, (bits .and .i64 (el g i k) 1 == 0) = t := ⟨_, rfl⟩
    obtain ⟨t4, e4⟩ : ∃ t, (bits .and .i64 (el g i k) 4 == 0) = t := ⟨_, rfl⟩
    obtain ⟨tk, ek⟩ : ∃ t, cvB rts (el g k j) = t := ⟨_, rfl⟩
    obtain ⟨ti, ei⟩ : ∃ t, cvB rts (el g i j) = t := ⟨_, rfl⟩
    have n1 : (bits .and .i64 (el g i k) 1 != 0) = !t1 := by rw [← e1]; rfl
    have n4 : (bits .and .i64 (el g i k) 4 != 0) = !t4 := by rw [← e4]; rfl
    have nk : (bits .andNot .i64 rts (el g k j) == 0) = tk := ek
    have ni : (bits .andNot .i64 rts (el g i j) == 0) = ti := ei
    have HK : Hid (kindOk g kd i k j rts = if kd == 1 then !t1 && tk else if kd == 2 then !t4 && ti else kd == 3) := by rw [kind_lo, e1, e4, ek, ei]; exact rfl
    obtain ⟨z1, hz1⟩ : ∃ z, z = el g i k := ⟨_, rfl⟩
    obtain ⟨z2, hz2⟩ : ∃ z, z = el g k j := ⟨_, rfl⟩
    obtain ⟨z3, hz3⟩ : ∃ z, z = el g i j := ⟨_, rfl⟩
    rw [← hz1] at S1 n1 n4
    rw [← hz2] at S2 nk
    rw [← hz3] at S3 ni
    clear hz1 hz2 hz3 h ht hr hok p0 p1 p2 p3 s0 s1 s2 s3 e1 e4 ek ei hl0
    go_enter Try.func39, Try.ntmps39
    go_wp2
    (refine wp_region_later (by kernel_rfl) (by kernel_rfl) ?_; repeat (any_goals (first | (with_reducible refine wpQuiet_nil ?_; intro wq hq) | go_big_quiet_step (((first | (go_at_call 52; with_reducible first | exact later_same _ (in_eq ht0) | exact later_same _ (in_eq ht1) | exact later_same _ (in_eq ht2)) | (go_at_call 50; exact later_same _ (RightsValid_eq ht3))))))))
    go_wp2
    replace L0 := later_next L0 hq
    replace L1 := later_next L1 hq
    replace L2 := later_next L2 hq
    replace L3 := later_next L3 hq
    replace L4 := later_next L4 hq
    replace P0 := later_next P0 hq
    replace P1 := later_next P1 hq
    replace P2 := later_next P2 hq
    replace S1 := later_next S1 hq
    replace S2 := later_next S2 hq
    replace S3 := later_next S3 hq
    have hxq := hx.trans hq
    clear hx hq
    (refine wp_region_later (by kernel_rfl) (by kernel_rfl) ?_; repeat (any_goals (first | (with_reducible refine wpQuiet_nil ?_; intro wq hq) | go_big_quiet_step ((fail)))))
    replace L0 := later_next L0 hq
    replace L1 := later_next L1 hq
    replace L2 := later_next L2 hq
    replace L3 := later_next L3 hq
    replace L4 := later_next L4 hq
    replace P1 := later_next P1 hq
    replace P2 := later_next P2 hq
    replace S2 := later_next S2 hq
    replace S3 := later_next S3 hq
    have hxx := hxq.trans hq
    clear hxq hq P0 S1
    have M0 := later_here L0
    by_cases hk1 : kd = 1
    · subst hk1
      cases t1 with
      | true =>
        simp only [Bool.not_true] at n1
        go_wp2
        (refine wp_region_later (by kernel_rfl) (by kernel_rfl) ?_; repeat (any_goals (first | (with_reducible refine wpQuiet_nil ?_; intro wq hq) | go_big_quiet_step ((fail)))))
        go_wp2
        go_ret
        exact ⟨ret_bool (by rw [HOK.out, HK.out]; rfl), hxx.trans hq⟩
      | false =>
        simp only [Bool.not_false] at n1
        go_wp2
        (refine wp_region_later (by kernel_rfl) (by kernel_rfl) ?_; repeat (any_goals (first | (with_reducible refine wpQuiet_nil ?_; intro wq hq) | go_big_quiet_step ((fail)))))
        go_wp2
        go_ret
        exact ⟨ret_bool (by rw [HOK.out, HK.out]; rfl), hxx.trans hq⟩
    · have hk1' : (kd == 1) = false := by simpa using hk1
      by_cases hk2 : kd = 2
      · subst hk2
        cases t4 with
        | true =>
          simp only [Bool.not_true] at n4
          go_wp2
          (refine wp_region_later (by kernel_rfl) (by kernel_rfl) ?_; repeat (any_goals (first | (with_reducible refine wpQuiet_nil ?_; intro wq hq) | go_big_quiet_step ((fail)))))
          go_wp2
          go_ret
          exact ⟨ret_bool (by rw [HOK.out, HK.out]; rfl), hxx.trans hq⟩
        | false =>
          simp only [Bool.not_false] at n4
          go_wp2
          (refine wp_region_later (by kernel_rfl) (by kernel_rfl) ?_; repeat (any_goals (first | (with_reducible refine wpQuiet_nil ?_; intro wq hq) | go_big_quiet_step ((fail)))))
          go_wp2
          go_ret
          exact ⟨ret_bool (by rw [HOK.out, HK.out]; rfl), hxx.trans hq⟩
      · have hk2' : (kd == 2) = false := by simpa using hk2
        clear hk1 hk2
        go_wp2
        go_ret
        exact ⟨ret_bool (by rw [HOK.out, HK.out, hk1', hk2']; rfl), hxx⟩
  · have hok : okMv g (kd, who, oth, thg, rts) = false := by
      unfold okMv
      rw [ht.len]
      rcases Nat.eq_zero_or_pos n with h0 | h0
      · have e : inB who 0 ((n : Int) - 1) = false := inB_not.2 (by omega)
        unfold rngMv; simp only [e]; rfl
      · rw [len0_tab ht h0]
        cases hv : rngMv n m (kd, who, oth, thg, rts) with
        | false => rfl
        | true => exact absurd ⟨hv, h0⟩ hr
    have HOK := Lib.hid hok
    clear hok
    cases ht0 : inB who 0 ((n : Int) - 1) with
    | false =>
      clear h ht hr
      go_enter Try.func39, Try.ntmps39
      go_wp2
      (refine wp_region_later (by kernel_rfl) (by kernel_rfl) ?_; repeat (any_goals (first | (with_reducible refine wpQuiet_nil ?_; intro wq hq) | go_big_quiet_step (((go_at_call 52; with_reducible exact later_same _ (in_eq ht0)))))))
      go_wp2
      go_ret
      exact ⟨ret_bool HOK.out.symm, hx.trans hq⟩
    | true =>
      have hn0 : 0 < n := by have := inB_iff.1 ht0; omega
      cases ht1 : inB oth 0 ((n : Int) - 1) with
      | false =>
        clear h ht hr
        go_enter Try.func39, Try.ntmps39
        go_wp2
        (refine wp_region_later (by kernel_rfl) (by kernel_rfl) ?_; repeat (any_goals (first | (with_reducible refine wpQuiet_nil ?_; intro wq hq) | go_big_quiet_step (((go_at_call 52; with_reducible first | exact later_same _ (in_eq ht0) | exact later_same _ (in_eq ht1)))))))
        go_wp2
        go_ret
        exact ⟨ret_bool HOK.out.symm, hx.trans hq⟩
      | true =>
        obtain ⟨b, off, A1, m1, c1, xs, rfl, X, g0, R⟩ := h.atR hn0
        have hm1 : m1 = m := by rw [← R.lenI]; exact ht.row _ (List.mem_of_getElem? X.out)
        subst hm1
        rw [Nat.add_zero] at g0
        have P0 := later_cell (kept_of_below hx _ _ g0)
        clear g0 R X
        cases ht2 : inB thg 0 ((m1 : Int) - 1) with
        | false =>
          clear h ht hr
          go_enter Try.func39, Try.ntmps39
          go_wp2
          (refine wp_region_later (by kernel_rfl) (by kernel_rfl) ?_; repeat (any_goals (first | (with_reducible refine wpQuiet_nil ?_; intro wq hq) | go_big_quiet_step (((go_at_call 52; with_reducible first | exact later_same _ (in_eq ht0) | exact later_same _ (in_eq ht1) | exact later_same _ (in_eq ht2)))))))
          go_wp2
          go_ret
          exact ⟨ret_bool HOK.out.symm, hx.trans hq⟩
        | true =>
          have ht3 : inB rts 0 15 = false := by
            cases ht3 : inB rts 0 15 with
            | false => rfl
            | true => exact absurd ⟨by unfold rngMv; simp only [ht0, ht1, ht2, ht3]; rfl, hn0⟩ hr
          clear h ht hr
          go_enter Try.func39, Try.ntmps39
          go_wp2
          (refine wp_region_later (by kernel_rfl) (by kernel_rfl) ?_; repeat (any_goals (first | (with_reducible refine wpQuiet_nil ?_; intro wq hq) | go_big_quiet_step (((first | (go_at_call 52; with_reducible first | exact later_same _ (in_eq ht0) | exact later_same _ (in_eq ht1) | exact later_same _ (in_eq ht2)) | (go_at_call 50; exact later_same _ (RightsValid_eq ht3))))))))
          go_wp2
          go_ret
          exact ⟨ret_bool HOK.out.symm, hx.trans hq⟩
end Go.Proofs.Ytbljkahdhckegaa
