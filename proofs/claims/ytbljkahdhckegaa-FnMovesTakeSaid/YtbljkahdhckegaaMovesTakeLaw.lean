/-
  The law FnMovesTake returns true at every input, and leaves all that was there as it was: the walk.
-/
import Derived.Test.YtbljkahdhckegaaDrN
import Derived.Test.YtbljkahdhckegaaDrX
import Derived.Test.YtbljkahdhckegaaAlive
import Derived.Test.YtbljkahdhckegaaMvL
import Derived.Test.YtbljkahdhckegaaMvF
import Derived.Test.YtbljkahdhckegaaRw
namespace Go.Proofs.Ytbljkahdhckegaa
open Go.RowKit

theorem rw_later {a b : Int} (h : rwB a b = true) (w : World) : Calls Try.prog 25 #[.int .i64 a, .int .i64 b] w fun e w' => e = .returned (.bool true) ∧ Ext w w' :=
  (RightsWithin_any _ _ _).mono fun e w' ⟨he, hw⟩ => by subst hw; rw [h] at he; exact ⟨he, Below.refl _ _⟩
/-- Taking all that another one has. -/
theorem take_mv {g : List (List Int)} {n m i k j : Nat} (ht : Tab n m g) (hnm : n ≤ m) (h6 : n ≤ 6) (hm : m ≤ 10) (hi : i < n) (hk : k < n) (hj : j < m) (h1 : (bits .and .i64 (el g i k) 1 == 0) = false) :
    runR g [(1, (i : Int), (k : Int), (j : Int), el g k j)] = setAt g i j (orI (el g i j) (el g k j)) ∧ runC g [(1, (i : Int), (k : Int), (j : Int), el g k j)] = 1 ∧ Tab n m (setAt g i j (orI (el g i j) (el g k j))) ∧
      el (setAt g i j (orI (el g i j) (el g k j))) i j = orI (el g i j) (el g k j) ∧ rwB (el g k j) (orI (el g i j) (el g k j)) = true := by
  have hr := ht.el_rg k j
  have hv := valid_of_tab ht hnm h6 hm
  have hok : okMv g (1, (i : Int), (k : Int), (j : Int), el g k j) = true := by
    unfold okMv
    rw [Bool.and_eq_true]
    refine ⟨rngMv_iff.2 ⟨i, k, j, rfl, rfl, rfl, by rw [ht.len]; exact hi, by rw [ht.len]; exact hk, by rw [len0_tab ht (by omega)]; exact hj, hr.1, hr.2⟩, ?_⟩
    unfold kindOk
    simp only [Int.toNat_natCast]
    rw [h1, cv_refl hr]; rfl
  have hro : runOk g [(1, (i : Int), (k : Int), (j : Int), el g k j)] = true := by unfold runOk; rw [hv]; rfl
  have htt := setAt_tab (j := j) ht hi (or_rg (ht.el_rg i j) hr)
  refine ⟨?_, ?_, htt, ?_, ?_⟩
  · unfold runR
    rw [hro]
    show doMv g _ = _
    unfold doMv
    rw [if_pos hok]
    rfl
  · unfold runC
    rw [hro]
    show ((((if okMv g _ = true then 1 else 0) + 0 : Nat)) : Int) = 1
    rw [if_pos hok]
    rfl
  · rw [setAt_el ht hi hj, if_pos ⟨rfl, rfl⟩]
  · unfold rwB
    rw [inB_iff.2 hr, inB_iff.2 (or_rg (ht.el_rg i j) hr), cv_orr (ht.el_rg i j) hr]; rfl

set_option maxRecDepth 10000 in
set_option maxHeartbeats 4000000 in
theorem FnMovesTake_walk (A : Option Addr) (n0 c0 : Nat) (code : List Int) (w : World) (h0 : Rd w 1 A n0 c0 (code.map (Value.int .u8))) (F0 : ∀ z ∈ code, (Lit.int .u8 z).wf = true) :
    Calls Try.prog 6 #[.slice A n0 c0] w fun e w' => e = .returned (.bool true) ∧ Ext w w' := by
  obtain ⟨bs, hbs⟩ := bytes_of F0
  rw [hbs] at h0
  have hle := h0.le
  have htop := h0.top
  by_cases hn : 1048576 < n0
  · go_enter Try.func6, Try.ntmps6
    go_wp2
    go_ret
    exact ⟨rfl, Below.refl _ _⟩
  go_enter Try.func6, Try.ntmps6
  go_wp2_with fail
  refine (DrawDoMove_any _ _ _ _ _ h0).mono ?_; rintro e w1 ⟨A1, n1, c1, g, kd, who, oth, thg, rts, rfl, hg, hn1, hn8, hb1⟩
  have hx : Ext w1 (w1.alloc (.cells #[.int .i64 kd, .int .i64 who, .int .i64 oth, .int .i64 thg, .int .i64 rts] 28)) := (Below.refl _ _).alloc (Nat.le_refl _) _
  have L0 := later_cell (w := w1.alloc (.cells #[.int .i64 kd, .int .i64 who, .int .i64 oth, .int .i64 thg, .int .i64 rts] 28)) (p := ⟨w1.heap.size, 0, none⟩) (v := .int .i64 kd) (by rw [World.cell?_alloc_new]; rfl)
  have L1 := later_cell (w := w1.alloc (.cells #[.int .i64 kd, .int .i64 who, .int .i64 oth, .int .i64 thg, .int .i64 rts] 28)) (p := ⟨w1.heap.size, 1, none⟩) (v := .int .i64 who) (by rw [World.cell?_alloc_new]; rfl)
  have L2 := later_cell (w := w1.alloc (.cells #[.int .i64 kd, .int .i64 who, .int .i64 oth, .int .i64 thg, .int .i64 rts] 28)) (p := ⟨w1.heap.size, 2, none⟩) (v := .int .i64 oth) (by rw [World.cell?_alloc_new]; rfl)
  have L3 := later_cell (w := w1.alloc (.cells #[.int .i64 kd, .int .i64 who, .int .i64 oth, .int .i64 thg, .int .i64 rts] 28)) (p := ⟨w1.heap.size, 3, none⟩) (v := .int .i64 thg) (by rw [World.cell?_alloc_new]; rfl)
  have L4 := later_cell (w := w1.alloc (.cells #[.int .i64 kd, .int .i64 who, .int .i64 oth, .int .i64 thg, .int .i64 rts] 28)) (p := ⟨w1.heap.size, 4, none⟩) (v := .int .i64 rts) (by rw [World.cell?_alloc_new]; rfl)
  have hg1 := hg.below hx
  have hbx := hb1.trans hx
  clear hb1 hg h0 hbs F0
  have HA : ∀ z : Later (w1.alloc (.cells #[.int .i64 kd, .int .i64 who, .int .i64 oth, .int .i64 thg, .int .i64 rts] 28)), Calls Try.prog 14 #[.slice A1 n1 c1, .agg #[.int .i64 kd, .int .i64 who, .int .i64 oth, .int .i64 thg, .int .i64 rts]] z.out fun e w' => e = .returned (.bool (allowR g (kd, who, oth, thg, rts))) ∧ Ext z.out w' := fun z => MoveAllowed_any _ _ _ _ _ _ _ _ _ _ (hg1.below z.ext)
  have HS : ∀ z : Later (w1.alloc (.cells #[.int .i64 kd, .int .i64 who, .int .i64 oth, .int .i64 thg, .int .i64 rts] 28)), Calls Try.prog 11 #[.slice A1 n1 c1, .agg #[.int .i64 kd, .int .i64 who, .int .i64 oth, .int .i64 thg, .int .i64 rts]] z.out fun e w' => e = .returned (.bool (allowR g (kd, who, oth, thg, rts))) ∧ Ext z.out w' := fun z => specMoveAllowed_any _ _ _ _ _ _ _ _ _ _ (hg1.below z.ext)
  obtain ⟨t, ht⟩ : ∃ t, allowR g (kd, who, oth, thg, rts) = t := ⟨_, rfl⟩
  rw [ht] at HA HS
  have htt : (t != t) = false := by cases t <;> rfl
  clear ht
  go_upto_region 4 with fail
  (refine wp_region_later (by kernel_rfl) (by kernel_rfl) ?_; repeat (any_goals (first | (with_reducible refine wpQuiet_nil ?_; intro wq hq) | go_big_quiet_step (((first | (go_at_call 14; exact later_of _ (HA _)) | (go_at_call 11; exact later_of _ (HS _))))))))
  have hg3 := hg1.below hq
  have hb3 := hbx.trans hq
  clear HA HS L0 L1 L2 L3 L4 hg1 hbx hx hq
  rename_i w3
  go_wp2_with fail
  refine (specGraphValid_any _ _ _ _ _ hg3).mono ?_; rintro e w4 ⟨rfl, hb4⟩
  have hg4 := hg3.below hb4
  have hb := hb3.trans hb4
  have hgl := hg4.lenR
  clear hg3 hb3 hb4
  cases hv : gValid g with
  | false =>
    clear hg4 htt
    go_wp2_with ((go_at_call 17; refine (alive_any _).mono ?_; rintro e w9 ⟨rfl, hb9⟩))
    go_ret
    exact ⟨rfl, hb.trans hb9⟩
  | true =>
    obtain ⟨n2, m, hT, hnm, h6, hm10, _⟩ := tab_of_valid hv
    obtain rfl : n2 = n1 := by rw [← hT.len, hgl]
    have TT := Lib.hid hT
    clear hT hv htt hgl
    go_wp2
    go_loopw [5] (fun ii wr => ∃ i : Nat, i ≤ n2 ∧ ii = .int .i64 i ∧ Ext w4 wr) (fun ii _ => n2 - (intOf ii).toNat)
    case atStart => exact ⟨0, Nat.zero_le _, rfl, Below.refl _ _⟩
    case round =>
      obtain ⟨i, hi, rfl, hE⟩ := hrel
      rename World => wo
      by_cases hin : i < n2
      · go_wp2
        go_loopw [6] (fun kk wr => ∃ k : Nat, k ≤ n2 ∧ kk = .int .i64 k ∧ Ext w4 wr) (fun kk _ => n2 - (intOf kk).toNat)
        case atStart => exact ⟨0, Nat.zero_le _, rfl, hE⟩
        case round =>
          obtain ⟨k, hk, rfl, hEk⟩ := hrel
          rename World => wk
          by_cases hkn : k < n2
          · go_wp2
            go_loopw [7] (fun jj wr => ∃ j : Nat, j ≤ m ∧ jj = .int .i64 j ∧ Ext w4 wr) (fun jj _ => m - (intOf jj).toNat)
            case atStart => exact ⟨0, Nat.zero_le _, rfl, hEk⟩
            case round =>
              obtain ⟨j, hj, rfl, hE4⟩ := hrel
              rename World => wi
              have hgi := hg4.below hE4
              obtain ⟨b, off, b1, off1, cc1, rfl, g0, hm1, ht1, q0⟩ := hgi.atEl TT.out hin (show k < m by omega)
              by_cases hjm : j < m
              · obtain ⟨b', off', b2, off2, cc2, hA', x0, hm2, ht2, q1⟩ := hgi.atEl TT.out hkn hjm
                simp only [Option.some.injEq, Addr.mk.injEq, and_true] at hA'
                obtain ⟨rfl, rfl⟩ := hA'
                cases hd : bits .and .i64 (el g i k) 1 == 0 with
                | true =>
                  have hd0 : bits .and .i64 (el g i k) 1 = 0 := by simpa using hd
                  go_wp2
                  go_roundw
                  case rel => exact ⟨k + 1, by omega, by go_num, hE4⟩
                  case measure => simp [intOf]; omega
                | false =>
                  obtain ⟨r1, r2, hT2, hel, hrw⟩ := take_mv TT.out hnm h6 hm10 hin hkn hjm hd
                  have hd1 : ¬ bits .and .i64 (el g i k) 1 = 0 := by simpa using hd
                  obtain ⟨y, hy⟩ : ∃ y, el g k j = y := ⟨_, rfl⟩
                  rw [hy] at q1 r1 r2 hT2 hel hrw
                  have hx : Ext wi (wi.alloc (.cells #[.int .i64 1, .int .i64 i, .int .i64 k, .int .i64 j, .int .i64 y] 28)) := (Below.refl _ _).alloc (Nat.le_refl _) _
                  have hLi : Rd (wi.alloc (.cells #[.int .i64 1, .int .i64 i, .int .i64 k, .int .i64 j, .int .i64 y] 28)) 5 (some ⟨wi.heap.size, 0, none⟩) 1 1 (c5 [(1, (i : Int), (k : Int), (j : Int), y)]) := Rd.lit (sz := 5) (n := 1) #[.int .i64 1, .int .i64 i, .int .i64 k, .int .i64 j, .int .i64 y] rfl (by omega)
                  have hl2 := hT2.len
                  have RR := Lib.hid r1
                  have RC := Lib.hid r2
                  have T2 := Lib.hid hT2
                  have HEL := Lib.hid hel
                  have RW := Lib.hid hrw
                  have HL2 := Lib.hid hl2
                  have HD := Lib.hid hd
                  have hgx := hgi.below hx
                  clear r1 r2 hT2 hel hrw hl2 hd hy
                  go_wp2_with fail
                  refine (RunMoves_any _ _ _ _ _ _ _ _ _ hgx hLi).mono ?_; rintro e w7 ⟨A7, c7, rfl, o7, hb7⟩
                  rw [RR.out, HL2.out] at o7 ⊢
                  rw [RC.out]
                  have hb17 := hx.trans hb7
                  have hR7 := o7.rdR
                  obtain ⟨b3, off3, b4, off4, cc4, rfl, y0, hm4, ht4, q4⟩ := hR7.atEl T2.out hin hjm
                  rw [HEL.out] at q4
                  have g7 := later_cell (kept_of_below hb17 _ _ x0)
                  have q7 := later_cell (kept_of_below hb17 _ _ q1)
                  have y7 := later_cell y0
                  have p7 := later_cell q4
                  have HRW := fun w' => rw_later RW.out w'
                  clear o7 hR7 y0 q4 hgx hLi RR RC T2 HEL RW HL2 HD x0 q1 g0 q0 hgi hg4 TT
                  go_upto_region 18 with fail
                  (refine wp_region_later (by kernel_rfl) (by kernel_rfl) ?_; repeat (any_goals (first | (with_reducible refine wpQuiet_nil ?_; intro wq hq) | go_big_quiet_step (((go_at_call 25; exact later_of _ (HRW _)))))))
                  clear g7 q7 y7 p7 HRW
                  go_wp2
                  go_roundw
                  case rel => exact ⟨j + 1, by omega, by go_num, hE4.trans (hb17.trans hq)⟩
                  case measure => simp [intOf]; omega
              · go_wp2
                go_roundw
                case rel => exact ⟨k + 1, by omega, by go_num, hE4⟩
                case measure => simp [intOf]; omega
          · go_wp2
            go_roundw
            case rel => exact ⟨i + 1, by omega, by go_num, hEk⟩
            case measure => simp [intOf]; omega
      · clear hg4 TT
        go_wp2_with ((go_at_call 17; refine (alive_any _).mono ?_; rintro e w9 ⟨rfl, hb9⟩))
        go_ret
        exact ⟨rfl, hb.trans (hE.trans hb9)⟩
end Go.Proofs.Ytbljkahdhckegaa
