/-
  The laws FnLendTime and FnTimeRing return true at every input, and leave all that was there as it was: the walks.
-/
import Derived.Test.YtbpkclhpjelelaaTiV
import Derived.Test.YtbpkclhpjelelaaTiB2
import Derived.Test.YtbpkclhpjelelaaUseTimeLaw
namespace Go.Proofs.Ytbpkclhpjelelaa
open Go.RowKit

set_option maxHeartbeats 2000000 in
theorem FnLendTime_walk (A : Option Addr) (n0 c : Nat) (code : List Int) (w : World) (h0 : Rd w 1 A n0 c (code.map (Value.int .u8))) (F0 : ∀ z ∈ code, (Lit.int .u8 z).wf = true) :
    Calls Try.prog 7 #[.slice A n0 c] w fun e w' => e = .returned (.bool true) ∧ Ext w w' := by
  obtain ⟨bs, hbs⟩ := bytes_of F0
  rw [hbs] at h0
  have hle := h0.le
  have htop := h0.top
  by_cases hn : 1048576 < n0
  · go_enter Try.func7, Try.ntmps7
    go_wp2
    go_ret
    exact ⟨rfl, Below.refl _ _⟩
  go_enter Try.func7, Try.ntmps7
  go_wp2_with fail
  refine (DrawLendTime_any _ _ _ _ _ h0).mono ?_; rintro e w1 ⟨A1, n, c1, zs, a, b, x, rfl, hg, hn1, h9, hx, hb1⟩
  go_wp2_with fail
  refine (LendTime_any _ _ _ _ a b x _ hg (by omega)).mono ?_; rintro e w2 ⟨A2, n2, c2, rfl, hF2, hb2⟩
  have hg2 := hg.below hb2
  go_wp2_with fail
  refine (specLendTime_any _ _ _ _ a b x _ hg2 (by omega)).mono ?_; rintro e w3 ⟨A3, n3, c3, rfl, hF3, hb3⟩
  have hR2 := hF2.rd'.2.below hb3
  have hR3 := hF3.rd'.2
  have hg3 := hg2.below hb3
  have hl2 := hR2.lenI
  have hbb := (hb1.trans hb2).trans hb3
  obtain ⟨t, ht⟩ : ∃ t, lendO zs a b x = t := ⟨_, rfl⟩
  rw [ht]
  go_wp2_with fail
  refine (sameInts_any _ _ _ _ _ _ _ _ _ hR2 hR3).mono ?_; rintro e w4 ⟨rfl, hb4⟩; rw [(eqIs_iff _ _).2 rfl]
  have hR4 := hR2.below hb4
  have hg4 := hg3.below hb4
  have hbc := hbb.trans hb4
  have htt : (t != t) = false := by cases t <;> rfl
  clear hF2 hF3 hR2 hR3 hg hg2 hg3 hb1 hb2 hb3 hb4 hbb h0 hbs F0
  cases t
  · by_cases hok : okT zs a b x = true
    · have hB : lendB zs a.toNat b.toNat x = false := by
        unfold lendO at ht; rw [hok, Bool.true_and] at ht; exact ht
      obtain ⟨eL, _⟩ := lend_stay hok hB
      rw [eL] at hR4 hl2
      have hl := hg4.lenI
      obtain rfl : n2 = n := by omega
      have hne : ((n2 : Int) == 0) = false := by rw [beq_eq_false_iff_ne]; omega
      clear eL hB hok ht hl hl2
      go_wp2_with fail
      refine (sameInts_any _ _ _ _ _ _ _ _ _ hR4 hg4).mono ?_; rintro e w5 ⟨rfl, hb5⟩; rw [(eqIs_iff _ _).2 rfl]
      clear hR4 hg4
      go_wp2_with ((go_at_call 12; refine (alive_any _).mono ?_; rintro e w9 ⟨rfl, hb9⟩))
      go_ret
      exact ⟨rfl, (hbc.trans hb5).trans hb9⟩
    · obtain ⟨eL, _⟩ := lend_no (zs := zs) (a := a) (b := b) (x := x) (by simpa using hok)
      rw [eL] at hl2
      obtain rfl : n2 = 0 := hl2.symm
      clear hR4 hg4 eL ht hok
      go_wp2_with ((go_at_call 12; refine (alive_any _).mono ?_; rintro e w9 ⟨rfl, hb9⟩))
      go_ret
      exact ⟨rfl, hbc.trans hb9⟩
  · obtain ⟨f1, f2, f3, f4, f5, f6, f7⟩ := lendL_back ht
    have hok : okT zs a b x = true := by unfold lendO at ht; rw [Bool.and_eq_true] at ht; exact ht.1
    obtain ⟨hv, ha, hb, hx0⟩ := okT_iff.1 hok
    have hB : lendB zs a.toNat b.toNat x = true := by unfold lendO at ht; rw [Bool.and_eq_true] at ht; exact ht.2
    have hl := hg4.lenI
    obtain ⟨i, rfl⟩ := Int.eq_ofNat_of_zero_le ha.1
    obtain ⟨j, rfl⟩ := Int.eq_ofNat_of_zero_le hb.1
    have hi : i < n := by omega
    have hj : j < n := by omega
    obtain rfl : n2 = n := by omega
    rw [Int.toNat_natCast] at f6 f7
    rw [Int.toNat_natCast, Int.toNat_natCast] at hB
    unfold lendB at hB
    simp only [Bool.and_eq_true, Bool.not_eq_true', decide_eq_false_iff_not, decide_eq_true_eq] at hB
    have va := (tValid_iff.1 hv).1 i (by omega)
    have vb := (tValid_iff.1 hv).1 j (by omega)
    have vs := tValid_sum hv
    have G1 := get_at0 (zs := zs) (i := i) (by omega)
    have G2 := get_at0 (zs := zs) (i := j) (by omega)
    have G3 := get_at0 (zs := lendL zs i j x) (i := i) (by omega)
    have G4 := get_at0 (zs := lendL zs i j x) (i := j) (by omega)
    rw [f6] at G3
    rw [f7] at G4
    obtain ⟨za, hza⟩ : ∃ z, at0 zs i = z := ⟨_, rfl⟩
    obtain ⟨zb, hzb⟩ : ∃ z, at0 zs j = z := ⟨_, rfl⟩
    rw [hza] at va hB G1 G3
    rw [hzb] at vb hB G2 G4
    obtain ⟨s, hs⟩ : ∃ s, zs.sum = s := ⟨_, rfl⟩
    rw [hs] at f3 vs
    have K1 := Lib.hid G1
    have K2 := Lib.hid G2
    have K3 := Lib.hid G3
    have K4 := Lib.hid G4
    have HF1 := Lib.hid f1
    have HF2 := Lib.hid f2
    have HF3 := Lib.hid f3
    have HF4 := Lib.hid f4
    have HS := Lib.hid hs
    have HV := Lib.hid hv
    have b1 := hB.1.2
    have b2 := hB.2
    clear f1 f2 f3 f4 f5 f6 f7 G1 G2 G3 G4 hza hzb hs hv hB hok ht hl hl2 ha hb
    go_wp2_with fail
    refine (LendTime_any _ _ _ _ (j : Int) (i : Int) x _ hR4 (by omega)).mono ?_; rintro e w5 ⟨A5, n5, c5, rfl, hF5, hb5⟩
    rw [HF2.out]
    rw [HF1.out] at hF5
    have hR5 := hR4.below hb5
    have hg5 := hg4.below hb5
    have hbd := hbc.trans hb5
    have hP5 := hF5.rd'.2
    obtain ⟨bz, oz, y1, hA, X1, g1⟩ := hg5.atI hi
    obtain ⟨bz', oz', y2, hA', X2, g2⟩ := hg5.atI hj
    rw [hA] at hA'
    simp only [Option.some.injEq, Addr.mk.injEq, and_true] at hA'
    obtain ⟨rfl, rfl⟩ := hA'
    subst hA
    obtain ⟨by_, oy, y3, hA, X3, g3⟩ := hR5.atI hi
    obtain ⟨by', oy', y4, hA', X4, g4⟩ := hR5.atI hj
    rw [hA] at hA'
    simp only [Option.some.injEq, Addr.mk.injEq, and_true] at hA'
    obtain ⟨rfl, rfl⟩ := hA'
    subst hA
    obtain rfl : y1 = za := by have := X1.out.symm.trans K1.out; simpa using this
    obtain rfl : y2 = zb := by have := X2.out.symm.trans K2.out; simpa using this
    obtain rfl : y3 = y1 - x := by have := X3.out.symm.trans K3.out; simpa using this
    obtain rfl : y4 = y2 + x := by have := X4.out.symm.trans K4.out; simpa using this
    have H1 := later_cell g1
    have H2 := later_cell g2
    have H3 := later_cell g3
    have H4 := later_cell g4
    have C1 : ∀ q : Later w5, Calls Try.prog 24 #[.slice (some ⟨by_, oy, none⟩) n2 c2] q.out fun e w' => e = .returned (.int .i64 s) ∧ q.out = w' := fun q => by
      have := total_any _ _ _ _ q.out (hR5.below q.ext) HF4.out
      rwa [HF3.out] at this
    have C2 : ∀ q : Later w5, Calls Try.prog 24 #[.slice (some ⟨bz, oz, none⟩) n2 c1] q.out fun e w' => e = .returned (.int .i64 s) ∧ q.out = w' := fun q => by
      have := total_any _ _ _ _ q.out (hg5.below q.ext) HV.out
      rwa [HS.out] at this
    have C3 : ∀ q : Later w5, Calls Try.prog 14 #[.slice A5 n5 c5, .slice (some ⟨bz, oz, none⟩) n2 c1] q.out fun e w' => e = .returned (.bool true) ∧ Ext q.out w' := fun q => by
      have := sameInts_any _ _ _ _ _ _ _ _ q.out (hP5.below q.ext) (hg5.below q.ext)
      rwa [(eqIs_iff _ _).2 rfl] at this
    have C4 : ∀ q : Later w5, Calls Try.prog 10 #[.slice (some ⟨by_, oy, none⟩) n2 c2] q.out fun e w' => e = .returned (.bool true) ∧ Ext q.out w' := fun q => by
      have := TimesValid_any _ _ _ _ q.out (hR5.below q.ext)
      rwa [HF4.out] at this
    clear X1 X2 X3 X4 K1 K2 K3 K4 hR4 hg4 hbc hb5 hF5 hP5 hR5 hg5 g1 g2 g3 g4 HF1 HF2 HF3 HF4 HS HV
    go_wp2
    (refine wp_region_later (by kernel_rfl) (by kernel_rfl) ?_; repeat (any_goals (first | (with_reducible refine wpQuiet_nil ?_; intro wq hq) | go_big_quiet_step ((first | (go_at_call 24; with_reducible exact later_same _ (C1 _)) | (go_at_call 24; with_reducible exact later_same _ (C2 _)) | (go_at_call 14; with_reducible exact later_of _ (C3 _)) | (go_at_call 10; with_reducible exact later_of _ (C4 _)))))))
    go_wp2
    go_ret
    exact ⟨rfl, hbd.trans hq⟩

set_option maxHeartbeats 2000000 in
theorem FnTimeRing_walk (A : Option Addr) (n0 c : Nat) (code : List Int) (B : Option Addr) (m0 d : Nat) (more : List Int) (w : World) (h0 : Rd w 1 A n0 c (code.map (Value.int .u8))) (F0 : ∀ z ∈ code, (Lit.int .u8 z).wf = true)
    (h1 : Rd w 1 B m0 d (more.map (Value.int .u8))) (_ : ∀ z ∈ more, (Lit.int .u8 z).wf = true) :
    Calls Try.prog 4 #[.slice A n0 c, .slice B m0 d] w fun e w' => e = .returned (.bool true) ∧ Ext w w' := by
  obtain ⟨bs, hbs⟩ := bytes_of F0
  rw [hbs] at h0
  have hle := h0.le
  have htop := h0.top
  have hle1 := h1.le
  have htop1 := h1.top
  clear h1
  by_cases hn : 1048576 < n0
  · go_enter Try.func4, Try.ntmps4
    go_wp2
    go_ret
    exact ⟨rfl, Below.refl _ _⟩
  by_cases hm : 1048576 < m0
  · go_enter Try.func4, Try.ntmps4
    go_wp2
    go_ret
    exact ⟨rfl, Below.refl _ _⟩
  go_enter Try.func4, Try.ntmps4
  go_wp2_with fail
  refine (DrawTimesValid_any' _ _ _ _ _ h0).mono ?_; rintro e w1 ⟨A1, n, c1, zs, rfl, hg, hn1, h9, hb1⟩
  obtain ⟨t, ht⟩ : ∃ t, tValid zs = t := ⟨_, rfl⟩
  have HT := Lib.hid ht
  clear h0
  go_wp2_with fail
  refine (TimesValid_any _ _ _ _ _ hg).mono ?_; rintro e w2 ⟨rfl, hb2⟩; rw [HT.out]
  have hg2 := hg.below hb2
  go_wp2_with fail
  refine (specTimesValid_any _ _ _ _ _ hg2).mono ?_; rintro e w3 ⟨rfl, rfl⟩; rw [HT.out]
  have htt : (t != t) = false := by cases t <;> rfl
  have hb := hb1.trans hb2
  go_wp2_with fail
  refine (specTimesValid_any _ _ _ _ _ hg2).mono ?_; rintro e w3 ⟨rfl, rfl⟩; rw [HT.out]
  have hl := hg2.lenI
  clear hb1 hb2 hg hbs F0 ht
  by_cases hno : t = false ∨ n < 2
  · cases t
    · clear hg2 hno
      go_wp2_with ((go_at_call 12; refine (alive_any _).mono ?_; rintro e w9 ⟨rfl, hb9⟩))
      go_ret
      exact ⟨rfl, hb.trans hb9⟩
    · have hn2 : n < 2 := by simpa using hno
      clear hg2 hno
      go_wp2_with ((go_at_call 12; refine (alive_any _).mono ?_; rintro e w9 ⟨rfl, hb9⟩))
      go_ret
      exact ⟨rfl, hb.trans hb9⟩
  obtain ⟨rfl, hn2⟩ : t = true ∧ 2 ≤ n := by
    cases t
    · simp at hno
    · simp at hno; exact ⟨rfl, by omega⟩
  obtain ⟨mm, hmm⟩ : ∃ k : Nat, ((m0 : Int)).tmod 9 = (k : Int) := ⟨m0 % 9, by rw [Int.tmod_eq_emod_of_nonneg (by omega)]; omega⟩
  have hm9 : mm < 9 := by have := Int.tmod_lt_of_pos (m0 : Int) (show (0 : Int) < 9 by omega); omega
  have HL := Lib.hid hl
  clear hno hl
  have z0 : ringT zs mm 0 = zs := by unfold ringT; rw [if_pos (.inl rfl)]
  have Z0 := Lib.hid z0
  clear z0
  go_wp2
  go_loopw [7, 8] (fun xx kk wr => ∃ (k : Nat) (Ax : Option Addr) (cx : Nat), k ≤ n ∧ kk = .int .i64 k ∧ xx = .slice Ax n cx ∧ Rd wr 1 Ax n cx (cI (ringT zs mm k)) ∧ Ext w2 wr) (fun _ kk _ => n - (intOf kk).toNat)
  case atStart => exact ⟨0, _, _, Nat.zero_le _, rfl, rfl, by rw [Z0.out]; exact hg2, Below.refl _ _⟩
  case round =>
    obtain ⟨k, Ax, cx, hk, rfl, rfl, hR, hE⟩ := hrel
    by_cases hlt : k < n
    · have hmod : ((k : Int) + 1).tmod (n : Int) = (((k + 1) % n : Nat) : Int) := by
        rw [Int.tmod_eq_emod_of_nonneg (by omega)]; simp
      obtain ⟨j, hj⟩ : ∃ j, (k + 1) % n = j := ⟨_, rfl⟩
      rw [hj] at hmod
      have hring := ring_lend (zs := zs) (m := mm) (k := k) (by rw [HL.out]; exact hlt) (by rw [HL.out]; exact hn2)
      rw [HL.out, hj] at hring
      have HR := Lib.hid hring
      clear hring
      obtain ⟨t, ht⟩ : ∃ t, lendO (ringT zs mm k) k j mm = t := ⟨_, rfl⟩
      have HT2 := Lib.hid ht
      clear ht hj
      go_wp2_with fail
      refine (LendTime_any _ _ _ _ (k : Int) (j : Int) (mm : Int) _ hR (by omega)).mono ?_; rintro e w5 ⟨A5, n5, c5, rfl, hF5, hb5⟩
      rw [HT2.out]
      have hE5 := hE.trans hb5
      clear hR hE hb5
      cases t
      · clear hF5
        go_wp2_with ((go_at_call 12; refine (alive_any _).mono ?_; rintro e w9 ⟨rfl, hb9⟩))
        go_ret
        exact ⟨rfl, hb.trans (hE5.trans hb9)⟩
      · rw [HR.out HT2.out] at hF5
        have hR5 := hF5.rd'.2
        obtain rfl : n5 = n := by rw [← hR5.lenI, ringT_len, HL.out]
        clear hF5 HT2 HR
        go_wp2
        go_roundw
        case rel => exact ⟨k + 1, A5, c5, by omega, by go_num, rfl, hR5, hE5⟩
        case measure => simp [intOf]; omega
    · have e : ringT zs mm k = zs := by unfold ringT; rw [if_pos (.inr (by rw [HL.out]; omega))]
      rw [e] at hR
      have hgr := hg2.below hE
      clear e hg2
      go_wp2_with fail
      refine (sameInts_any _ _ _ _ _ _ _ _ _ hR hgr).mono ?_; rintro e w5 ⟨rfl, hb5⟩; rw [(eqIs_iff _ _).2 rfl]
      clear hR hgr
      go_wp2
      go_ret
      exact ⟨rfl, hb.trans (hE.trans hb5)⟩
end Go.Proofs.Ytbpkclhpjelelaa
