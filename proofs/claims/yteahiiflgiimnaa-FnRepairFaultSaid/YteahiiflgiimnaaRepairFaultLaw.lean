/-
  The law FnRepairFault returns true at every input, and leaves all that was there as it was: the walk.
-/
import Derived.Test.YteahiiflgiimnaaDrP
import Derived.Test.YteahiiflgiimnaaFaC
import Derived.Test.YteahiiflgiimnaaMpL
import Derived.Test.YteahiiflgiimnaaMpS
import Derived.Test.YteahiiflgiimnaaAlive
namespace Go.Proofs.Yteahiiflgiimnaa
open Go.RowKit

theorem repR_not {fk fa fn k o r b : Int} {ms zs : List Mp} (h : repR fk fa fn k o r b ms = (zs, false)) : zs = [] ∨ zs = ms := by
  unfold repR at h
  split at h
  · split at h
    · simp at h
    · exact .inr (by simpa using h.symm)
  · exact .inl (by simpa using h.symm)
theorem repR_fine {fk fa fn k o r b : Int} {ms zs : List Mp} (h : repR fk fa fn k o r b ms = (zs, true)) : foR zs fa fn = (0, 0, 0) ∧ withinB fn r = true ∧ spValid zs = true ∧ 0 ≤ trOf zs fa fn := by
  unfold repR at h
  split at h
  · rename_i hv
    split at h
    · rename_i hok
      have hz : (rMap fk fa fn o r ms).1 = zs := by simpa using h
      unfold repOk at hok
      simp only [Bool.and_eq_true, beq_iff_eq] at hok
      obtain ⟨⟨⟨⟨h1, h2⟩, h3⟩, h4⟩, h5⟩ := hok
      rw [hz] at h5
      unfold toldB at h1
      simp only [Bool.and_eq_true] at h1
      obtain ⟨⟨_, ha⟩, hn⟩ := h1
      have ha' := inB_iff.1 ha
      have hn' := inB_iff.1 hn
      subst h3
      obtain ⟨ho, hr, _⟩ := capB_iff6 h2
      have hbv := rBase_valid (fk := fk) (fa := fa) hv
      have hq := meet_range hn' hr
      obtain ⟨q, hqe⟩ : ∃ q, bits .and .i64 (bits .and .i64 fn r) 3 = q := ⟨_, rfl⟩
      have hzm : (mapL (fa / 256) o q (rBase fk fa ms)).1 = zs := by rw [← hqe]; exact hz
      have h4' : (mapL (fa / 256) o q (rBase fk fa ms)).2 = true := by rw [← hqe]; exact h4
      rw [hqe] at hq
      have hvz : spValid zs = true := by rw [← hzm]; exact mapL_valid hbv (by omega) ho hq
      refine ⟨foR_no (by rw [h5]; simp), ?_, hvz, (tr_fk hvz hn).2 h5⟩
      rcases mapL_cases (fa / 256) o q (rBase fk fa ms) with e | ⟨ht, _, _, e⟩
      · rw [e] at h4'; cases h4'
      · rw [e] at hzm
        obtain ⟨_, m, hl, hc⟩ := fk_zero.1 h5
        rw [← hzm] at hl
        have hl2 := look_insL (x := (fa / 256, o, q)) (fa / 256) (ms := rBase fk fa ms) ht
        rw [if_pos rfl] at hl2
        have hm : m = (fa / 256, o, q) := by
          have := hl.symm.trans hl2
          simpa using this
        rw [hm, show ((fa / 256, o, q) : Mp).2.2 = bits .and .i64 (bits .and .i64 fn r) 3 from hqe.symm, meet_cov hn' hn' hr] at hc
        simp only [Bool.and_eq_true] at hc
        unfold withinB
        rw [hn, inB_iff.2 hr, hc.1.1]; rfl
    · simp at h
  · simp at h

set_option maxHeartbeats 4000000 in
theorem FnRepairFault_walk (A : Option Addr) (n0 c : Nat) (code : List Int) (w : World) (h0 : Rd w 1 A n0 c (code.map (Value.int .u8))) (F0 : ∀ z ∈ code, (Lit.int .u8 z).wf = true) :
    Calls Try.prog 8 #[.slice A n0 c] w fun e w' => e = .returned (.bool true) ∧ Ext w w' := by
  obtain ⟨bs, hbs⟩ := bytes_of F0
  rw [hbs] at h0
  have hle := h0.le
  have htop := h0.top
  by_cases hn : 1048576 < n0
  · go_enter Try.func8, Try.ntmps8
    go_wp2
    go_ret
    exact ⟨rfl, Below.refl _ _⟩
  go_enter Try.func8, Try.ntmps8
  go_wp2_with fail
  refine (DrawRepairFault_any _ _ _ _ _ h0).mono ?_; rintro e w1 ⟨A1, n, c1, ms, f0, f1, f2, v0, v1, v2, v3, rfl, hg, h22, hb1⟩
  have FT : FtAt ((w1.alloc (.cells #[.int .i64 f0, .int .i64 f1, .int .i64 f2] 32)).alloc (.cells #[.int .i64 v0, .int .i64 v1, .int .i64 v2, .int .i64 v3] 34)) w1.heap.size f0 f1 f2 := (FtAt.new w1 32 f0 f1 f2).below ((Below.refl _ _).alloc (Nat.le_refl _) _)
  have CT : CapAt ((w1.alloc (.cells #[.int .i64 f0, .int .i64 f1, .int .i64 f2] 32)).alloc (.cells #[.int .i64 v0, .int .i64 v1, .int .i64 v2, .int .i64 v3] 34)) (w1.heap.size + 1) v0 v1 v2 v3 := by
    have := CapAt.new (w1.alloc (.cells #[.int .i64 f0, .int .i64 f1, .int .i64 f2] 32)) 34 v0 v1 v2 v3
    simpa using this
  have hv : Ext w1 ((w1.alloc (.cells #[.int .i64 f0, .int .i64 f1, .int .i64 f2] 32)).alloc (.cells #[.int .i64 v0, .int .i64 v1, .int .i64 v2, .int .i64 v3] 34)) := ((Below.refl _ _).alloc (Nat.le_refl _) _).alloc (by simp) _
  have hg2 := hg.below hv
  have hbb := hb1.trans hv
  obtain ⟨zs, ok, hz⟩ : ∃ zs ok, repR f0 f1 f2 v0 v1 v2 v3 ms = (zs, ok) := ⟨_, _, rfl⟩
  have HZ := Lib.hid hz
  obtain ⟨nz, hnz⟩ : ∃ nz, zs.length = nz := ⟨_, rfl⟩
  have NZ := Lib.hid hnz
  have FT0 := Lib.hid FT
  have CT0 := Lib.hid CT
  obtain ⟨q0, q1, q2⟩ := FT
  obtain ⟨r0, r1, r2, r3⟩ := CT
  clear hg hb1 hv h0 F0 hbs
  go_wp2_with fail
  refine (RepairFault_any _ _ _ _ f0 f1 f2 v0 v1 v2 v3 _ hg2).mono ?_; rintro e w3 ⟨A3, cc3, rfl, hF3, hb3⟩
  rw [HZ.out] at hF3 ⊢
  simp only at hF3 ⊢
  rw [NZ.out] at hF3 ⊢
  have FT3 := Lib.hid (FT0.out.below hb3)
  have CT3 := Lib.hid (CT0.out.below hb3)
  have hg3 := hg2.below hb3
  have hbb3 := hbb.trans hb3
  clear FT0 CT0 q0 q1 q2 r0 r1 r2 r3 hg2 hbb hb3
  obtain ⟨q0, q1, q2⟩ := FT3.out
  obtain ⟨r0, r1, r2, r3⟩ := CT3.out
  go_wp2_with fail
  refine (specRepairFault_any _ _ _ _ f0 f1 f2 v0 v1 v2 v3 _ hg3).mono ?_; rintro e w4 ⟨A4, cc4, rfl, hF4, hb4⟩
  rw [HZ.out] at hF4 ⊢
  simp only at hF4 ⊢
  rw [NZ.out] at hF4 ⊢
  have FT4 := Lib.hid (FT3.out.below hb4)
  have CT4 := Lib.hid (CT3.out.below hb4)
  have hg4 := hg3.below hb4
  have hR3 := (hF3.below hb4).rd'.2
  have hR4 := hF4.rd'.2
  have hbb4 := hbb3.trans hb4
  clear FT3 CT3 q0 q1 q2 r0 r1 r2 r3 hg3 hbb3 hb4 hF3 hF4
  go_wp2_with fail
  refine (sameSpace_any _ _ _ _ _ _ _ _ _ hR3 hR4).mono ?_; rintro e w5 ⟨rfl, hb5⟩; rw [(eqMs_iff _ _).2 rfl]
  have FT5 := Lib.hid (FT4.out.below hb5)
  have CT5 := Lib.hid (CT4.out.below hb5)
  have hg5 := hg4.below hb5
  have hR5 := hR3.below hb5
  have hbb5 := hbb4.trans hb5
  clear FT4 CT4 hg4 hbb4 hb5 hR3 hR4
  cases ok
  · have hnot := repR_not hz
    clear FT5 CT5
    by_cases h0 : nz = 0
    · subst h0
      clear hz hnz HZ hg5 hR5 hnot
      go_wp2_with ((go_at_call 25; refine (alive_any _).mono ?_; rintro e w9 ⟨rfl, hb9⟩))
      go_ret
      exact ⟨rfl, hbb5.trans hb9⟩
    · have hzm : zs = ms := by
        rcases hnot with e | e
        · rw [e] at hnz; exact absurd hnz.symm h0
        · exact e
      rw [← hzm] at hg5
      clear hz hnz HZ hnot hzm
      go_wp2_with fail
      refine (sameSpace_any _ _ _ _ _ _ _ _ _ hR5 hg5).mono ?_; rintro e w6 ⟨rfl, hb6⟩; rw [(eqMs_iff _ _).2 rfl]
      clear hg5 hR5
      go_wp2_with ((go_at_call 25; refine (alive_any _).mono ?_; rintro e w9 ⟨rfl, hb9⟩))
      go_ret
      exact ⟨rfl, (hbb5.trans hb6).trans hb9⟩
  · obtain ⟨e1, e2, e3, e4⟩ := repR_fine hz
    have E1 := Lib.hid e1
    have E2 := Lib.hid e2
    have E3 := Lib.hid e3
    obtain ⟨tr, htr⟩ : ∃ tr, trOf zs f1 f2 = tr := ⟨_, rfl⟩
    have TR := Lib.hid htr
    rw [htr] at e4
    clear hz hnz HZ e1 e2 e3 htr hg5
    obtain ⟨q0, q1, q2⟩ := FT5.out
    obtain ⟨r0, r1, r2, r3⟩ := CT5.out
    go_wp2_with fail
    refine (FaultOf_any _ _ _ _ _ _ _ hR5).mono ?_; rintro e w6 ⟨rfl, hb6⟩; rw [E1.out]
    simp only
    have FT6 := Lib.hid (FT5.out.below hb6)
    have CT6 := Lib.hid (CT5.out.below hb6)
    have hR6 := hR5.below hb6
    have hbb6 := hbb5.trans hb6
    clear FT5 CT5 q0 q1 q2 r0 r1 r2 r3 hR5 hbb5 hb6
    obtain ⟨q0, q1, q2⟩ := FT6.out
    obtain ⟨r0, r1, r2, r3⟩ := CT6.out
    go_wp2_with fail
    refine (RightsWithin_any _ _ _).mono ?_; rintro e w' ⟨rfl, rfl⟩; rw [E2.out]
    go_wp2_with fail
    refine (SpaceValid_any _ _ _ _ _ hR6).mono ?_; rintro e w7 ⟨rfl, hb7⟩; rw [E3.out]
    have FT7 := Lib.hid (FT6.out.below hb7)
    have hR7 := hR6.below hb7
    have hbb7 := hbb6.trans hb7
    clear FT6 CT6 q0 q1 q2 r0 r1 r2 r3 hR6 hbb6 hb7
    obtain ⟨q0, q1, q2⟩ := FT7.out
    go_wp2_with fail
    refine (Translate_any _ _ _ _ _ _ _ hR7).mono ?_; rintro e w8 ⟨rfl, hb8⟩; rw [TR.out]
    clear FT7 q0 q1 q2 hR7
    go_wp2
    go_ret
    exact ⟨rfl, hbb7.trans hb8⟩
end Go.Proofs.Yteahiiflgiimnaa
