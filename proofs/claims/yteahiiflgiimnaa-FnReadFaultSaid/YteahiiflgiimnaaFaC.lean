/-
  A fault repaired: the program's RepairFault and the reference's.
-/
import Derived.Test.YteahiiflgiimnaaFaA
import Derived.Test.YteahiiflgiimnaaMpJ
import Derived.Test.YteahiiflgiimnaaMpH
import Derived.Test.YteahiiflgiimnaaMpF
import Derived.Test.YteahiiflgiimnaaBox
namespace Go.Proofs.Yteahiiflgiimnaa
open Go.RowKit

/-- Whether there are messages about a fault. -/
def toldB (k a n : Int) : Bool := inB k 1 2 && inB a 0 65535 && inB n 0 15
set_option maxHeartbeats 400000 in
theorem told_any (k a n : Int) (w : World) :
    Calls Try.prog 51 #[.agg #[.int .i64 k, .int .i64 a, .int .i64 n]] w fun e w' => e = .returned (.bool (toldB k a n)) ∧ Ext w w' := by
  go_enter Try.func51, Try.ntmps51
  go_wp2_with (first | ((go_at_call 72; refine (in_any _ _ _ _).mono ?_; rintro e w' ⟨rfl, rfl⟩)) | ((go_at_call 89; refine (isAddress_any _ _).mono ?_; rintro e w' ⟨rfl, rfl⟩)) | ((go_at_call 58; refine (RightsValid_any _ _).mono ?_; rintro e w' ⟨rfl, rfl⟩)))
  all_goals go_ret
  all_goals exact ⟨ret_bool (by simp_all [toldB]), (Below.refl _ _).alloc (Nat.le_refl _) _⟩
/-- The address space ahead of the mapping. -/
def rBase (fk fa : Int) (ms : List Mp) : List Mp := if fk = 2 then unmapL (fa / 256) ms else ms
def rMap (fk fa fn o r : Int) (ms : List Mp) : List Mp × Bool := mapL (fa / 256) o (bits .and .i64 (bits .and .i64 fn r) 3) (rBase fk fa ms)
def repOk (fk fa fn k o r b : Int) (ms : List Mp) : Bool := toldB fk fa fn && capB k o r b && k == 6 && (rMap fk fa fn o r ms).2 && fkOf (rMap fk fa fn o r ms).1 fa fn == 0
/-- What RepairFault hands back. -/
def repR (fk fa fn k o r b : Int) (ms : List Mp) : List Mp × Bool :=
  if spValid ms = true then (if repOk fk fa fn k o r b ms = true then ((rMap fk fa fn o r ms).1, true) else (ms, false)) else ([], false)
section
variable {fk fa fn k o r b q : Int} {ms base zs : List Mp}
theorem repR_bad (h : spValid ms = false) : repR fk fa fn k o r b ms = ([], false) := by unfold repR; rw [h]; rfl
theorem repR_no (hv : spValid ms = true) (h : repOk fk fa fn k o r b ms = false) : repR fk fa fn k o r b ms = (ms, false) := by unfold repR; rw [hv, h]; rfl
theorem repOk_no (hb : rBase fk fa ms = base) (hq : bits .and .i64 (bits .and .i64 fn r) 3 = q) (h : (mapL (fa / 256) o q base).2 = false) : repOk fk fa fn k o r b ms = false := by
  unfold repOk rMap; rw [hb, hq, h]; simp
theorem repOk_no2 (hb : rBase fk fa ms = base) (hq : bits .and .i64 (bits .and .i64 fn r) 3 = q) (h : fkOf (mapL (fa / 256) o q base).1 fa fn ≠ 0) : repOk fk fa fn k o r b ms = false := by
  unfold repOk rMap; rw [hb, hq]; simp [h]
theorem repR_yes (hv : spValid ms = true) (ht : toldB fk fa fn = true) (hc : capB k o r b = true) (hk : k = 6) (hb : rBase fk fa ms = base) (hq : bits .and .i64 (bits .and .i64 fn r) 3 = q) (hz : mapL (fa / 256) o q base = (zs, true)) (h : fkOf zs fa fn = 0) : repR fk fa fn k o r b ms = (zs, true) := by
  have e : rMap fk fa fn o r ms = (zs, true) := by unfold rMap; rw [hb, hq, hz]
  unfold repR repOk
  rw [hv, ht, hc, e, hk]
  simp [h]
theorem rBase_valid (hv : spValid ms = true) : spValid (rBase fk fa ms) = true := by
  unfold rBase; split
  · exact unmapL_valid hv
  · exact hv
theorem rBase_len (hv : spValid ms = true) : (rBase fk fa ms).length ≤ 20 := spValid_len (rBase_valid hv)
/-- The reference's way. -/
theorem repR_specN (hv : spValid ms = true) (hf : inB fk 1 2 = true) (ha : inB fa 0 65535 = true) (hb : rBase fk fa ms = base) (h : (mapR (fa / 256) k o r b fn base).2 = false) : repR fk fa fn k o r b ms = (ms, false) := by
  refine repR_no hv ?_
  rw [← Bool.not_eq_true]; intro hok
  unfold repOk at hok
  simp only [Bool.and_eq_true] at hok
  obtain ⟨⟨⟨⟨h1, h2⟩, h3⟩, h4⟩, _⟩ := hok
  unfold toldB at h1
  simp only [Bool.and_eq_true] at h1
  have ha' := inB_iff.1 ha
  have : mapR (fa / 256) k o r b fn base = rMap fk fa fn o r ms := by
    unfold mapR mapOk rMap
    rw [← hb, rBase_valid hv, h2, h3, h1.2, inB_iff.2 (show 0 ≤ fa / 256 ∧ fa / 256 ≤ 255 by omega)]
    rfl
  rw [this, h4] at h; cases h
theorem repR_specY (hv : spValid ms = true) (hf : inB fk 1 2 = true) (ha : inB fa 0 65535 = true) (hb : rBase fk fa ms = base) (hz : mapR (fa / 256) k o r b fn base = (zs, true)) (h : 0 ≤ trOf zs fa fn) : repR fk fa fn k o r b ms = (zs, true) := by
  obtain ⟨q, hq, rfl, hvb, hp, ho, hr, rfl, hu, hqq, ht, hl, e⟩ := mapR_ok (by rw [hz])
  rw [hz] at e
  have hzs : zs = insL (fa / 256, o, q) base := by simpa using e
  have hm : mapL (fa / 256) o q base = (zs, true) := by rw [hzs]; exact mapL_ins (by rw [ht]; simp; omega)
  have hvz : spValid zs = true := by rw [hzs]; exact ins_valid hvb hp ho hqq ht hl
  refine repR_yes hv ?_ ?_ rfl hb hq.symm hm ((tr_fk hvz (inB_iff.2 hu)).1 h)
  · unfold toldB; rw [hf, ha, inB_iff.2 hu]; rfl
  · unfold capB; simp [inB_iff.2 ho, inB_iff.2 hr]; decide
theorem repR_specT (hv : spValid ms = true) (hf : inB fk 1 2 = true) (ha : inB fa 0 65535 = true) (hb : rBase fk fa ms = base) (hz : mapR (fa / 256) k o r b fn base = (zs, true)) (h : ¬ 0 ≤ trOf zs fa fn) : repR fk fa fn k o r b ms = (ms, false) := by
  obtain ⟨q, hq, rfl, hvb, hp, ho, hr, rfl, hu, hqq, ht, hl, e⟩ := mapR_ok (by rw [hz])
  rw [hz] at e
  have hzs : zs = insL (fa / 256, o, q) base := by simpa using e
  have hm : mapL (fa / 256) o q base = (zs, true) := by rw [hzs]; exact mapL_ins (by rw [ht]; simp; omega)
  have hvz : spValid zs = true := by rw [hzs]; exact ins_valid hvb hp ho hqq ht hl
  refine repR_no hv (repOk_no2 hb hq.symm ?_)
  rw [hm]
  exact fun h2 => h ((tr_fk hvz (inB_iff.2 hu)).2 h2)
theorem repR_len (fk fa fn k o r b : Int) (ms : List Mp) : (repR fk fa fn k o r b ms).1.length ≤ 20 := by
  unfold repR
  split
  · rename_i hv
    split
    · exact mapL_len _ _ _ _ (rBase_len hv)
    · exact spValid_len hv
  · simp
end

set_option maxHeartbeats 4000000 in
set_option maxRecDepth 100000 in
theorem RepairFault_any (A : Option Addr) (n c : Nat) (ms : List Mp) (fk fa fn k o r b : Int) (w : World) (h : Rd w 3 A n c (c3 ms)) :
    Calls Try.prog 17 #[.slice A n c, .agg #[.int .i64 fk, .int .i64 fa, .int .i64 fn], .agg #[.int .i64 k, .int .i64 o, .int .i64 r, .int .i64 b]] w fun e w' => ∃ A' c', e = .returned (.tuple #[.slice A' (repR fk fa fn k o r b ms).1.length c', .bool (repR fk fa fn k o r b ms).2]) ∧
      Fr w' w.heap.size 76 3 (.slice A' (repR fk fa fn k o r b ms).1.length c') (repR fk fa fn k o r b ms).1.length (c3 (repR fk fa fn k o r b ms).1) ∧ Ext w w' := by
  have hb0 : Ext w ((w.alloc (.cells #[.int .i64 fk, .int .i64 fa, .int .i64 fn] 32)).alloc (.cells #[.int .i64 k, .int .i64 o, .int .i64 r, .int .i64 b] 34)) := ((Below.refl _ _).alloc (Nat.le_refl _) _).alloc (by simp) _
  have FV : FtAt ((w.alloc (.cells #[.int .i64 fk, .int .i64 fa, .int .i64 fn] 32)).alloc (.cells #[.int .i64 k, .int .i64 o, .int .i64 r, .int .i64 b] 34)) w.heap.size fk fa fn := (FtAt.new w 32 fk fa fn).below ((Below.refl _ _).alloc (Nat.le_refl _) _)
  have CV : CapAt ((w.alloc (.cells #[.int .i64 fk, .int .i64 fa, .int .i64 fn] 32)).alloc (.cells #[.int .i64 k, .int .i64 o, .int .i64 r, .int .i64 b] 34)) (w.heap.size + 1) k o r b := by
    have := CapAt.new (w.alloc (.cells #[.int .i64 fk, .int .i64 fa, .int .i64 fn] 32)) 34 k o r b
    simpa using this
  have hR := h.below hb0
  have HL := Lib.hid h.len3
  obtain ⟨t1, e1⟩ : ∃ t, spValid ms = t := ⟨_, rfl⟩
  obtain ⟨t2, e2⟩ : ∃ t, toldB fk fa fn = t := ⟨_, rfl⟩
  obtain ⟨t3, e3⟩ : ∃ t, capB k o r b = t := ⟨_, rfl⟩
  have V := Lib.hid e1
  have T := Lib.hid e2
  have CB := Lib.hid e3
  obtain ⟨q, hq⟩ : ∃ q, bits .and .i64 (bits .and .i64 fn r) 3 = q := ⟨_, rfl⟩
  have HQ := Lib.hid hq
  clear h
  obtain ⟨q0, q1, q2⟩ := id FV
  obtain ⟨p0, p1, p2, p3⟩ := id CV
  go_enter Try.func17, Try.ntmps17
  go_wp2_with fail
  refine (SpaceValid_any _ _ _ _ _ hR).mono ?_; rintro e w1 ⟨rfl, hb1⟩; rw [V.out]
  have hR1 := hR.below hb1
  have F1 := FV.below hb1
  have C1 := CV.below hb1
  have hba := hb0.trans hb1
  clear hR FV CV hb0 hb1 q0 q1 q2 p0 p1 p2 p3
  cases t1
  · have N : Hid (repR fk fa fn k o r b ms = ([], false)) := repR_bad e1
    clear hR1 F1 C1 e1 e2 e3
    go_wp2
    go_ret2
    rw [N.out]
    exact ⟨_, _, rfl, .inl ⟨_, rfl, rfl, rfl⟩, hba⟩
  have hn : n ≤ 20 := by have := spValid_len e1; have := HL.out; omega
  obtain ⟨q0, q1, q2⟩ := id F1
  go_wp2_with fail
  refine (told_any _ _ _ _).mono ?_; rintro e w2 ⟨rfl, hb2⟩; rw [T.out]
  have hR2 := hR1.below hb2
  have F2 := F1.below hb2
  have C2 := C1.below hb2
  have hbb2 := hba.trans hb2
  clear hR1 F1 C1 hba hb2 q0 q1 q2
  cases t2
  · have N : Hid (repR fk fa fn k o r b ms = (ms, false)) := repR_no e1 (by unfold repOk; rw [e2]; rfl)
    clear F2 C2 e1 e2 e3
    go_wp2_with fail
    refine (cloneMp_any _ _ _ _ _ hR2 (one_c3 _) (by omega)).mono ?_; rintro e wc ⟨Ac, cc, rfl, fc, hbc⟩
    go_wp2
    go_ret2
    rw [N.out, HL.out]
    exact ⟨_, _, rfl, fc.mono hbb2.size, hbb2.trans hbc⟩
  obtain ⟨p0, p1, p2, p3⟩ := id C2
  go_wp2_with fail
  refine (CapValid_any _ _ _ _ _).mono ?_; rintro e w3 ⟨rfl, hb3⟩; rw [CB.out]
  have hR3 := hR2.below hb3
  have F3 := F2.below hb3
  have C3 := C2.below hb3
  have hbb3 := hbb2.trans hb3
  clear hR2 F2 C2 hbb2 hb3 p0 p1 p2 p3
  cases t3
  · have N : Hid (repR fk fa fn k o r b ms = (ms, false)) := repR_no e1 (by unfold repOk; rw [e3]; simp)
    clear F3 C3 e1 e2 e3
    go_wp2_with fail
    refine (cloneMp_any _ _ _ _ _ hR3 (one_c3 _) (by omega)).mono ?_; rintro e wc ⟨Ac, cc, rfl, fc, hbc⟩
    go_wp2
    go_ret2
    rw [N.out, HL.out]
    exact ⟨_, _, rfl, fc.mono hbb3.size, hbb3.trans hbc⟩
  obtain ⟨q0, q1, q2⟩ := id F3
  obtain ⟨p0, p1, p2, p3⟩ := id C3
  by_cases hk : k = 6
  rotate_left
  · have hkb : (k != 6) = true := by simpa using hk
    have N : Hid (repR fk fa fn k o r b ms = (ms, false)) := repR_no e1 (by unfold repOk; simp [hk])
    clear F3 C3 e1 e2 e3
    go_wp2_with fail
    refine (cloneMp_any _ _ _ _ _ hR3 (one_c3 _) (by omega)).mono ?_; rintro e wc ⟨Ac, cc, rfl, fc, hbc⟩
    go_wp2
    go_ret2
    rw [N.out, HL.out]
    exact ⟨_, _, rfl, fc.mono hbb3.size, hbb3.trans hbc⟩
  have K6 := Lib.hid hk
  subst hk
  have hrr := (capB_iff6 e3).2.1
  have htold := e2
  unfold toldB at htold
  simp only [Bool.and_eq_true] at htold
  have huu := inB_iff.1 htold.2
  obtain ⟨hfa0, hfa1⟩ := inB_iff.1 htold.1.2
  obtain ⟨base, hbase⟩ : ∃ base, rBase fk fa ms = base := ⟨_, rfl⟩
  have BASE := Lib.hid hbase
  have hbl : base.length ≤ 20 := by rw [← hbase]; exact rBase_len e1
  clear htold e2 e3
  by_cases hf2 : fk = 2
  · have hbu : base = unmapL (fa / 256) ms := by rw [← hbase]; unfold rBase; rw [if_pos hf2]
    obtain ⟨no, hno⟩ : ∃ no, (unmapL (fa / 256) ms).length = no := ⟨_, rfl⟩
    have HNO := Lib.hid hno
    have hno20 : no ≤ 20 := by rw [← hno, ← hbu]; exact hbl
    have HBU := Lib.hid hbu
    subst hf2
    clear e1 hbase hbl hno hbu
    go_wp2_with fail
    refine (unmapped_any _ _ _ _ _ _ hR3 (by omega)).mono ?_; rintro e w4 ⟨Ao, co, rfl, fo, hb4⟩
    rw [HNO.out] at fo ⊢
    rw [← HBU.out] at fo
    have hRo := fo.rd'.2
    have hR4 := hR3.below hb4
    have F4 := F3.below hb4
    have C4 := C3.below hb4
    have hbb := hbb3.trans hb4
    clear fo hR3 F3 C3 hbb3 hb4 q0 q1 q2 p0 p1 p2 p3
    obtain ⟨q0, q1, q2⟩ := F4
    obtain ⟨p0, p1, p2, p3⟩ := C4
    go_wp2_with fail
    refine (mapped_any _ _ _ _ _ _ _ _ _ _ q _ hRo (by omega) hrr huu hq).mono ?_; rintro e w5 ⟨A5, c5, rfl, f5, hb5⟩
    have F5 := (⟨q0, q1, q2⟩ : FtAt _ _ _ _ _).below hb5
    have hR5 := hR4.below hb5
    have hbd := hbb.trans hb5
    obtain ⟨zs, zk, hz⟩ : ∃ zs zk, mapL (fa / 256) o q base = (zs, zk) := ⟨_, _, rfl⟩
    rw [hz] at f5 ⊢
    simp only at f5 ⊢
    obtain ⟨l, hl⟩ : ∃ l, zs.length = l := ⟨_, rfl⟩
    have HLZ := Lib.hid hl
    rw [hl] at f5 ⊢
    clear q0 q1 q2 p0 p1 p2 p3 hRo hR4 hb5 hl
    obtain ⟨q0, q1, q2⟩ := id F5
    cases zk
    · have N : Hid (repR 2 fa fn 6 o r b ms = (ms, false)) := repR_no V.out (repOk_no BASE.out HQ.out (by rw [hz]))
      clear f5 hz
      go_wp2_with fail
      refine (cloneMp_any _ _ _ _ _ hR5 (one_c3 _) (by omega)).mono ?_; rintro e wc ⟨Ac, cc, rfl, fc, hbc⟩
      go_wp2
      go_ret2
      rw [N.out, HL.out]
      exact ⟨_, _, rfl, fc.mono hbd.size, hbd.trans hbc⟩
    · obtain ⟨fz, hfz⟩ : ∃ fz, fkOf zs fa fn = fz := ⟨_, rfl⟩
      have HFZ := Lib.hid hfz
      go_wp2_with fail
      refine (faultKind_any _ _ _ _ _ _ _ f5.rd'.2).mono ?_; rintro e w6 ⟨rfl, hb6⟩; rw [HFZ.out]
      have f6 := f5.below hb6
      have hR6 := hR5.below hb6
      have hbe := hbd.trans hb6
      clear f5 hR5 hb6
      by_cases h0 : fz = 0
      · have N : Hid (repR 2 fa fn 6 o r b ms = (zs, true)) := repR_yes V.out T.out CB.out rfl BASE.out HQ.out hz (by rw [hfz]; exact h0)
        subst h0
        clear hR6 hz hfz
        go_wp2
        go_ret2
        rw [N.out, HLZ.out]
        exact ⟨_, _, rfl, f6.mono hbb.size, hbe⟩
      · have N : Hid (repR 2 fa fn 6 o r b ms = (ms, false)) := repR_no V.out (repOk_no2 BASE.out HQ.out (by rw [hz]; simp only; rw [hfz]; exact h0))
        have h0' : (fz != 0) = true := by simpa using h0
        clear f6 hz hfz
        go_wp2_with fail
        refine (cloneMp_any _ _ _ _ _ hR6 (one_c3 _) (by omega)).mono ?_; rintro e wc ⟨Ac, cc, rfl, fc, hbc⟩
        go_wp2
        go_ret2
        rw [N.out, HL.out]
        exact ⟨_, _, rfl, fc.mono hbe.size, hbe.trans hbc⟩
  · have hf2b : (fk == 2) = false := by simpa using hf2
    have hbu : base = ms := by rw [← hbase]; unfold rBase; rw [if_neg hf2]
    have hbu' := hbu.symm
    subst hbu'
    have hRo := hR3
    have hR4 := hR3
    have F4 := F3
    have C4 := C3
    have hbb := hbb3
    clear e1 hbase hbl hR3 F3 C3 hbb3 q0 q1 q2 p0 p1 p2 p3
    obtain ⟨q0, q1, q2⟩ := F4
    obtain ⟨p0, p1, p2, p3⟩ := C4
    go_wp2_with fail
    refine (mapped_any _ _ _ _ _ _ _ _ _ _ q _ hRo (by omega) hrr huu hq).mono ?_; rintro e w5 ⟨A5, c5, rfl, f5, hb5⟩
    have F5 := (⟨q0, q1, q2⟩ : FtAt _ _ _ _ _).below hb5
    have hR5 := hR4.below hb5
    have hbd := hbb.trans hb5
    obtain ⟨zs, zk, hz⟩ : ∃ zs zk, mapL (fa / 256) o q ms = (zs, zk) := ⟨_, _, rfl⟩
    rw [hz] at f5 ⊢
    simp only at f5 ⊢
    obtain ⟨l, hl⟩ : ∃ l, zs.length = l := ⟨_, rfl⟩
    have HLZ := Lib.hid hl
    rw [hl] at f5 ⊢
    clear q0 q1 q2 p0 p1 p2 p3 hRo hR4 hb5 hl
    obtain ⟨q0, q1, q2⟩ := id F5
    cases zk
    · have N : Hid (repR fk fa fn 6 o r b ms = (ms, false)) := repR_no V.out (repOk_no BASE.out HQ.out (by rw [hz]))
      clear f5 hz
      go_wp2_with fail
      refine (cloneMp_any _ _ _ _ _ hR5 (one_c3 _) (by omega)).mono ?_; rintro e wc ⟨Ac, cc, rfl, fc, hbc⟩
      go_wp2
      go_ret2
      rw [N.out, HL.out]
      exact ⟨_, _, rfl, fc.mono hbd.size, hbd.trans hbc⟩
    · obtain ⟨fz, hfz⟩ : ∃ fz, fkOf zs fa fn = fz := ⟨_, rfl⟩
      have HFZ := Lib.hid hfz
      go_wp2_with fail
      refine (faultKind_any _ _ _ _ _ _ _ f5.rd'.2).mono ?_; rintro e w6 ⟨rfl, hb6⟩; rw [HFZ.out]
      have f6 := f5.below hb6
      have hR6 := hR5.below hb6
      have hbe := hbd.trans hb6
      clear f5 hR5 hb6
      by_cases h0 : fz = 0
      · have N : Hid (repR fk fa fn 6 o r b ms = (zs, true)) := repR_yes V.out T.out CB.out rfl BASE.out HQ.out hz (by rw [hfz]; exact h0)
        subst h0
        clear hR6 hz hfz
        go_wp2
        go_ret2
        rw [N.out, HLZ.out]
        exact ⟨_, _, rfl, f6.mono hbb.size, hbe⟩
      · have N : Hid (repR fk fa fn 6 o r b ms = (ms, false)) := repR_no V.out (repOk_no2 BASE.out HQ.out (by rw [hz]; simp only; rw [hfz]; exact h0))
        have h0' : (fz != 0) = true := by simpa using h0
        clear f6 hz hfz
        go_wp2_with fail
        refine (cloneMp_any _ _ _ _ _ hR6 (one_c3 _) (by omega)).mono ?_; rintro e wc ⟨Ac, cc, rfl, fc, hbc⟩
        go_wp2
        go_ret2
        rw [N.out, HL.out]
        exact ⟨_, _, rfl, fc.mono hbe.size, hbe.trans hbc⟩

set_option maxHeartbeats 4000000 in
set_option maxRecDepth 100000 in
theorem specRepairFault_any (A : Option Addr) (n c : Nat) (ms : List Mp) (fk fa fn k o r b : Int) (w : World) (h : Rd w 3 A n c (c3 ms)) :
    Calls Try.prog 13 #[.slice A n c, .agg #[.int .i64 fk, .int .i64 fa, .int .i64 fn], .agg #[.int .i64 k, .int .i64 o, .int .i64 r, .int .i64 b]] w fun e w' => ∃ A' c', e = .returned (.tuple #[.slice A' (repR fk fa fn k o r b ms).1.length c', .bool (repR fk fa fn k o r b ms).2]) ∧
      Fr w' w.heap.size 76 3 (.slice A' (repR fk fa fn k o r b ms).1.length c') (repR fk fa fn k o r b ms).1.length (c3 (repR fk fa fn k o r b ms).1) ∧ Ext w w' := by
  have hb0 : Ext w ((w.alloc (.cells #[.int .i64 fk, .int .i64 fa, .int .i64 fn] 32)).alloc (.cells #[.int .i64 k, .int .i64 o, .int .i64 r, .int .i64 b] 34)) := ((Below.refl _ _).alloc (Nat.le_refl _) _).alloc (by simp) _
  have FV : FtAt ((w.alloc (.cells #[.int .i64 fk, .int .i64 fa, .int .i64 fn] 32)).alloc (.cells #[.int .i64 k, .int .i64 o, .int .i64 r, .int .i64 b] 34)) w.heap.size fk fa fn := (FtAt.new w 32 fk fa fn).below ((Below.refl _ _).alloc (Nat.le_refl _) _)
  have CV : CapAt ((w.alloc (.cells #[.int .i64 fk, .int .i64 fa, .int .i64 fn] 32)).alloc (.cells #[.int .i64 k, .int .i64 o, .int .i64 r, .int .i64 b] 34)) (w.heap.size + 1) k o r b := by
    have := CapAt.new (w.alloc (.cells #[.int .i64 fk, .int .i64 fa, .int .i64 fn] 32)) 34 k o r b
    simpa using this
  have hR := h.below hb0
  have HL := Lib.hid h.len3
  obtain ⟨i1, ki, kz0, kz1, kz2⟩ := info_parts Try.infoMp
  obtain ⟨t1, e1⟩ : ∃ t, spValid ms = t := ⟨_, rfl⟩
  have V := Lib.hid e1
  clear h
  go_enter Try.func13, Try.ntmps13
  go_wp2_with fail
  refine (specSpaceValid_any _ _ _ _ _ hR).mono ?_; rintro e w1 ⟨rfl, hb1⟩; rw [V.out]
  have hR1 := hR.below hb1
  have F1 := FV.below hb1
  have C1 := CV.below hb1
  have hba := hb0.trans hb1
  clear hR FV CV hb0 hb1
  cases t1
  · have N : Hid (repR fk fa fn k o r b ms = ([], false)) := repR_bad e1
    clear hR1 F1 C1 e1
    go_wp2
    go_ret2
    rw [N.out]
    exact ⟨_, _, rfl, .inr (Row.lit (w := w1) (n := 0) #[] (by simp) (by unfold maxLen; omega) hba.size), hba.alloc hba.size _⟩
  have hn : n ≤ 20 := by have := spValid_len e1; have := HL.out; omega
  have hy : Ext w1 (w1.alloc (.cells #[] 76)) := (Below.refl _ _).alloc (Nat.le_refl _) _
  have hF0 : Fr (w1.alloc (.cells #[] 76)) w1.heap.size 76 3 (.slice (some ⟨w1.heap.size, 0, none⟩) 0 0) 0 (c3 []) := .inr (Row.lit (n := 0) #[] (by simp) (by unfold maxLen; omega) (Nat.le_refl _))
  have hRy := hR1.below hy
  have hbz := hy.size
  have hba1 := hba.size
  go_upto_region 4 with (at_builtin; refine wpList_append_fr _ rfl _ _ 28 rfl w1.heap.size 76 i1 _ 3 24 Try.underlying28 ki kz0 kz1 kz2 rfl (by omega) _ 0 _ rfl hF0 _ n c _ rfl hRy (one_c3 _) (by unfold maxLen; omega) (by omega) hbz ?_; intro A7 c7 w3 row hF7 hg7 hrow7)
  rw [Nat.zero_add, c3_nil, List.nil_append] at hF7
  have hE7 : Ext w1 w3 := ext_grown hy hg7 (fun k hk => (hrow7 k hk).1)
  have hR3 := hR1.below hE7
  have F3 := F1.below hE7
  have C3 := C1.below hE7
  have hbb3 := hba.trans hE7
  have hF7' : Fr w3 w1.heap.size 76 3 (.slice A7 n c7) n (c3 ms) := by
    have := hF7
    simpa using this
  clear hF7 hg7 hrow7 hy hF0 hRy hbz hR1 F1 C1 hba hE7
  obtain ⟨q0, q1, q2⟩ := id F3
  obtain ⟨p0, p1, p2, p3⟩ := id C3
  by_cases hfk : fk = 1 ∨ fk = 2
  rotate_left
  · have h1b : (fk != 1) = true := by rw [bne_iff_ne]; omega
    have h2b : (fk != 2) = true := by rw [bne_iff_ne]; omega
    have N : Hid (repR fk fa fn k o r b ms = (ms, false)) := repR_no e1 (by unfold repOk toldB; rw [inB_not.2 (show fk < 1 ∨ 2 < fk by omega)]; rfl)
    clear hR3 F3 C3 e1
    go_wp2
    go_ret2
    rw [N.out, HL.out]
    exact ⟨_, _, rfl, hF7'.mono (by omega), hbb3⟩
  have efk : inB fk 1 2 = true := inB_iff.2 (by omega)
  have FK := Lib.hid efk
  obtain ⟨t2, e2⟩ : ∃ t, inB fa 0 65535 = t := ⟨_, rfl⟩
  have FA := Lib.hid e2
  obtain ⟨base, hbase⟩ : ∃ base, rBase fk fa ms = base := ⟨_, rfl⟩
  have BASE := Lib.hid hbase
  have hunm : unmapR (fa / 256) ms = unmapL (fa / 256) ms := by unfold unmapR; rw [e1]; rfl
  have HU := Lib.hid hunm
  clear efk hunm
  cases t2
  · have N : Hid (repR fk fa fn k o r b ms = (ms, false)) := repR_no e1 (by unfold repOk toldB; rw [e2]; simp)
    clear hR3 F3 C3 e1 e2 hbase
    rcases hfk with hfk | hfk
    all_goals
      subst hfk
      go_wp2_with ((go_at_call 46; refine (l1In_any _ _ _ _).mono ?_; rintro e w' ⟨rfl, rfl⟩); rw [FA.out])
      go_ret2
      rw [N.out, HL.out]
      exact ⟨_, _, rfl, hF7'.mono (by omega), hbb3⟩
  · obtain ⟨hfa0, hfa1⟩ := inB_iff.1 e2
    rcases hfk with hfk | hfk
    · subst hfk
      have hbu : base = ms := by rw [← hbase]; unfold rBase; rw [if_neg (by omega)]
      have hbu' := hbu.symm
      subst hbu'
      have hRo := hR3
      have F4 := F3
      have C4 := C3
      have hbb := hbb3
      have fs := hF7'
      clear e1 e2 hbase hR3 F3 C3 hbb3 hF7'
      go_wp2_with fail
      refine (l1In_any _ _ _ _).mono ?_; rintro e w' ⟨rfl, rfl⟩; rw [FA.out]
      clear q0 q1 q2 p0 p1 p2 p3
      obtain ⟨q0, q1, q2⟩ := F4
      obtain ⟨p0, p1, p2, p3⟩ := C4
      go_wp2_with fail
      refine (specMapPage_any _ _ _ _ _ _ _ _ _ _ _ hRo).mono ?_; rintro e w5 ⟨A5, c5, rfl, f5, hb5⟩
      have F5 := (⟨q0, q1, q2⟩ : FtAt _ _ _ _ _).below hb5
      have fs5 := fs.below hb5
      have hbd := hbb.trans hb5
      obtain ⟨zs, zk, hz⟩ : ∃ zs zk, mapR (fa / 256) k o r b fn ms = (zs, zk) := ⟨_, _, rfl⟩
      rw [hz] at f5 ⊢
      simp only at f5 ⊢
      obtain ⟨l, hl⟩ : ∃ l, zs.length = l := ⟨_, rfl⟩
      have HLZ := Lib.hid hl
      rw [hl] at f5 ⊢
      clear q0 q1 q2 p0 p1 p2 p3 hRo fs hb5 hl
      obtain ⟨q0, q1, q2⟩ := id F5
      cases zk
      · have N : Hid (repR 1 fa fn k o r b ms = (ms, false)) := repR_specN V.out FK.out FA.out BASE.out (by rw [hz])
        clear f5 hz
        go_wp2
        go_ret2
        rw [N.out, HL.out]
        exact ⟨_, _, rfl, fs5.mono (by omega), hbd⟩
      · obtain ⟨tz, htz⟩ : ∃ tz, trOf zs fa fn = tz := ⟨_, rfl⟩
        have HTZ := Lib.hid htz
        go_wp2_with fail
        refine (specTranslate_any _ _ _ _ _ _ _ f5.rd'.2).mono ?_; rintro e w6 ⟨rfl, hb6⟩; rw [HTZ.out]
        have f6 := f5.below hb6
        have fs6 := fs5.below hb6
        have hbe := hbd.trans hb6
        clear f5 fs5 hb6
        by_cases h0 : 0 ≤ tz
        · have N : Hid (repR 1 fa fn k o r b ms = (zs, true)) := repR_specY V.out FK.out FA.out BASE.out hz (by rw [htz]; exact h0)
          clear fs6 hz htz
          go_wp2
          go_ret2
          rw [N.out, HLZ.out]
          exact ⟨_, _, rfl, f6.mono hbb.size, hbe⟩
        · have N : Hid (repR 1 fa fn k o r b ms = (ms, false)) := repR_specT V.out FK.out FA.out BASE.out hz (by rw [htz]; exact h0)
          clear f6 hz htz
          go_wp2
          go_ret2
          rw [N.out, HL.out]
          exact ⟨_, _, rfl, fs6.mono (by omega), hbe⟩
    · subst hfk
      have hbu : base = unmapL (fa / 256) ms := by rw [← hbase]; unfold rBase; rw [if_pos rfl]
      have HBU := Lib.hid hbu
      obtain ⟨no, hno⟩ : ∃ no, (unmapL (fa / 256) ms).length = no := ⟨_, rfl⟩
      have HNO := Lib.hid hno
      clear e1 e2 hbase hno hbu
      go_wp2_with fail
      refine (l1In_any _ _ _ _).mono ?_; rintro e w' ⟨rfl, rfl⟩; rw [FA.out]
      go_wp2_with fail
      refine (specUnmapPage_any _ _ _ _ _ _ hR3).mono ?_; rintro e w4 ⟨Ao, co, rfl, fo, hb4⟩
      rw [HU.out, HNO.out] at fo
      rw [HU.out, HNO.out]
      rw [← HBU.out] at fo
      have hRo := fo.rd'.2
      have F4 := F3.below hb4
      have C4 := C3.below hb4
      have hbb := hbb3.trans hb4
      have fs := hF7'.below hb4
      clear fo hR3 F3 C3 hbb3 hb4 hF7' q0 q1 q2 p0 p1 p2 p3
      obtain ⟨q0, q1, q2⟩ := F4
      obtain ⟨p0, p1, p2, p3⟩ := C4
      go_wp2_with fail
      refine (specMapPage_any _ _ _ _ _ _ _ _ _ _ _ hRo).mono ?_; rintro e w5 ⟨A5, c5, rfl, f5, hb5⟩
      have F5 := (⟨q0, q1, q2⟩ : FtAt _ _ _ _ _).below hb5
      have fs5 := fs.below hb5
      have hbd := hbb.trans hb5
      obtain ⟨zs, zk, hz⟩ : ∃ zs zk, mapR (fa / 256) k o r b fn base = (zs, zk) := ⟨_, _, rfl⟩
      rw [hz] at f5 ⊢
      simp only at f5 ⊢
      obtain ⟨l, hl⟩ : ∃ l, zs.length = l := ⟨_, rfl⟩
      have HLZ := Lib.hid hl
      rw [hl] at f5 ⊢
      clear q0 q1 q2 p0 p1 p2 p3 hRo fs hb5 hl
      obtain ⟨q0, q1, q2⟩ := id F5
      cases zk
      · have N : Hid (repR 2 fa fn k o r b ms = (ms, false)) := repR_specN V.out FK.out FA.out BASE.out (by rw [hz])
        clear f5 hz
        go_wp2
        go_ret2
        rw [N.out, HL.out]
        exact ⟨_, _, rfl, fs5.mono (by omega), hbd⟩
      · obtain ⟨tz, htz⟩ : ∃ tz, trOf zs fa fn = tz := ⟨_, rfl⟩
        have HTZ := Lib.hid htz
        go_wp2_with fail
        refine (specTranslate_any _ _ _ _ _ _ _ f5.rd'.2).mono ?_; rintro e w6 ⟨rfl, hb6⟩; rw [HTZ.out]
        have f6 := f5.below hb6
        have fs6 := fs5.below hb6
        have hbe := hbd.trans hb6
        clear f5 fs5 hb6
        by_cases h0 : 0 ≤ tz
        · have N : Hid (repR 2 fa fn k o r b ms = (zs, true)) := repR_specY V.out FK.out FA.out BASE.out hz (by rw [htz]; exact h0)
          clear fs6 hz htz
          go_wp2
          go_ret2
          rw [N.out, HLZ.out]
          exact ⟨_, _, rfl, f6.mono hbb.size, hbe⟩
        · have N : Hid (repR 2 fa fn k o r b ms = (ms, false)) := repR_specT V.out FK.out FA.out BASE.out hz (by rw [htz]; exact h0)
          clear f6 hz htz
          go_wp2
          go_ret2
          rw [N.out, HL.out]
          exact ⟨_, _, rfl, fs6.mono (by omega), hbe⟩
end Go.Proofs.Yteahiiflgiimnaa
