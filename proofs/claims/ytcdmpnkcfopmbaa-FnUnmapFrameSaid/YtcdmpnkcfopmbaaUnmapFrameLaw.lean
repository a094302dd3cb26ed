/-
  The law FnUnmapFrame returns true at every input, and leaves all that was there as it was: the walk.
-/
import Derived.Test.YtcdmpnkcfopmbaaMpK
import Derived.Test.YtcdmpnkcfopmbaaMpS
import Derived.Test.YtcdmpnkcfopmbaaMpM
import Derived.Test.YtcdmpnkcfopmbaaMpF
import Derived.Test.YtcdmpnkcfopmbaaAlive
namespace Go.Proofs.Ytcdmpnkcfopmbaa
open Go.RowKit

set_option maxHeartbeats 2000000 in
theorem FnUnmapFrame_walk (A : Option Addr) (n0 c : Nat) (code : List Int) (w : World) (h0 : Rd w 1 A n0 c (code.map (Value.int .u8))) (F0 : ∀ z ∈ code, (Lit.int .u8 z).wf = true) :
    Calls Try.prog 10 #[.slice A n0 c] w fun e w' => e = .returned (.bool true) ∧ Ext w w' := by
  obtain ⟨bs, hbs⟩ := bytes_of F0
  rw [hbs] at h0
  have hle := h0.le
  have htop := h0.top
  by_cases hn : 1048576 < n0
  · go_enter Try.func10, Try.ntmps10
    go_wp2
    go_ret
    exact ⟨rfl, Below.refl _ _⟩
  go_enter Try.func10, Try.ntmps10
  go_wp2_with fail
  refine (DrawUnmapFrame_any _ _ _ _ _ h0).mono ?_; rintro e w1 ⟨A1, n, c1, ms, p, hp, rfl, hg, h22, hb1⟩
  obtain ⟨xs, hxs⟩ : ∃ xs, keptF (p : Int) ms = xs := ⟨_, rfl⟩
  have HXS := Lib.hid hxs
  obtain ⟨ps, hps⟩ : ∃ xs, goneF (p : Int) ms = xs := ⟨_, rfl⟩
  have HPS := Lib.hid hps
  obtain ⟨m, hm⟩ : ∃ m, xs.length = m := ⟨_, rfl⟩
  have HM := Lib.hid hm
  obtain ⟨l, hl⟩ : ∃ m, ps.length = m := ⟨_, rfl⟩
  have HL := Lib.hid hl
  have hm20 : m ≤ 20 := by rw [← hm, ← hxs]; exact keptF_len _ _
  have hl20 : l ≤ 20 := by rw [← hl, ← hps]; exact goneF_len _ _
  go_wp2_with fail
  refine (UnmapFrame_any _ _ _ _ _ _ hg).mono ?_; rintro e w2 ⟨A2, c2', B2, d2, rfl, hF2, hP2, hb2⟩
  rw [HXS.out, HM.out] at hF2
  rw [HPS.out, HL.out] at hP2
  rw [HXS.out, HM.out, HPS.out, HL.out]
  clear hxs hm hps hl
  have hg2 := hg.below hb2
  go_wp2_with fail
  refine (specUnmapFrame_any _ _ _ _ _ _ hg2).mono ?_; rintro e w3 ⟨A3, c3', B3, d3, rfl, hF3, hP3, hb3⟩
  rw [HXS.out, HM.out] at hF3
  rw [HPS.out, HL.out] at hP3
  rw [HXS.out, HM.out, HPS.out, HL.out]
  have hR2 := hF2.rd'.2.below hb3
  have hR3 := hF3.rd'.2
  have hQ2 := hP2.rd'.2.below hb3
  have hQ3 := hP3.rd'.2
  have hg3 := hg2.below hb3
  have hbb := (hb1.trans hb2).trans hb3
  go_wp2_with fail
  refine (sameSpace_any _ _ _ _ _ _ _ _ _ hR2 hR3).mono ?_; rintro e w4 ⟨rfl, hb4⟩; rw [(eqMs_iff _ _).2 rfl]
  have hR4 := hR2.below hb4
  have hg4 := hg3.below hb4
  have hQ4 := hQ2.below hb4
  have hQ5 := hQ3.below hb4
  have hbc := hbb.trans hb4
  clear hF2 hF3 hR2 hR3 hP2 hP3 hQ2 hQ3 hg hg2 hg3 hb1 hb2 hb3 hb4 hbb h0 hbs F0
  go_wp2_with fail
  refine (sameInts_any _ _ _ _ _ _ _ _ _ hQ4 hQ5).mono ?_; rintro e w4b ⟨rfl, hb4b⟩; rw [(eqIs_iff _ _).2 rfl]
  replace hR4 := hR4.below hb4b
  replace hg4 := hg4.below hb4b
  replace hQ4 := hQ4.below hb4b
  replace hbc := hbc.trans hb4b
  clear hQ5 hb4b
  obtain ⟨t1, ht1⟩ : ∃ b, spValid ms = b := ⟨_, rfl⟩
  have HT := Lib.hid ht1
  go_wp2_with fail
  refine (specSpaceValid_any _ _ _ _ _ hg4).mono ?_; rintro e w5 ⟨rfl, hb5⟩; rw [HT.out]
  have hR5 := hR4.below hb5
  have hg5 := hg4.below hb5
  have hQ5 := hQ4.below hb5
  have hbd := hbc.trans hb5
  clear hR4 hg4 hQ4 hbc hb5
  cases t1
  · have exs : xs = [] := by rw [← HXS.out]; unfold keptF; rw [ht1]; rfl
    have eps : ps = [] := by rw [← HPS.out]; unfold goneF; rw [ht1]; rfl
    subst exs eps
    obtain rfl : m = 0 := HM.out.symm
    obtain rfl : l = 0 := HL.out.symm
    clear hR5 hg5 hQ5 ht1
    go_wp2_with ((go_at_call 22; refine (alive_any _).mono ?_; rintro e w9 ⟨rfl, hb9⟩))
    go_ret
    exact ⟨rfl, hbd.trans hb9⟩
  · have k1 : ∀ x ∈ xs, x.2.1 ≠ (p : Int) := by rw [← HXS.out]; exact kept_mem
    have k2 : ∀ q ∈ ps, (0 ≤ q ∧ q ≤ 255) ∧ trOf ms (q * 256) 0 = (p : Int) * 256 ∧ trOf xs (q * 256) 0 = -1 := by
      rw [← HXS.out, ← HPS.out]
      intro q hq
      obtain ⟨g1, _, g3, g4⟩ := gone_at ht1 q hq
      exact ⟨g1, g3, g4⟩
    have k3 : spValid xs = true := by rw [← HXS.out]; exact kept_valid ht1
    have k4 : m + l = n := by
      have := kept_gone (f := (p : Int)) ht1
      rw [HXS.out, HPS.out, HM.out, HL.out] at this
      have := hg5.len3
      omega
    have K1 := Lib.hid k1
    have K2 := Lib.hid k2
    have K3 := Lib.hid k3
    clear k1 k2 k3 ht1
    have hmle := hR5.le
    have hmtop := hR5.top
    have hlle := hQ5.le
    have hltop := hQ5.top
    go_wp2
    go_loopw [9] (fun i wr => ∃ k : Nat, k ≤ m ∧ i = .int .i64 k ∧ Ext w5 wr) (fun i _ => m - (intOf i).toNat)
    case atStart => exact ⟨0, Nat.zero_le _, rfl, Below.refl _ _⟩
    case round =>
      obtain ⟨k, hk, rfl, hbr⟩ := hrel
      by_cases hlt : k < m
      · obtain ⟨b, off, x0, x1, x2, rfl, X, g0, g1, g2⟩ := (hR5.below hbr).at3 hlt
        have hne := K1.out _ (List.mem_of_getElem? X.out)
        simp only at hne
        clear hR5 hg5 hQ5 X
        go_wp2
        go_roundw
        case rel => exact ⟨k + 1, by omega, by go_num, hbr⟩
        case measure => simp [intOf]; omega
      · obtain rfl : k = m := by omega
        have hR6 := hR5.below hbr
        have hg6 := hg5.below hbr
        have hQ6 := hQ5.below hbr
        have hbe := hbd.trans hbr
        clear hR5 hg5 hQ5 hbd hbr hlt
        rename World => wb
        go_wp2
        go_loopw [10] (fun i wr => ∃ j : Nat, j ≤ l ∧ i = .int .i64 j ∧ Ext wb wr) (fun i _ => l - (intOf i).toNat)
        case atStart => exact ⟨0, Nat.zero_le _, rfl, Below.refl _ _⟩
        case round =>
          obtain ⟨j, hj, rfl, hbr⟩ := hrel
          by_cases hlt : j < l
          · obtain ⟨b, off, q, rfl, X, g0⟩ := (hQ6.below hbr).atI hlt
            obtain ⟨⟨q0, q1⟩, t1, t2⟩ := K2.out _ (List.mem_of_getElem? X.out)
            have T1 := Lib.hid t1
            have T2 := Lib.hid t2
            have hg7 := hg6.below hbr
            clear t1 t2 X hg6
            go_wp2_with fail
            refine (Translate_any _ _ _ _ _ _ _ hg7).mono ?_; rintro e w6 ⟨rfl, hb6⟩; rw [T1.out]
            have hR7 := (hR6.below hbr).below hb6
            have g0' := kept_of_below hb6 _ _ g0
            clear hg7 g0
            go_wp2_with fail
            refine (Translate_any _ _ _ _ _ _ _ hR7).mono ?_; rintro e w7 ⟨rfl, hb7⟩; rw [T2.out]
            clear hR7
            go_wp2
            go_roundw
            case rel => exact ⟨j + 1, by omega, by go_num, (hbr.trans hb6).trans hb7⟩
            case measure => simp [intOf]; omega
          · have hR7 := hR6.below hbr
            clear hR6 hg6 hQ6
            go_wp2_with fail
            refine (SpaceValid_any _ _ _ _ _ hR7).mono ?_; rintro e w7 ⟨rfl, hb7⟩; rw [K3.out]
            clear hR7
            go_wp2
            go_ret
            exact ⟨rfl, hbe.trans (hbr.trans hb7)⟩
end Go.Proofs.Ytcdmpnkcfopmbaa
