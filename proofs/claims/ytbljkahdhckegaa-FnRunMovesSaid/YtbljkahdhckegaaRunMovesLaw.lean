/-
  The law FnRunMoves returns true at every input, and leaves all that was there as it was: the walk.
-/
import Derived.Test.YtbljkahdhckegaaDrN
import Derived.Test.YtbljkahdhckegaaDrX
import Derived.Test.YtbljkahdhckegaaAlive
import Derived.Test.YtbljkahdhckegaaMvL
import Derived.Test.YtbljkahdhckegaaMvF
namespace Go.Proofs.Ytbljkahdhckegaa
open Go.RowKit

theorem valid_run {g : List (List Int)} (hv : gValid g = true) (l : List Mv) : gValid (runG g l) = true := by
  obtain ⟨n, m, ht, hnm, h6, hm, _⟩ := tab_of_valid hv
  exact valid_of_tab (runG_tab ht l) hnm h6 hm
theorem runG_len {g : List (List Int)} (hv : gValid g = true) (l : List Mv) : (runG g l).length = g.length := by
  obtain ⟨n, m, ht, hnm, h6, hm, _⟩ := tab_of_valid hv
  rw [ht.len, (runG_tab ht l).len]
theorem runR_ok {g : List (List Int)} {l : List Mv} (hv : gValid g = true) (hl : l.length ≤ 40) : runR g l = runG g l ∧ runC g l = (runN g l : Nat) := by
  have : runOk g l = true := by unfold runOk; rw [hv, decide_eq_true hl]; rfl
  unfold runR runC
  rw [this]
  exact ⟨rfl, rfl⟩
theorem Rd.takeS {w : World} {sz n c k : Nat} {A : Option Addr} {xs : List Value} (h : Rd w sz A n c xs) (hk : k ≤ n) : Rd w sz A k c (xs.take (k * sz)) := by
  have := Nat.mul_le_mul_right sz hk
  refine ⟨by rw [List.length_take, h.len]; omega, Nat.le_trans hk h.le, h.top, fun hp => ?_⟩
  obtain ⟨b, off, e, hc⟩ := h.cells (by omega)
  refine ⟨b, off, e, fun j u hu => hc j u ?_⟩
  rw [List.getElem?_take] at hu
  split at hu
  · exact hu
  · cases hu
theorem Rd.dropS {w : World} {sz n c k b off : Nat} {xs : List Value} (h : Rd w sz (some ⟨b, off, none⟩) n c xs) (hk : k ≤ n) : Rd w sz (some ⟨b, off + k * sz, none⟩) (n - k) (c - k) (xs.drop (k * sz)) := by
  have hm : (n - k) * sz = n * sz - k * sz := Nat.sub_mul ..
  refine ⟨by rw [List.length_drop, h.len, hm], by have := h.le; omega, by have := h.top; omega, fun hp => ?_⟩
  obtain ⟨b', off', e, hc⟩ := h.cells (by omega)
  simp only [Option.some.injEq, Addr.mk.injEq, and_true] at e
  obtain ⟨rfl, rfl⟩ := e
  refine ⟨_, _, rfl, fun j u hu => ?_⟩
  rw [List.getElem?_drop] at hu
  have := hc (k * sz + j) u hu
  rwa [← Nat.add_assoc] at this
set_option maxHeartbeats 2000000 in
theorem FnRunMoves_walk (A : Option Addr) (n0 c0 : Nat) (code : List Int) (w : World) (h0 : Rd w 1 A n0 c0 (code.map (Value.int .u8))) (F0 : ∀ z ∈ code, (Lit.int .u8 z).wf = true) :
    Calls Try.prog 9 #[.slice A n0 c0] w fun e w' => e = .returned (.bool true) ∧ Ext w w' := by
  obtain ⟨bs, hbs⟩ := bytes_of F0
  rw [hbs] at h0
  have hle := h0.le
  have htop := h0.top
  by_cases hn : 1048576 < n0
  · go_enter Try.func9, Try.ntmps9
    go_wp2
    go_ret
    exact ⟨rfl, Below.refl _ _⟩
  go_enter Try.func9, Try.ntmps9
  go_wp2_with fail
  refine (DrawRunMoves_any _ _ _ _ _ h0).mono ?_; rintro e w1 ⟨A1, n1, c1, g, A2, n2, c2, l, rfl, hg, hl, hnil, hn1, hn8, hb1⟩
  clear h0 hbs F0
  go_wp2_with fail
  refine (RunMoves_any _ _ _ _ _ _ _ _ _ hg hl).mono ?_; rintro e w2 ⟨A3, c3, rfl, o3, hb2⟩
  go_wp2_with fail
  refine (specRunMoves_any _ _ _ _ _ _ _ _ _ (hg.below hb2) (hl.below hb2)).mono ?_; rintro e w3 ⟨A4, c4, rfl, o4, hb3⟩
  go_wp2_with fail
  refine (sameRows_any _ _ _ _ _ _ _ _ _ (o3.rdR.below hb3) o4.rdR).mono ?_; rintro e w4 ⟨rfl, hb4⟩; rw [(eqRs_iff _ _).2 rfl]
  have hg4 := hg.below (hb2.trans (hb3.trans hb4))
  have hl4 := hl.below (hb2.trans (hb3.trans hb4))
  have hx4 := o3.rdR.below (hb3.trans hb4)
  have hb := hb1.trans (hb2.trans (hb3.trans hb4))
  clear hb1 hb2 hb3 hb4 o3 o4 hg hl
  have hll := hl4.len5
  have hgl := hg4.lenR
  cases hok : runOk g l with
  | false =>
    have e1 : (runR g l).length = 0 := by unfold runR; rw [hok]; rfl
    have e2 : runC g l = 0 := by unfold runC; rw [hok]; rfl
    clear hx4 hg4 hl4
    go_wp2_with ((go_at_call 17; refine (alive_any _).mono ?_; rintro e w9 ⟨rfl, hb9⟩))
    go_ret
    exact ⟨rfl, hb.trans hb9⟩
  | true =>
    unfold runOk at hok
    rw [Bool.and_eq_true, decide_eq_true_eq] at hok
    obtain ⟨hv, h40⟩ := hok
    obtain ⟨r1, r2⟩ := runR_ok hv h40
    have hlen : (runG g l).length = n1 := by rw [runG_len hv, hgl]
    have hWI := run_within hv l
    have hle := runN_le g l
    obtain ⟨N, hN⟩ : ∃ N, runN g l = N := ⟨_, rfl⟩
    rw [r1] at hx4
    rw [r1, r2, hlen, hN]
    rw [hlen] at hx4
    rw [hN, hll] at hle
    have h1 : (runR g (l.take (n2 / 2))) = runG g (l.take (n2 / 2)) ∧ runC g (l.take (n2 / 2)) = (runN g (l.take (n2 / 2)) : Nat) := runR_ok hv (by rw [List.length_take]; omega)
    have h2 : runR (runG g (l.take (n2 / 2))) (l.drop (n2 / 2)) = runG (runG g (l.take (n2 / 2))) (l.drop (n2 / 2)) ∧ runC (runG g (l.take (n2 / 2))) (l.drop (n2 / 2)) = (runN (runG g (l.take (n2 / 2))) (l.drop (n2 / 2)) : Nat) := runR_ok (valid_run hv _) (by rw [List.length_drop]; omega)
    have hap : runG (runG g (l.take (n2 / 2))) (l.drop (n2 / 2)) = runG g l := by rw [← runG_append, List.take_append_drop]
    have hcn : runN g (l.take (n2 / 2)) + runN (runG g (l.take (n2 / 2))) (l.drop (n2 / 2)) = N := by rw [← runN_append, List.take_append_drop, hN]
    have hlm : (runG g (l.take (n2 / 2))).length = n1 := by rw [runG_len hv, hgl]
    rw [hap] at h2
    obtain ⟨N1, hN1⟩ : ∃ N1, runN g (l.take (n2 / 2)) = N1 := ⟨_, rfl⟩
    obtain ⟨N2, hN2⟩ : ∃ N2, runN (runG g (l.take (n2 / 2))) (l.drop (n2 / 2)) = N2 := ⟨_, rfl⟩
    rw [hN1, hN2] at hcn
    rw [hN1] at h1
    rw [hN2] at h2
    have hcn' : (N1 : Int) + N2 = N := by omega
    have hle2 := hl4.le
    have htop2 := hl4.top
    have hT : Rd w4 5 A2 (n2 / 2) c2 (c5 (l.take (n2 / 2))) := by rw [c5_take]; exact hl4.takeS (by omega)
    have H1 := Lib.hid h1.1
    have K1 := Lib.hid h1.2
    have H2 := Lib.hid h2.1
    have K2 := Lib.hid h2.2
    have HLM := Lib.hid hlm
    have HLN := Lib.hid hlen
    have WI := Lib.hid hWI
    clear h1 h2 hlm hlen hWI hap r1 r2 hN hN1 hN2 hcn
    rcases Nat.eq_zero_or_pos n2 with hz | hz
    · subst hz
      obtain rfl : l = [] := List.eq_nil_of_length_eq_zero hll
      obtain rfl : N = 0 := by omega
      obtain rfl : N1 = 0 := by omega
      obtain rfl : N2 = 0 := by omega
      clear hT
      have hT := hl4
      replace H1 : Hid (runR g [] = runG g []) := H1
      replace K1 : Hid (runC g [] = ((0 : Nat) : Int)) := K1
      replace H2 : Hid (runR (runG g []) [] = runG g []) := H2
      replace K2 : Hid (runC (runG g []) [] = ((0 : Nat) : Int)) := K2
      replace HLM : Hid ((runG g []).length = n1) := HLM
      replace HLN : Hid ((runG g []).length = n1) := HLN
      rcases A2 with _ | ad
      · obtain rfl := hnil rfl
        have hD : Rd w4 5 none 0 0 (c5 []) := ⟨rfl, Nat.le_refl _, by omega, fun h => absurd h (by omega)⟩
        go_wp2_with fail
        refine (RunMoves_any _ _ _ _ _ _ _ _ _ hg4 hT).mono ?_; rintro e w5 ⟨A5, c5', rfl, o5, hb5⟩; rw [K1.out]; rw [H1.out] at o5 ⊢; rw [HLM.out] at o5 ⊢
        go_wp2_with fail
        refine (RunMoves_any _ _ _ _ _ _ _ _ _ o5.rdR (hD.below hb5)).mono ?_; rintro e w6 ⟨A6, c6, rfl, o6, hb6⟩; rw [K2.out]; rw [H2.out] at o6 ⊢; rw [HLN.out] at o6 ⊢
        have hg6 := hg4.below (hb5.trans hb6)
        have hx6 := hx4.below (hb5.trans hb6)
        have hbb := hb.trans (hb5.trans hb6)
        clear hg4 hx4 hl4 hT hD o5 hb5 hb6 hb
        go_wp2_with fail
        refine (CloseGraph_any _ _ _ _ _ hg6).mono ?_; rintro e w7 ⟨A7, c7, rfl, o7, hb7⟩
        go_wp2_with fail
        refine (GraphWithin_any _ _ _ _ _ _ _ _ _ (hx6.below hb7) o7.rdR).mono ?_; rintro e w8 ⟨rfl, hb8⟩; rw [WI.out]
        go_wp2_with fail
        refine (sameRows_any _ _ _ _ _ _ _ _ _ (o6.rdR.below (hb7.trans hb8)) (hx6.below (hb7.trans hb8))).mono ?_; rintro e w9 ⟨rfl, hb9⟩; rw [(eqRs_iff _ _).2 rfl]
        go_wp2
        go_ret
        exact ⟨ret_bool (by simp; try omega), hbb.trans (hb7.trans (hb8.trans hb9))⟩
      · have hD := hl4
        by_cases hcz : c2 = 0
        · subst hcz
          go_wp2_with fail
          refine (RunMoves_any _ _ _ _ _ _ _ _ _ hg4 hT).mono ?_; rintro e w5 ⟨A5, c5', rfl, o5, hb5⟩; rw [K1.out]; rw [H1.out] at o5 ⊢; rw [HLM.out] at o5 ⊢
          go_wp2_with fail
          refine (RunMoves_any _ _ _ _ _ _ _ _ _ o5.rdR (hD.below hb5)).mono ?_; rintro e w6 ⟨A6, c6, rfl, o6, hb6⟩; rw [K2.out]; rw [H2.out] at o6 ⊢; rw [HLN.out] at o6 ⊢
          have hg6 := hg4.below (hb5.trans hb6)
          have hx6 := hx4.below (hb5.trans hb6)
          have hbb := hb.trans (hb5.trans hb6)
          clear hg4 hx4 hl4 hT hD o5 hb5 hb6 hb
          go_wp2_with fail
          refine (CloseGraph_any _ _ _ _ _ hg6).mono ?_; rintro e w7 ⟨A7, c7, rfl, o7, hb7⟩
          go_wp2_with fail
          refine (GraphWithin_any _ _ _ _ _ _ _ _ _ (hx6.below hb7) o7.rdR).mono ?_; rintro e w8 ⟨rfl, hb8⟩; rw [WI.out]
          go_wp2_with fail
          refine (sameRows_any _ _ _ _ _ _ _ _ _ (o6.rdR.below (hb7.trans hb8)) (hx6.below (hb7.trans hb8))).mono ?_; rintro e w9 ⟨rfl, hb9⟩; rw [(eqRs_iff _ _).2 rfl]
          go_wp2
          go_ret
          exact ⟨ret_bool (by simp; try omega), hbb.trans (hb7.trans (hb8.trans hb9))⟩
        · skip
          go_wp2_with fail
          refine (RunMoves_any _ _ _ _ _ _ _ _ _ hg4 hT).mono ?_; rintro e w5 ⟨A5, c5', rfl, o5, hb5⟩; rw [K1.out]; rw [H1.out] at o5 ⊢; rw [HLM.out] at o5 ⊢
          go_wp2_with fail
          refine (RunMoves_any _ _ _ _ _ _ _ _ _ o5.rdR (hD.below hb5)).mono ?_; rintro e w6 ⟨A6, c6, rfl, o6, hb6⟩; rw [K2.out]; rw [H2.out] at o6 ⊢; rw [HLN.out] at o6 ⊢
          have hg6 := hg4.below (hb5.trans hb6)
          have hx6 := hx4.below (hb5.trans hb6)
          have hbb := hb.trans (hb5.trans hb6)
          clear hg4 hx4 hl4 hT hD o5 hb5 hb6 hb
          go_wp2_with fail
          refine (CloseGraph_any _ _ _ _ _ hg6).mono ?_; rintro e w7 ⟨A7, c7, rfl, o7, hb7⟩
          go_wp2_with fail
          refine (GraphWithin_any _ _ _ _ _ _ _ _ _ (hx6.below hb7) o7.rdR).mono ?_; rintro e w8 ⟨rfl, hb8⟩; rw [WI.out]
          go_wp2_with fail
          refine (sameRows_any _ _ _ _ _ _ _ _ _ (o6.rdR.below (hb7.trans hb8)) (hx6.below (hb7.trans hb8))).mono ?_; rintro e w9 ⟨rfl, hb9⟩; rw [(eqRs_iff _ _).2 rfl]
          go_wp2
          go_ret
          exact ⟨ret_bool (by simp; try omega), hbb.trans (hb7.trans (hb8.trans hb9))⟩
    · have hz' : (0 : Int) < n2 := by omega
      obtain ⟨b2, off2, hAA, _⟩ := hl4.cells hz
      subst hAA
      have hD : Rd w4 5 (some ⟨b2, off2 + n2 / 2 * 5, none⟩) (n2 - n2 / 2) (c2 - n2 / 2) (c5 (l.drop (n2 / 2))) := by rw [c5_drop]; exact hl4.dropS (by omega)
      have qd : ((n2 : Int)).tdiv 2 = ((n2 / 2 : Nat) : Int) := by rw [Int.tdiv_eq_ediv_of_nonneg (by omega)]; omega
      have qw : IntKind.i64.wrap ((n2 / 2 : Nat) : Int) = ((n2 / 2 : Nat) : Int) := by rw [IntKind.wrap_i64]; omega
      obtain ⟨hh, eh⟩ : ∃ hh, n2 / 2 = hh := ⟨_, rfl⟩
      rw [eh] at hT hD qd qw H1 K1 H2 K2 HLM
      have hhc : ¬ hh = c2 := by omega
      have hh2 : hh ≤ n2 := by omega
      have cs : Try.prog.cellsOf 28 = 5 := by kernel_rfl
      clear hz
      go_wp2_with fail
      refine (RunMoves_any _ _ _ _ _ _ _ _ _ hg4 hT).mono ?_; rintro e w5 ⟨A5, c5', rfl, o5, hb5⟩; rw [K1.out]; rw [H1.out] at o5 ⊢; rw [HLM.out] at o5 ⊢
      go_wp2_with fail
      refine (RunMoves_any _ _ _ _ _ _ _ _ _ o5.rdR (hD.below hb5)).mono ?_; rintro e w6 ⟨A6, c6, rfl, o6, hb6⟩; rw [K2.out]; rw [H2.out] at o6 ⊢; rw [HLN.out] at o6 ⊢
      have hg6 := hg4.below (hb5.trans hb6)
      have hx6 := hx4.below (hb5.trans hb6)
      have hbb := hb.trans (hb5.trans hb6)
      clear hg4 hx4 hl4 hT hD o5 hb5 hb6 hb
      go_wp2_with fail
      refine (CloseGraph_any _ _ _ _ _ hg6).mono ?_; rintro e w7 ⟨A7, c7, rfl, o7, hb7⟩
      go_wp2_with fail
      refine (GraphWithin_any _ _ _ _ _ _ _ _ _ (hx6.below hb7) o7.rdR).mono ?_; rintro e w8 ⟨rfl, hb8⟩; rw [WI.out]
      go_wp2_with fail
      refine (sameRows_any _ _ _ _ _ _ _ _ _ (o6.rdR.below (hb7.trans hb8)) (hx6.below (hb7.trans hb8))).mono ?_; rintro e w9 ⟨rfl, hb9⟩; rw [(eqRs_iff _ _).2 rfl]
      go_wp2
      go_ret
      exact ⟨ret_bool (by simp; try omega), hbb.trans (hb7.trans (hb8.trans hb9))⟩
end Go.Proofs.Ytbljkahdhckegaa
