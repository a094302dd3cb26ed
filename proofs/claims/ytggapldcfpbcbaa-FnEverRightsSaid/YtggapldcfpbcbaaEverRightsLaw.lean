/-
  The law FnEverRights returns true at every input, and leaves all that was there as it was: the walk.
-/
import Derived.Test.YtggapldcfpbcbaaDrE
import Derived.Test.YtggapldcfpbcbaaDrX
import Derived.Test.YtggapldcfpbcbaaClB
import Derived.Test.YtggapldcfpbcbaaGrowGraphLaw
import Derived.Test.YtggapldcfpbcbaaRw
namespace Go.Proofs.Ytggapldcfpbcbaa
open Go.RowKit

theorem ever_facts {g : List (List Int)} (_hv : gValid g = true) {n m : Nat} (ht : Tab n m g) (hnm : n ≤ m) {i j : Nat} (hi : i < n) (hj : j < m) :
    cvB (el g i j) (el (closeG g) i j) = true ∧ ∀ k, k < n → (bits .and .i64 (el g i k) 1 == 0) = false → cvB (el (closeG g) k j) (el (closeG g) i j) = true := by
  have hs : Sub n m g (closeG g) := close_sub ht hnm _
  refine ⟨hs i j hi hj, fun k hk hb => ?_⟩
  have hl : lnk g i k = true := by unfold lnk; rw [hb]; rfl
  have hl2 := lnk_mono ht (close_tab ht) hnm hs hi hk hl
  have := grow_gets (close_tab ht) hi hj hk hl2
  rwa [close_fix ht] at this

set_option maxHeartbeats 1000000 in
theorem FnEverRights_walk (A : Option Addr) (n0 c : Nat) (code : List Int) (w : World) (h0 : Rd w 1 A n0 c (code.map (Value.int .u8))) (F0 : ∀ z ∈ code, (Lit.int .u8 z).wf = true) :
    Calls Try.prog 10 #[.slice A n0 c] w fun e w' => e = .returned (.bool true) ∧ Ext w w' := by
  obtain ⟨bs, hbs⟩ := bytes_of F0
  rw [hbs] at h0
  have hle := h0.le
  have htop := h0.top
  by_cases hn : 1048576 < n0
  · go_enter Try.func10, Try.ntmps10
    go_wp2
    go_ret
    exact ⟨rfl, Below.refl _ _⟩
  go_enter Try.func10, Try.ntmps10
  go_wp2_with fail
  refine (DrawEverRights_any _ _ _ _ _ h0).mono ?_; rintro e w1 ⟨A1, n, c1, g, i, j, rfl, hg, h1, h8, _, hi, hj, hb1⟩
  go_wp2_with fail
  refine (EverRights_any _ _ _ _ _ _ _ hg).mono ?_; rintro e w2 ⟨rfl, hb2⟩
  have hg2 := hg.below hb2
  obtain ⟨z, hz⟩ : ∃ z, everR g i j = z := ⟨_, rfl⟩
  have HZ := Lib.hid hz
  rw [hz]
  go_wp2_with fail
  refine (specEverRights_any _ _ _ _ _ _ _ hg2).mono ?_; rintro e w3 ⟨rfl, hb3⟩; rw [HZ.out]
  have hg3 := hg2.below hb3
  have hbb := (hb1.trans hb2).trans hb3
  have hlen := hg3.lenR
  clear hg hg2 hb1 hb2 hb3 h0 hbs F0
  by_cases hs : (gValid g && inB i 0 (g.length - 1) && inB j 0 (len0 g - 1)) = true
  rotate_left
  · have hz1 : z = -1 := by rw [← hz]; unfold everR; rw [if_neg hs]
    subst hz1
    clear hg3 hs hz HZ hlen
    go_wp2_with ((go_at_call 23; refine (alive_any _).mono ?_; rintro e w9 ⟨rfl, hb9⟩))
    go_ret
    exact ⟨rfl, hbb.trans hb9⟩
  have hzz : z = el (closeG g) i.toNat j.toNat := by rw [← hz]; unfold everR; rw [if_pos hs]
  simp only [Bool.and_eq_true] at hs
  obtain ⟨⟨hv, hi2⟩, hj2⟩ := hs
  obtain ⟨nn, m, ht, hnm, h6, hm, hl0⟩ := tab_of_valid hv
  have hnn : nn = n := by rw [← hlen]; exact ht.len.symm
  subst hnn
  have e0 := hl0 (by omega)
  have ia := inB_iff.1 hi2
  have ja := inB_iff.1 hj2
  rw [hlen] at ia
  rw [e0] at ja
  obtain ⟨i, rfl⟩ := Int.eq_ofNat_of_zero_le ia.1
  obtain ⟨j, rfl⟩ := Int.eq_ofNat_of_zero_le ja.1
  have hin : i < nn := by omega
  have hjm : j < m := by omega
  rw [Int.toNat_natCast, Int.toNat_natCast] at hzz
  obtain ⟨q0, q1⟩ := ever_facts hv ht hnm hin hjm
  have hRz : Rg z := by rw [hzz]; exact (close_tab ht).el_rg i j
  have hz0 : 0 ≤ z := hRz.1
  rw [← hzz] at q0 q1
  have HR := Lib.hid (rwB_of (ht.el_rg i j) hRz q0)
  have HK : Hid (∀ k, k < nn → (bits .and .i64 (el g i k) 1 == 0) = false → rwB (everR g k j) z = true) := Lib.hid (fun k hk hb => by
    have he : everR g k j = el (closeG g) k j := by
      unfold everR
      rw [if_pos, Int.toNat_natCast, Int.toNat_natCast]
      simp only [Bool.and_eq_true]
      exact ⟨⟨hv, inB_iff.2 (by rw [hlen]; omega)⟩, inB_iff.2 (by rw [e0]; omega)⟩
    rw [he]
    exact rwB_of ((close_tab ht).el_rg k j) hRz (q1 k hk hb))
  have HT := Lib.hid ht
  clear hz HZ hzz q0 q1 hRz hv hi2 hj2 hl0 e0 ia ja hlen hi hj
  go_wp2
  go_loopw [7] (fun kk wr => ∃ k : Nat, k ≤ nn ∧ kk = .int .i64 k ∧ Ext w3 wr) (fun kk _ => nn - (intOf kk).toNat)
  case atStart => exact ⟨0, Nat.zero_le _, rfl, Below.refl _ _⟩
  case round =>
    obtain ⟨k, hk, rfl, hE⟩ := hrel
    have hG := hg3.below hE
    have hbE := hbb.trans hE
    by_cases hlt : k < nn
    · obtain ⟨b, off, b1, off1, cc, hAA, r0, hmc, hct, r1⟩ := hG.atEl HT.out hin (j := k) (by omega)
      have hk1 := HK.out k hlt
      obtain ⟨v, hv⟩ : ∃ v, el g i k = v := ⟨_, rfl⟩
      rw [hv] at r1 hk1
      obtain ⟨t, hte⟩ : ∃ t, (bits .and .i64 v 1 == 0) = t := ⟨_, rfl⟩
      rw [hte] at hk1
      have hte' : (bits .and .i64 v 1 != 0) = !t := by rw [← hte]; rfl
      have hkm : k < m := by omega
      subst hAA
      clear hg3 hv HR HK HT
      cases t
      · have HK1 := Lib.hid (hk1 rfl)
        clear hk1
        go_wp2_with fail
        refine (EverRights_any _ _ _ _ _ _ _ hG).mono ?_; rintro e w5 ⟨rfl, hb5⟩
        go_wp2_with fail
        refine (RightsWithin_any _ _ _).mono ?_; rintro e w6 ⟨rfl, rfl⟩; rw [HK1.out]
        clear hG
        go_wp2
        go_roundw
        case rel => exact ⟨k + 1, by omega, by go_num, hE.trans hb5⟩
        case measure => simp [intOf]; omega
      · clear hk1 hG
        go_wp2
        go_roundw
        case rel => exact ⟨k + 1, by omega, by go_num, hE⟩
        case measure => simp [intOf]; omega
    · obtain ⟨b, off, b1, off1, cc, hAA, r0, hmc, hct, r1⟩ := hG.atEl HT.out hin (j := j) hjm
      subst hAA
      obtain ⟨v, hv⟩ : ∃ v, el g i j = v := ⟨_, rfl⟩
      rw [hv] at r1 HR
      clear hg3 hG HK HT hv
      go_wp2_with fail
      refine (RightsWithin_any _ _ _).mono ?_; rintro e w6 ⟨rfl, rfl⟩; rw [HR.out]
      go_wp2
      go_ret
      exact ⟨rfl, hbE⟩
end Go.Proofs.Ytggapldcfpbcbaa
