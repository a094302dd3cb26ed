/-
  The law FnUseTime returns true at every input, and leaves all that was there as it was: the walk.
-/
import Derived.Test.YtbpkclhpjelelaaTiU
import Derived.Test.YtbpkclhpjelelaaTiB2
import Derived.Test.YtbpkclhpjelelaaAlive
import Derived.OpenShut
namespace Go.Proofs.Ytbpkclhpjelelaa
open Go.RowKit

theorem bytes_of {zs : List Int} (h : ∀ z ∈ zs, (Lit.int .u8 z).wf = true) : ∃ bs : List UInt8, zs.map (Value.int .u8) = cU bs := by
  refine ⟨zs.map fun z => UInt8.ofNat z.toNat, ?_⟩
  unfold cU
  rw [List.map_map]
  refine List.map_congr_left fun z hz => ?_
  have h2 := bounds_u8 (h z hz)
  show Value.int .u8 z = Value.int .u8 ((UInt8.ofNat z.toNat).toNat : Int)
  rw [UInt8.toNat_ofNat']
  congr 1
  omega
theorem sum_bound : ∀ zs : List Int, (∀ z ∈ zs, 0 ≤ z ∧ z ≤ 10000) → 0 ≤ zs.sum ∧ zs.sum ≤ 10000 * zs.length
  | [], _ => by simp
  | z :: zs, h => by
    have h1 := h z (by simp)
    have h2 := sum_bound zs fun y hy => h y (by simp [hy])
    simp only [List.sum_cons, List.length_cons]
    omega
theorem tValid_sum {zs : List Int} (h : tValid zs = true) : 0 ≤ zs.sum ∧ zs.sum ≤ 160000 := by
  unfold tValid at h
  simp only [Bool.and_eq_true, decide_eq_true_eq, List.all_eq_true] at h
  have := sum_bound zs fun z hz => inB_iff.1 (h.1 z hz)
  omega

set_option maxHeartbeats 400000 in
theorem DrawTimesValid_any' (A : Option Addr) (n c : Nat) (bs : List UInt8) (w : World) (h : Rd w 1 A n c (cU bs)) :
    Calls Try.prog 9 #[.slice A n c] w fun e w' => ∃ A' n' c' xs, e = .returned (.slice A' n' c') ∧ Rd w' 1 A' n' c' (cI xs) ∧ 1 ≤ n' ∧ n' ≤ 9 ∧ Ext w w' := by
  go_enter Try.func9, Try.ntmps9
  go_wp2_with fail
  refine (l20Open_any _ _ _ _ _ h).mono ?_; rintro e w1 ⟨rfl, hr, hb⟩
  have hs := hr.lt
  go_wp2_with fail
  refine (l20Times_any _ _ _ _ _ hr (by omega) (by omega) (by omega) (by omega)).mono ?_; rintro e w2 ⟨A', n', c', xs, rfl, hA, _, h1, h9, _, ht⟩
  have hb2 := ext_tch hb ht (fun k e => by subst e; exact Nat.le_refl _)
  go_wp2
  go_ret
  exact ⟨_, _, _, _, rfl, hA, h1, h9, hb2⟩

set_option maxHeartbeats 1000000 in
theorem FnUseTime_walk (A : Option Addr) (n0 c : Nat) (code : List Int) (w : World) (h0 : Rd w 1 A n0 c (code.map (Value.int .u8))) (F0 : ∀ z ∈ code, (Lit.int .u8 z).wf = true) :
    Calls Try.prog 6 #[.slice A n0 c] w fun e w' => e = .returned (.bool true) ∧ Ext w w' := by
  obtain ⟨bs, hbs⟩ := bytes_of F0
  rw [hbs] at h0
  have hle := h0.le
  have htop := h0.top
  by_cases hn : 1048576 < n0
  · go_enter Try.func6, Try.ntmps6
    go_wp2
    go_ret
    exact ⟨rfl, Below.refl _ _⟩
  go_enter Try.func6, Try.ntmps6
  go_wp2_with fail
  refine (DrawUseTime_any _ _ _ _ _ h0).mono ?_; rintro e w1 ⟨A1, n, c1, zs, a, x, rfl, hg, hn1, h9, hx, hb1⟩
  go_wp2_with fail
  refine (UseTime_any _ _ _ _ a x _ hg (by omega)).mono ?_; rintro e w2 ⟨A2, n2, c2, rfl, hF2, hb2⟩
  have hg2 := hg.below hb2
  go_wp2_with fail
  refine (specUseTime_any _ _ _ _ a x _ hg2 (by omega)).mono ?_; rintro e w3 ⟨A3, n3, c3, rfl, hF3, hb3⟩
  have hR2 := hF2.rd'.2.below hb3
  have hR3 := hF3.rd'.2
  have hg3 := hg2.below hb3
  have hl2 := hR2.lenI
  have hbb := (hb1.trans hb2).trans hb3
  obtain ⟨u, hu⟩ : ∃ u, useN zs a x = u := ⟨_, rfl⟩
  rw [hu]
  go_wp2_with fail
  refine (sameInts_any _ _ _ _ _ _ _ _ _ hR2 hR3).mono ?_; rintro e w4 ⟨rfl, hb4⟩; rw [(eqIs_iff _ _).2 rfl]
  have hR4 := hR2.below hb4
  have hg4 := hg3.below hb4
  have hbc := hbb.trans hb4
  clear hF2 hF3 hR2 hR3 hg hg2 hg3 hb1 hb2 hb3 hb4 hbb h0 hbs F0
  by_cases hok : okT zs a a x = true
  · obtain ⟨f1, f2, f3, f4, f5, f6, f7⟩ := useL_facts hok
    obtain ⟨hv, ha, _, hx0⟩ := okT_iff.1 hok
    have hl := hg4.lenI
    obtain ⟨i, rfl⟩ := Int.eq_ofNat_of_zero_le ha.1
    have hi : i < n := by omega
    have hnn : n2 = n := by omega
    subst hnn
    have hne : ((n2 : Int) == 0) = false := by rw [beq_eq_false_iff_ne]; omega
    have G1 := get_at0 (zs := zs) (i := i) (by omega)
    have va := (tValid_iff.1 hv).1 i (by omega)
    have vs := tValid_sum hv
    have vs2 := tValid_sum f3
    rw [hu] at f2 f4 f5 f6 f7
    rw [Int.toNat_natCast] at f5 f6 f7
    obtain ⟨za, hza⟩ : ∃ z, at0 zs i = z := ⟨_, rfl⟩
    rw [hza] at f5 f6 f7 G1 va
    rw [f2] at vs2
    have F2 := Lib.hid f2
    have F7 := Lib.hid f7
    have GG := Lib.hid G1
    have V3 := Lib.hid f3
    have V0 := Lib.hid hv
    clear hok f1 f2 f3 f7 G1 hza hl hl2 ha hv hu
    obtain ⟨s, hs⟩ : ∃ s, zs.sum = s := ⟨_, rfl⟩
    rw [hs] at vs vs2 F2
    have HS := Lib.hid hs
    clear hs
    go_wp2_with fail
    refine (UseTime_any _ _ _ _ (i : Int) 1099511627776 _ hR4 (by omega)).mono ?_; rintro e w5 ⟨A5, n5, c5, rfl, _, hb5⟩
    rw [F7.out]
    have hR5 := hR4.below hb5
    have hg5 := hg4.below hb5
    have hbd := hbc.trans hb5
    obtain ⟨b1, o1, z1, hA, X1, g1⟩ := hg5.atI hi
    subst hA
    obtain rfl : z1 = za := by have := X1.out.symm.trans GG.out; simpa using this
    clear hR4 hg4 hbc hb5 X1 GG F7
    by_cases hux : u = x
    · subst hux
      go_wp2_with fail
      refine (total_any _ _ _ _ _ hR5 V3.out).mono ?_; rintro e w6 ⟨rfl, rfl⟩; rw [F2.out]
      go_wp2_with fail
      refine (total_any _ _ _ _ _ hg5 V0.out).mono ?_; rintro e w6 ⟨rfl, rfl⟩; rw [HS.out]
      go_wp2
      go_ret
      exact ⟨rfl, hbd⟩
    · have huz : u = z1 := by omega
      have hux' : (u == x) = false := by rw [beq_eq_false_iff_ne]; exact hux
      subst huz
      go_wp2_with fail
      refine (total_any _ _ _ _ _ hR5 V3.out).mono ?_; rintro e w6 ⟨rfl, rfl⟩; rw [F2.out]
      go_wp2_with fail
      refine (total_any _ _ _ _ _ hg5 V0.out).mono ?_; rintro e w6 ⟨rfl, rfl⟩; rw [HS.out]
      go_wp2
      go_ret
      exact ⟨rfl, hbd⟩
  · obtain ⟨eL, eN⟩ := use_no (zs := zs) (a := a) (x := x) (by simpa using hok)
    rw [eL] at hl2
    obtain rfl : n2 = 0 := hl2.symm
    obtain rfl : u = 0 := by rw [← hu, eN]
    clear hR4 hg4 eL eN hu hok
    go_wp2_with ((go_at_call 12; refine (alive_any _).mono ?_; rintro e w9 ⟨rfl, hb9⟩))
    go_ret
    exact ⟨rfl, hbc.trans hb9⟩
end Go.Proofs.Ytbpkclhpjelelaa
