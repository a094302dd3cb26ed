/-
  What the reference draws for the laws about graphs.
-/
import Derived.Test.YtggapldcfpbcbaaDrG
import Derived.OpenShut
namespace Go.Proofs.Ytggapldcfpbcbaa
open Go.RowKit

theorem bytes_of {zs : List Int} (h : ∀ z ∈ zs, (Lit.int .u8 z).wf = true) : ∃ bs : List UInt8, zs.map (Value.int .u8) = cU bs := by
  refine ⟨zs.map fun z => UInt8.ofNat z.toNat, ?_⟩
  unfold cU
  rw [List.map_map]
  refine List.map_congr_left fun z hz => ?_
  have h1 := h z hz
  have h2 := bounds_u8 h1
  show Value.int .u8 z = Value.int .u8 ((UInt8.ofNat z.toNat).toNat : Int)
  rw [UInt8.toNat_ofNat']
  congr 1
  omega

set_option maxHeartbeats 400000 in
theorem DrawGraphValid_any (A : Option Addr) (n c : Nat) (bs : List UInt8) (w : World) (h : Rd w 1 A n c (cU bs)) :
    Calls Try.prog 22 #[.slice A n c] w fun e w' => ∃ A' n' c' xss, e = .returned (.slice A' n' c') ∧ RdR w' A' n' c' xss ∧ Ext w w' := by
  go_enter Try.func22, Try.ntmps22
  go_wp2_with fail
  refine (l20Open_any _ _ _ _ _ h).mono ?_; rintro e w1 ⟨rfl, hr, hb⟩
  have hs := hr.lt
  go_wp2_with fail
  refine (l20Graph_any _ _ _ _ _ hr (by omega) (by omega) (by omega) (by omega)).mono ?_; rintro e w2 ⟨A', n', c', xss, rfl, hA, _, ht⟩
  have hb2 := ext_tch hb ht (fun k e => by subst e; exact Nat.le_refl _)
  go_wp2
  go_ret
  exact ⟨_, _, _, _, rfl, hA.rdR, hb2⟩

set_option maxHeartbeats 400000 in
theorem DrawGrowGraph_any (A : Option Addr) (n c : Nat) (bs : List UInt8) (w : World) (h : Rd w 1 A n c (cU bs)) :
    Calls Try.prog 36 #[.slice A n c] w fun e w' => ∃ A' n' c' xss, e = .returned (.slice A' n' c') ∧ RdR w' A' n' c' xss ∧ Ext w w' := by
  go_enter Try.func36, Try.ntmps36
  go_wp2_with fail
  refine (l20Open_any _ _ _ _ _ h).mono ?_; rintro e w1 ⟨rfl, hr, hb⟩
  have hs := hr.lt
  go_wp2_with fail
  refine (l20Graph_any _ _ _ _ _ hr (by omega) (by omega) (by omega) (by omega)).mono ?_; rintro e w2 ⟨A', n', c', xss, rfl, hA, _, ht⟩
  have hb2 := ext_tch hb ht (fun k e => by subst e; exact Nat.le_refl _)
  go_wp2
  go_ret
  exact ⟨_, _, _, _, rfl, hA.rdR, hb2⟩

set_option maxHeartbeats 400000 in
theorem DrawCloseGraph_any (A : Option Addr) (n c : Nat) (bs : List UInt8) (w : World) (h : Rd w 1 A n c (cU bs)) :
    Calls Try.prog 37 #[.slice A n c] w fun e w' => ∃ A' n' c' xss, e = .returned (.slice A' n' c') ∧ RdR w' A' n' c' xss ∧ Ext w w' := by
  go_enter Try.func37, Try.ntmps37
  go_wp2_with fail
  refine (l20Open_any _ _ _ _ _ h).mono ?_; rintro e w1 ⟨rfl, hr, hb⟩
  have hs := hr.lt
  go_wp2_with fail
  refine (l20Graph_any _ _ _ _ _ hr (by omega) (by omega) (by omega) (by omega)).mono ?_; rintro e w2 ⟨A', n', c', xss, rfl, hA, _, ht⟩
  have hb2 := ext_tch hb ht (fun k e => by subst e; exact Nat.le_refl _)
  go_wp2
  go_ret
  exact ⟨_, _, _, _, rfl, hA.rdR, hb2⟩

set_option maxHeartbeats 1000000 in
theorem DrawGraphWithin_any (A : Option Addr) (n c : Nat) (bs : List UInt8) (w : World) (h : Rd w 1 A n c (cU bs)) :
    Calls Try.prog 28 #[.slice A n c] w fun e w' => ∃ A1 n1 c1 x1 A2 n2 c2 x2, e = .returned (.tuple #[.slice A1 n1 c1, .slice A2 n2 c2]) ∧ RdR w' A1 n1 c1 x1 ∧ RdR w' A2 n2 c2 x2 ∧ Ext w w' := by
  go_enter Try.func28, Try.ntmps28
  go_wp2_with fail
  refine (l20Open_any _ _ _ _ _ h).mono ?_; rintro e w1 ⟨rfl, hr, hb⟩
  have hs := hr.lt
  go_wp2_with fail
  refine (l20Graph_any _ _ _ _ _ hr (by omega) (by omega) (by omega) (by omega)).mono ?_; rintro e w2 ⟨A1, n1, c1, x1, rfl, hA, hr2, ht⟩
  have hb2 := ext_tch hb ht (fun k e => by subst e; exact Nat.le_refl _)
  have hs2 := ht.size
  have hA' := hA.mono (B' := w.heap.size + 1) hs
  clear hA hr ht hb
  go_wp2_with fail
  refine (specGrowGraph_any _ _ _ _ _ hA'.rdR).mono ?_; rintro e w3 ⟨A2, c2, rfl, hG, hb3⟩
  obtain ⟨hs3, hG1, _, hG2, _⟩ := hG.ex
  have hG' : RdA w3 (w.heap.size + 1) A2 _ c2 (growR x1) := (RdA.of hs3 hG1 hG2).mono (by omega)
  have hA3 := hA'.below hb3
  have hr3 := hr2.keep hb3
  have hb3' := hb2.trans hb3
  have hs3' := hb3.size
  clear hG hG1 hG2 hA' hr2 hb2 hb3
  obtain ⟨nG, hnG⟩ : ∃ k, (growR x1).length = k := ⟨_, rfl⟩
  rw [hnG] at hG'
  obtain ⟨xG, hxG⟩ : ∃ k, growR x1 = k := ⟨_, rfl⟩
  rw [hxG] at hG'
  clear hxG
  go_wp2_with fail
  refine (oddT _ _ _ _ _ hr3 (by omega) (by omega) (by omega)).mono ?_; rintro e w4 ⟨t, rfl, _, hr4, ht4⟩
  have hA4 := hA3.only ht4 (fun k e => by subst e; omega)
  have hG4 := hG'.only ht4 (fun k e => by subst e; omega)
  have hb4 := ext_tch hb3' ht4 (fun k e => by subst e; exact Nat.le_refl _)
  have hs4 := ht4.size
  clear hA3 hG' hb3' ht4 hr3
  cases t
  · go_wp2_with fail
    refine (oddT _ _ _ _ _ hr4 (by omega) (by omega) (by omega)).mono ?_; rintro e w5 ⟨t, rfl, _, hr5, ht5⟩
    have hA5 := hA4.only ht5 (fun k e => by subst e; omega)
    have hG5 := hG4.only ht5 (fun k e => by subst e; omega)
    have hb5 := ext_tch hb4 ht5 (fun k e => by subst e; exact Nat.le_refl _)
    cases t
    · go_wp2
      go_ret2
      exact ⟨_, _, _, _, _, _, _, _, rfl, hA5.rdR, hG5.rdR, hb5⟩
    · go_wp2
      go_ret2
      exact ⟨_, _, _, _, _, _, _, _, rfl, hG5.rdR, hA5.rdR, hb5⟩
  · go_wp2_with fail
    refine (l20Graph_any _ _ _ _ _ hr4 (by omega) (by omega) (by omega) (by omega)).mono ?_; rintro e w6 ⟨A6, n6, c6, x6, rfl, hX, hr6, ht6⟩
    have hA6 := hA4.only ht6 (fun k e => by subst e; omega)
    have hX6 := hX.mono (B' := w.heap.size + 1) (by omega)
    have hb6 := ext_tch hb4 ht6 (fun k e => by subst e; exact Nat.le_refl _)
    have hs6 := ht6.size
    clear hA4 hG4 hb4 ht6 hr4 hX
    go_wp2_with fail
    refine (oddT _ _ _ _ _ hr6 (by omega) (by omega) (by omega)).mono ?_; rintro e w5 ⟨t, rfl, _, hr5, ht5⟩
    have hA5 := hA6.only ht5 (fun k e => by subst e; omega)
    have hG5 := hX6.only ht5 (fun k e => by subst e; omega)
    have hb5 := ext_tch hb6 ht5 (fun k e => by subst e; exact Nat.le_refl _)
    cases t
    · go_wp2
      go_ret2
      exact ⟨_, _, _, _, _, _, _, _, rfl, hA5.rdR, hG5.rdR, hb5⟩
    · go_wp2
      go_ret2
      exact ⟨_, _, _, _, _, _, _, _, rfl, hG5.rdR, hA5.rdR, hb5⟩
end Go.Proofs.Ytggapldcfpbcbaa
