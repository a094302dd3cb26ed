/-
  The law FnGrowGraph returns true at every input, and leaves all that was there as it was: the walk.
-/
import Derived.Test.YtggapldcfpbcbaaDrX
import Derived.Test.YtggapldcfpbcbaaClA
import Derived.Test.YtggapldcfpbcbaaAlive
namespace Go.Proofs.Ytggapldcfpbcbaa
open Go.RowKit

theorem close_sub {n m : Nat} {g : List (List Int)} (h : Tab n m g) (_hnm : n ≤ m) : ∀ k, Sub n m g (iterG k g)
  | 0 => sub_refl h
  | k + 1 => sub_trans h (iterG_tab h k) (iterG_tab h (k + 1)) (close_sub h _hnm k) (grow_sub (iterG_tab h k))
theorem grow_law {g : List (List Int)} (hv : gValid g = true) : gWithin g (growR g) = true ∧ gWithin (growR g) (closeR g) = true ∧ growR (closeR g) = closeR g ∧ gWithin g (closeR g) = true := by
  obtain ⟨n, m, ht, hnm, h6, hm, _⟩ := tab_of_valid hv
  have e1 : growR g = growG g := by unfold growR; rw [if_pos hv]
  have e2 : closeR g = closeG g := by unfold closeR; rw [if_pos hv]
  have hvc := valid_of_tab (close_tab ht) hnm h6 hm
  have e3 : growR (closeG g) = growG (closeG g) := by unfold growR; rw [if_pos hvc]
  have hsub : Sub n m g (closeG g) := close_sub ht hnm _
  rw [e1, e2, e3]
  refine ⟨(within_sub ht (growG_tab ht) hnm h6 hm).2 (grow_sub ht), (within_sub (growG_tab ht) (close_tab ht) hnm h6 hm).2 ?_, close_fix ht, (within_sub ht (close_tab ht) hnm h6 hm).2 hsub⟩
  have := grow_mono ht (close_tab ht) hnm hsub
  rw [close_fix ht] at this
  exact this

set_option maxHeartbeats 400000 in
theorem FnGrowGraph_walk (A : Option Addr) (n c : Nat) (code : List Int) (w : World) (h0 : Rd w 1 A n c (code.map (Value.int .u8))) (F0 : ∀ z ∈ code, (Lit.int .u8 z).wf = true) :
    Calls Try.prog 11 #[.slice A n c] w fun e w' => e = .returned (.bool true) ∧ Ext w w' := by
  obtain ⟨bs, hbs⟩ := bytes_of F0
  rw [hbs] at h0
  have hle := h0.le
  have htop := h0.top
  by_cases hn : 1048576 < n
  · go_enter Try.func11, Try.ntmps11
    go_wp2
    go_ret
    exact ⟨rfl, Below.refl _ _⟩
  go_enter Try.func11, Try.ntmps11
  go_wp2_with fail
  refine (DrawGrowGraph_any _ _ _ _ _ h0).mono ?_; rintro e w1 ⟨A1, n1, c1, g, rfl, hg, hb1⟩
  go_wp2_with fail
  refine (GrowGraph_any _ _ _ _ _ hg).mono ?_; rintro e w2 ⟨A2, c2, rfl, o2, hb2⟩
  go_wp2_with fail
  refine (specGrowGraph_any _ _ _ _ _ (hg.below hb2)).mono ?_; rintro e w3 ⟨A3, c3, rfl, o3, hb3⟩
  go_wp2_with fail
  refine (sameRows_any _ _ _ _ _ _ _ _ _ (o2.rdR.below hb3) o3.rdR).mono ?_; rintro e w4 ⟨rfl, hb4⟩; rw [(eqRs_iff _ _).2 rfl]
  go_wp2_with fail
  refine (specGraphValid_any _ _ _ _ _ (hg.below (hb2.trans (hb3.trans hb4)))).mono ?_; rintro e w5 ⟨rfl, hb5⟩
  have hx5 := o2.rdR.below (hb3.trans (hb4.trans hb5))
  have hg5 := hg.below (hb2.trans (hb3.trans (hb4.trans hb5)))
  have hb := hb1.trans (hb2.trans (hb3.trans (hb4.trans hb5)))
  clear hb1 hb2 hb3 hb4 hb5 o2 o3 hg
  cases hv : gValid g with
  | false =>
    have e1 : (growR g).length = 0 := by unfold growR; rw [if_neg (by rw [hv]; exact Bool.false_ne_true)]; rfl
    go_wp2_with ((go_at_call 23; refine (alive_any _).mono ?_; rintro e w6 ⟨rfl, hb6⟩))
    go_ret
    exact ⟨rfl, hb.trans hb6⟩
  | true =>
    obtain ⟨l1, l2, l3, _⟩ := grow_law hv
    have L3 := Lib.hid l3
    clear l3
    go_wp2_with fail
    refine (CloseGraph_any _ _ _ _ _ hg5).mono ?_; rintro e w6 ⟨A6, c6, rfl, o6, hb6⟩
    go_wp2_with fail
    refine (GraphWithin_any _ _ _ _ _ _ _ _ _ (hg5.below hb6) (hx5.below hb6)).mono ?_; rintro e w7 ⟨rfl, hb7⟩; rw [l1]
    go_wp2_with fail
    refine (GraphWithin_any _ _ _ _ _ _ _ _ _ (hx5.below (hb6.trans hb7)) (o6.rdR.below hb7)).mono ?_; rintro e w8 ⟨rfl, hb8⟩; rw [l2]
    go_wp2_with fail
    refine (GrowGraph_any _ _ _ _ _ (o6.rdR.below (hb7.trans hb8))).mono ?_; rintro e w9 ⟨A9, c9, rfl, o9, hb9⟩
    go_wp2_with fail
    refine (sameRows_any _ _ _ _ _ _ _ _ _ o9.rdR (o6.rdR.below (hb7.trans (hb8.trans hb9)))).mono ?_; rintro e w10 ⟨rfl, hb10⟩; rw [(eqRs_iff _ _).2 L3.out]
    go_wp2
    go_ret
    exact ⟨rfl, hb.trans (hb6.trans (hb7.trans (hb8.trans (hb9.trans hb10))))⟩
end Go.Proofs.Ytggapldcfpbcbaa
