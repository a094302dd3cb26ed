/-
  The law FnTimersAgain returns true at every input, and leaves all that was there as it was: the walk.
-/
import Derived.Test.YthjbafafkaoomaaTmI
import Derived.Test.YthjbafafkaoomaaTmJ
import Derived.Test.YthjbafafkaoomaaAlive
namespace Go.Proofs.Ythjbafafkaoomaa
open Go.RowKit

set_option maxHeartbeats 2000000 in
theorem FnTimersAgain_walk (A : Option Addr) (n0 c : Nat) (code : List Int) (A' : Option Addr) (n0' c' : Nat) (more : List Int) (w : World) (h0 : Rd w 1 A n0 c (code.map (Value.int .u8))) (F0 : ∀ z ∈ code, (Lit.int .u8 z).wf = true)
    (h0' : Rd w 1 A' n0' c' (more.map (Value.int .u8))) (F0' : ∀ z ∈ more, (Lit.int .u8 z).wf = true) :
    Calls Try.prog 12 #[.slice A n0 c, .slice A' n0' c'] w fun e w' => e = .returned (.bool true) ∧ Ext w w' := by
  obtain ⟨bs, hbs⟩ := bytes_of F0
  rw [hbs] at h0
  have hle := h0.le
  have htop := h0.top
  have hle' := h0'.le
  have htop' := h0'.top
  clear h0' F0'
  by_cases hn : 1048576 < n0
  · go_enter Try.func12, Try.ntmps12
    go_wp2
    all_goals go_ret
    all_goals exact ⟨rfl, Below.refl _ _⟩
  by_cases hn' : 1048576 < n0'
  · go_enter Try.func12, Try.ntmps12
    go_wp2
    all_goals go_ret
    all_goals exact ⟨rfl, Below.refl _ _⟩
  go_enter Try.func12, Try.ntmps12
  go_wp2_with fail
  refine (DrawSetTimer_any _ _ _ _ _ h0).mono ?_; rintro e w1 ⟨A1, n, c1, ms, t, v, rfl, hg, h19, ht, hv, hb1⟩
  obtain ⟨xs, hxs⟩ : ∃ xs, setR t v ms = xs := ⟨_, rfl⟩
  have HXS := Lib.hid hxs
  obtain ⟨m, hm⟩ : ∃ m, xs.length = m := ⟨_, rfl⟩
  have HM := Lib.hid hm
  clear hxs hm
  go_wp2_with fail
  refine (SetTimer_any _ _ _ _ _ _ _ hg).mono ?_; rintro e w2 ⟨A2, c2', rfl, hF2, hb2⟩
  rw [HXS.out, HM.out] at hF2 ⊢
  have hg2 := hg.below hb2
  go_wp2_with fail
  refine (specSetTimer_any _ _ _ _ _ _ _ hg2).mono ?_; rintro e w3 ⟨A3, c3, rfl, hF3, hb3⟩
  rw [HXS.out, HM.out] at hF3 ⊢
  have hR2 := hF2.rd'.2.below hb3
  have hR3 := hF3.rd'.2
  have hg3 := hg2.below hb3
  have hbb := (hb1.trans hb2).trans hb3
  go_wp2_with fail
  refine (sameTimers_any _ _ _ _ _ _ _ _ _ hR2 hR3).mono ?_; rintro e w4 ⟨rfl, hb4⟩; rw [(eqTms_iff _ _).2 rfl]
  have hR4 := hR2.below hb4
  have hg4 := hg3.below hb4
  have hbc := hbb.trans hb4
  clear hF2 hF3 hR2 hR3 hg hg2 hg3 hb1 hb2 hb3 hb4 hbb h0 F0 hbs
  by_cases hok : setOk t v ms = true
  rotate_left
  · have hxs : xs = [] := by rw [← HXS.out]; exact setR_none hok
    subst hxs
    obtain rfl : m = 0 := HM.out.symm
    clear hR4 hg4 hok
    go_wp2_with ((go_at_call 25; refine (alive_any _).mono ?_; rintro e w9 ⟨rfl, hb9⟩))
    go_ret
    exact ⟨rfl, hbc.trans hb9⟩
  have hmp : 0 < m := by rw [← HM.out, ← HXS.out]; exact setR_pos hok
  have hmb : ((m : Int) == 0) = false := by rw [beq_eq_false_iff_ne]; omega
  obtain ⟨s, hs⟩ : ∃ s : Int, (n0' : Int) % 30 = s := ⟨_, rfl⟩
  have hs0 : 0 ≤ s ∧ s ≤ 29 := by omega
  have hag := setR_again (u := s) hok (by omega)
  rw [HXS.out] at hag
  obtain ⟨zs, hz⟩ : ∃ zs, setR t s ms = zs := ⟨_, rfl⟩
  rw [hz] at hag
  have HZ := Lib.hid hz
  have HA := Lib.hid hag
  obtain ⟨l, hl⟩ : ∃ l, zs.length = l := ⟨_, rfl⟩
  have HL := Lib.hid hl
  clear hok hag hz hl
  go_wp2_with fail
  refine (SetTimer_any _ _ _ _ _ _ _ hR4).mono ?_; rintro e w5 ⟨A5, c5, rfl, hF5, hb5⟩
  rw [HA.out, HL.out] at hF5 ⊢
  have hg5 := hg4.below hb5
  have hS5 := hF5.rd'.2
  clear hR4 hg4 hF5
  go_wp2_with fail
  refine (SetTimer_any _ _ _ _ _ _ _ hg5).mono ?_; rintro e w6 ⟨A6, c6, rfl, hF6, hb6⟩
  rw [HZ.out, HL.out] at hF6 ⊢
  have hS6 := hS5.below hb6
  have hT6 := hF6.rd'.2
  clear hg5 hS5 hF6
  go_wp2_with fail
  refine (sameTimers_any _ _ _ _ _ _ _ _ _ hS6 hT6).mono ?_; rintro e w7 ⟨rfl, hb7⟩; rw [(eqTms_iff _ _).2 rfl]
  clear hS6 hT6
  go_wp2
  go_ret
  exact ⟨rfl, hbc.trans (hb5.trans (hb6.trans hb7))⟩
end Go.Proofs.Ythjbafafkaoomaa
