/-
  The law FnDropTimer returns true at every input, and leaves all that was there as it was: the walk.
-/
import Derived.Test.YthjbafafkaoomaaTmG
import Derived.Test.YthjbafafkaoomaaAlive
namespace Go.Proofs.Ythjbafafkaoomaa
open Go.RowKit

set_option maxHeartbeats 2000000 in
theorem FnDropTimer_walk (A : Option Addr) (n0 c : Nat) (code : List Int) (w : World) (h0 : Rd w 1 A n0 c (code.map (Value.int .u8))) (F0 : ∀ z ∈ code, (Lit.int .u8 z).wf = true) :
    Calls Try.prog 8 #[.slice A n0 c] w fun e w' => e = .returned (.bool true) ∧ Ext w w' := by
  obtain ⟨bs, hbs⟩ := bytes_of F0
  rw [hbs] at h0
  have hle := h0.le
  have htop := h0.top
  by_cases hn : 1048576 < n0
  · go_enter Try.func8, Try.ntmps8
    go_wp2
    go_ret
    exact ⟨rfl, Below.refl _ _⟩
  go_enter Try.func8, Try.ntmps8
  go_wp2_with fail
  refine (DrawDropTimer_any _ _ _ _ _ h0).mono ?_; rintro e w1 ⟨A1, n, c1, ms, t, rfl, hg, h19, hb1⟩
  go_wp2_with fail
  refine (DropTimer_any _ _ _ _ _ _ hg).mono ?_; rintro e w2 ⟨A2, c2', rfl, hF2, hb2⟩
  obtain ⟨xs, hxs⟩ : ∃ xs, dropR t ms = xs := ⟨_, rfl⟩
  have HXS := Lib.hid hxs
  obtain ⟨ok, hok⟩ : ∃ b, (tmValid ms && ms.any (isT t)) = b := ⟨_, rfl⟩
  have HOK := Lib.hid hok
  rw [hxs] at hF2 ⊢
  rw [hok]
  clear hxs hok
  have hg2 := hg.below hb2
  go_wp2_with fail
  refine (specDropTimer_any _ _ _ _ _ _ hg2).mono ?_; rintro e w3 ⟨A3, c3, rfl, hF3, hb3⟩
  rw [HXS.out] at hF3 ⊢
  rw [HOK.out]
  have hR2 := hF2.rd'.2.below hb3
  have hR3 := hF3.rd'.2
  have hg3 := hg2.below hb3
  have hbb := (hb1.trans hb2).trans hb3
  have hkk : (ok != ok) = false := by cases ok <;> rfl
  obtain ⟨m, hm⟩ : ∃ m, xs.length = m := ⟨_, rfl⟩
  rw [hm] at hR2 hR3 ⊢
  have HM := Lib.hid hm
  clear hm
  go_wp2_with fail
  refine (sameTimers_any _ _ _ _ _ _ _ _ _ hR2 hR3).mono ?_; rintro e w4 ⟨rfl, hb4⟩; rw [(eqTms_iff _ _).2 rfl]
  have hR4 := hR2.below hb4
  have hg4 := hg3.below hb4
  have hbc := hbb.trans hb4
  clear hF2 hF3 hR2 hR3 hg hg2 hg3 hb1 hb2 hb3 hb4 hbb h0 hbs F0
  obtain ⟨t1, ht1⟩ : ∃ b, tmValid ms = b := ⟨_, rfl⟩
  have HT := Lib.hid ht1
  go_wp2_with fail
  refine (specTimersValid_any _ _ _ _ _ hg4).mono ?_; rintro e w5 ⟨rfl, hb5⟩; rw [HT.out]
  have hR5 := hR4.below hb5
  have hg5 := hg4.below hb5
  have hbd := hbc.trans hb5
  clear hR4 hg4 hbc hb5
  cases t1
  · have eok : ok = false := by rw [← HOK.out, ht1]; rfl
    have exs : xs = [] := by rw [← HXS.out]; unfold dropR; rw [ht1]; rfl
    subst exs
    obtain rfl : m = 0 := HM.out.symm
    subst eok
    clear hR5 hg5 ht1
    go_wp2_with ((go_at_call 25; refine (alive_any _).mono ?_; rintro e w9 ⟨rfl, hb9⟩))
    go_ret
    exact ⟨rfl, hbd.trans hb9⟩
  · have exs : xs = wot t ms := by rw [← HXS.out]; unfold dropR; rw [ht1]; rfl
    have eok : ok = ms.any (isT t) := by rw [← HOK.out, ht1, Bool.true_and]
    have hvx : tmValid xs = true := by rw [exs]; exact tmValid_filter ht1 _
    have e2 : dropR t xs = xs := by
      unfold dropR
      rw [hvx, if_pos rfl]
      exact wot_same (by rw [exs]; exact wot_none t ms)
    have e3 : (tmValid xs && xs.any (isT t)) = false := by rw [exs, wot_none, Bool.and_false]
    have hn := hg5.len2
    have HV := Lib.hid hvx
    have H2 := Lib.hid e2
    have H3 := Lib.hid e3
    have hlen : (ok = true → m + 1 = n) ∧ (ok = false → xs = ms) := by
      refine ⟨fun h => ?_, fun h => ?_⟩
      · have := wot_drop ht1 t (by rw [← eok, h])
        rw [← exs, HM.out] at this; omega
      · rw [exs]; exact wot_same (by rw [← eok, h])
    clear ht1 exs eok hvx e2 e3
    go_wp2_with fail
    refine (DropTimer_any _ _ _ _ _ _ hR5).mono ?_; rintro e w6 ⟨A6, c6, rfl, hF6, hb6⟩
    rw [H2.out, H3.out]
    have hR6 := hR5.below hb6
    have hg6 := hg5.below hb6
    have hbe := hbd.trans hb6
    clear hF6 hR5 hg5 hbd hb6
    go_wp2_with fail
    refine (TimersValid_any _ _ _ _ _ hR6).mono ?_; rintro e w7 ⟨rfl, hb7⟩; rw [HV.out]
    have hR7 := hR6.below hb7
    have hg7 := hg6.below hb7
    have hbf := hbe.trans hb7
    clear hR6 hg6 hbe hb7
    cases ok
    · have hxm := hlen.2 rfl
      subst hxm
      clear hlen
      go_wp2_with fail
      refine (sameTimers_any _ _ _ _ _ _ _ _ _ hR7 hg7).mono ?_; rintro e w8 ⟨rfl, hb8⟩; rw [(eqTms_iff _ _).2 rfl]
      clear hR7 hg7
      go_wp2
      go_ret
      exact ⟨rfl, hbf.trans hb8⟩
    · have hmn := hlen.1 rfl
      clear hlen hR7 hg7
      have he : ((m : Int) == (n : Int) - 1) = true := by rw [beq_iff_eq]; omega
      go_wp2
      go_ret
      exact ⟨rfl, hbf⟩
end Go.Proofs.Ythjbafafkaoomaa
