/-
  The law FnUnmapPage returns true at every input, and leaves all that was there as it was: the walk.
-/
import Derived.Test.YtcdmpnkcfopmbaaMpK
import Derived.Test.YtcdmpnkcfopmbaaMpS
import Derived.Test.YtcdmpnkcfopmbaaMpL
import Derived.Test.YtcdmpnkcfopmbaaMpF
import Derived.Test.YtcdmpnkcfopmbaaAlive
namespace Go.Proofs.Ytcdmpnkcfopmbaa
open Go.RowKit

set_option maxHeartbeats 2000000 in
theorem FnUnmapPage_walk (A : Option Addr) (n0 c : Nat) (code : List Int) (w : World) (h0 : Rd w 1 A n0 c (code.map (Value.int .u8))) (F0 : ∀ z ∈ code, (Lit.int .u8 z).wf = true) :
    Calls Try.prog 9 #[.slice A n0 c] w fun e w' => e = .returned (.bool true) ∧ Ext w w' := by
  obtain ⟨bs, hbs⟩ := bytes_of F0
  rw [hbs] at h0
  have hle := h0.le
  have htop := h0.top
  by_cases hn : 1048576 < n0
  · go_enter Try.func9, Try.ntmps9
    go_wp2
    go_ret
    exact ⟨rfl, Below.refl _ _⟩
  go_enter Try.func9, Try.ntmps9
  go_wp2_with fail
  refine (DrawUnmapPage_any _ _ _ _ _ h0).mono ?_; rintro e w1 ⟨A1, n, c1, ms, p, hp, rfl, hg, h22, hb1⟩
  obtain ⟨xs, hxs⟩ : ∃ xs, unmapR (p : Int) ms = xs := ⟨_, rfl⟩
  have HXS := Lib.hid hxs
  obtain ⟨ok, hok⟩ : ∃ b, (spValid ms && pThere (p : Int) ms) = b := ⟨_, rfl⟩
  have HOK := Lib.hid hok
  obtain ⟨m, hm⟩ : ∃ m, xs.length = m := ⟨_, rfl⟩
  have HM := Lib.hid hm
  go_wp2_with fail
  refine (UnmapPage_any _ _ _ _ _ _ hg).mono ?_; rintro e w2 ⟨A2, c2', rfl, hF2, hb2⟩
  rw [HXS.out, HM.out] at hF2 ⊢
  rw [HOK.out]
  clear hxs hok hm
  have hg2 := hg.below hb2
  go_wp2_with fail
  refine (specUnmapPage_any _ _ _ _ _ _ hg2).mono ?_; rintro e w3 ⟨A3, c3', rfl, hF3, hb3⟩
  rw [HXS.out, HM.out] at hF3 ⊢
  rw [HOK.out]
  have hR2 := hF2.rd'.2.below hb3
  have hR3 := hF3.rd'.2
  have hg3 := hg2.below hb3
  have hbb := (hb1.trans hb2).trans hb3
  have hkk : (ok != ok) = false := by cases ok <;> rfl
  go_wp2_with fail
  refine (sameSpace_any _ _ _ _ _ _ _ _ _ hR2 hR3).mono ?_; rintro e w4 ⟨rfl, hb4⟩; rw [(eqMs_iff _ _).2 rfl]
  have hR4 := hR2.below hb4
  have hg4 := hg3.below hb4
  have hbc := hbb.trans hb4
  clear hF2 hF3 hR2 hR3 hg hg2 hg3 hb1 hb2 hb3 hb4 hbb h0 hbs F0
  obtain ⟨t1, ht1⟩ : ∃ b, spValid ms = b := ⟨_, rfl⟩
  have HT := Lib.hid ht1
  go_wp2_with fail
  refine (specSpaceValid_any _ _ _ _ _ hg4).mono ?_; rintro e w5 ⟨rfl, hb5⟩; rw [HT.out]
  have hR5 := hR4.below hb5
  have hg5 := hg4.below hb5
  have hbd := hbc.trans hb5
  clear hR4 hg4 hbc hb5
  cases t1
  · have eok : ok = false := by rw [← HOK.out, ht1]; rfl
    have exs : xs = [] := by rw [← HXS.out]; unfold unmapR; rw [ht1]; rfl
    subst exs
    obtain rfl : m = 0 := HM.out.symm
    subst eok
    clear hR5 hg5 ht1
    go_wp2_with ((go_at_call 22; refine (alive_any _).mono ?_; rintro e w9 ⟨rfl, hb9⟩))
    go_ret
    exact ⟨rfl, hbd.trans hb9⟩
  · have exs : xs = unmapL (p : Int) ms := by rw [← HXS.out]; unfold unmapR; rw [ht1]; rfl
    have eok : ok = pThere (p : Int) ms := by rw [← HOK.out, ht1, Bool.true_and]
    obtain ⟨u1, u2, u3⟩ := unmap_again ht1 (p : Int)
    rw [← exs] at u1 u2 u3
    have e2 : unmapR (p : Int) xs = xs := by unfold unmapR; rw [u3, if_pos rfl]; exact unmapL_none u1
    have e3 : (spValid xs && pThere (p : Int) xs) = false := by rw [u1, Bool.and_false]
    have hn := hg5.len3
    have HV := Lib.hid u3
    have H2 := Lib.hid e2
    have H3 := Lib.hid e3
    have H4 := Lib.hid (u2 0)
    have hlen : (ok = true → m + 1 = n) ∧ (ok = false → xs = ms) := by
      refine ⟨fun h => ?_, fun h => ?_⟩
      · have := unmapL_one (ms := ms) (p := (p : Int)) (by rw [← eok, h])
        rw [← exs, HM.out] at this; omega
      · rw [exs]; exact unmapL_none (by rw [← eok, h])
    clear ht1 exs eok u1 u2 u3 e2 e3
    go_wp2_with fail
    refine (UnmapPage_any _ _ _ _ _ _ hR5).mono ?_; rintro e w6 ⟨A6, c6, rfl, hF6, hb6⟩
    rw [H2.out, H3.out]
    have hR6 := hR5.below hb6
    have hg6 := hg5.below hb6
    have hbe := hbd.trans hb6
    clear hF6 hR5 hg5 hbd hb6
    go_wp2_with fail
    refine (Translate_any _ _ _ _ _ _ _ hR6).mono ?_; rintro e w6b ⟨rfl, hb6b⟩; rw [H4.out]
    have hR6b := hR6.below hb6b
    have hg6b := hg6.below hb6b
    have hbe2 := hbe.trans hb6b
    clear hR6 hg6 hbe hb6b
    go_wp2_with fail
    refine (SpaceValid_any _ _ _ _ _ hR6b).mono ?_; rintro e w7 ⟨rfl, hb7⟩; rw [HV.out]
    have hR7 := hR6b.below hb7
    have hg7 := hg6b.below hb7
    have hbf := hbe2.trans hb7
    clear hR6b hg6b hbe2 hb7
    cases ok
    · have hxm := hlen.2 rfl
      subst hxm
      clear hlen
      go_wp2_with fail
      refine (sameSpace_any _ _ _ _ _ _ _ _ _ hR7 hg7).mono ?_; rintro e w8 ⟨rfl, hb8⟩; rw [(eqMs_iff _ _).2 rfl]
      clear hR7 hg7
      go_wp2
      go_ret
      exact ⟨rfl, hbf.trans hb8⟩
    · have hmn := hlen.1 rfl
      clear hlen hR7 hg7
      have he : ((m : Int) == (n : Int) - 1) = true := by rw [beq_iff_eq]; omega
      go_wp2
      go_ret
      exact ⟨rfl, hbf⟩
end Go.Proofs.Ytcdmpnkcfopmbaa
