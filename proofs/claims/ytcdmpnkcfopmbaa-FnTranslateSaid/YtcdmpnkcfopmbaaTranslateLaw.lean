/-
  The law FnTranslate returns true at every input, and leaves all that was there as it was: the walk.
-/
import Derived.Test.YtcdmpnkcfopmbaaMpT
import Derived.Test.YtcdmpnkcfopmbaaMpS
import Derived.Test.YtcdmpnkcfopmbaaMpL
import Derived.Test.YtcdmpnkcfopmbaaAlive
namespace Go.Proofs.Ytcdmpnkcfopmbaa
open Go.RowKit

set_option maxHeartbeats 2000000 in
theorem FnTranslate_walk (A : Option Addr) (n0 c : Nat) (code : List Int) (w : World) (h0 : Rd w 1 A n0 c (code.map (Value.int .u8))) (F0 : ∀ z ∈ code, (Lit.int .u8 z).wf = true) :
    Calls Try.prog 8 #[.slice A n0 c] w fun e w' => e = .returned (.bool true) ∧ Ext w w' := by
  obtain ⟨bs, hbs⟩ := bytes_of F0
  rw [hbs] at h0
  have hle := h0.le
  have htop := h0.top
  by_cases hn : 1048576 < n0
  · go_enter Try.func8, Try.ntmps8
    go_wp2
    go_ret
    exact ⟨rfl, Below.refl _ _⟩
  go_enter Try.func8, Try.ntmps8
  go_wp2_with fail
  refine (DrawTranslate_any _ _ _ _ _ h0).mono ?_; rintro e w1 ⟨A1, n, c1, ms, a, r, rfl, hg, h22, ha, hr, hb1⟩
  obtain ⟨z, hz⟩ : ∃ z, trOf ms a r = z := ⟨_, rfl⟩
  have HZ := Lib.hid hz
  go_wp2_with fail
  refine (Translate_any _ _ _ _ _ _ _ hg).mono ?_; rintro e w2 ⟨rfl, hb2⟩; rw [HZ.out]
  have hg2 := hg.below hb2
  go_wp2_with fail
  refine (specTranslate_any _ _ _ _ _ _ _ hg2).mono ?_; rintro e w3 ⟨rfl, hb3⟩; rw [HZ.out]
  have hg3 := hg2.below hb3
  have hbb := (hb1.trans hb2).trans hb3
  clear hg hg2 hb1 hb2 hb3 h0 F0 hbs
  by_cases h : 0 ≤ z
  · obtain ⟨ha', hzt, e1, e2, e3⟩ := tr_same (ms := ms) (a := a) (r := r) (by rw [hz]; exact h)
    rw [hz] at hzt e1 e2 e3
    have E2 := Lib.hid e2
    have E3 := Lib.hid e3
    clear hz e2 e3 ha
    obtain ⟨ha0, ha1⟩ := ha'
    go_wp2_with fail
    refine (Translate_any _ _ _ _ _ _ _ hg3).mono ?_; rintro e w4 ⟨rfl, hb4⟩; rw [E2.out]
    have hg4 := hg3.below hb4
    go_wp2_with fail
    refine (Translate_any _ _ _ _ _ _ _ hg4).mono ?_; rintro e w5 ⟨rfl, hb5⟩; rw [E3.out]
    clear hg3 hg4
    go_wp2
    go_ret
    exact ⟨rfl, (hbb.trans hb4).trans hb5⟩
  · have hn1 := tr_neg (ms := ms) (a := a) (r := r) (by rw [hz]; exact h)
    rw [hz] at hn1
    subst hn1
    clear hg3 hz HZ
    go_wp2_with ((go_at_call 22; refine (alive_any _).mono ?_; rintro e w9 ⟨rfl, hb9⟩))
    go_ret
    exact ⟨rfl, hbb.trans hb9⟩
end Go.Proofs.Ytcdmpnkcfopmbaa
