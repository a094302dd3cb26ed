/-
  The law FnGraphWithin returns true at every input, and leaves all that was there as it was: the walk.
-/
import Derived.Test.YtggapldcfpbcbaaDrX
import Derived.Test.YtggapldcfpbcbaaClA
import Derived.Test.YtggapldcfpbcbaaAlive
namespace Go.Proofs.Ytggapldcfpbcbaa
open Go.RowKit

theorem within_self (g : List (List Int)) : gWithin g g = gValid g := by
  cases hv : gValid g with
  | false => unfold gWithin; rw [hv]; rfl
  | true =>
    obtain ⟨n, m, ht, hnm, h6, hm, _⟩ := tab_of_valid hv
    exact (within_sub ht ht hnm h6 hm).2 (sub_refl ht)
theorem within_anti {a b : List (List Int)} (h1 : gWithin a b = true) (h2 : gWithin b a = true) : a = b := by
  have h := h1
  unfold gWithin at h
  simp only [Bool.and_eq_true, decide_eq_true_eq] at h
  obtain ⟨⟨⟨va, vb⟩, hl⟩, hr⟩ := h
  obtain ⟨n, m, ht, hnm, h6, hm, _⟩ := tab_of_valid va
  obtain ⟨n', m', ht', _, _, _, _⟩ := tab_of_valid vb
  obtain rfl : n' = n := by rw [← ht.len, ← ht'.len, hl]
  by_cases h0 : n' = 0
  · subst h0
    rw [List.eq_nil_of_length_eq_zero ht.len, List.eq_nil_of_length_eq_zero ht'.len]
  · obtain ⟨x, hx, hxl⟩ := ht.at (i := 0) (by omega)
    obtain ⟨y, hy, hyl⟩ := ht'.at (i := 0) (by omega)
    have h3 := (all2_iff hl).1 hr 0 x y hx hy
    unfold rowW at h3
    simp only [Bool.and_eq_true, decide_eq_true_eq] at h3
    obtain rfl : m = m' := by rw [← hxl, ← hyl]; exact h3.1
    exact sub_anti ht ht' ((within_sub ht ht' hnm h6 hm).1 h1) ((within_sub ht' ht hnm h6 hm).1 h2)

set_option maxHeartbeats 400000 in
theorem FnGraphWithin_walk (A : Option Addr) (n c : Nat) (code : List Int) (w : World) (h0 : Rd w 1 A n c (code.map (Value.int .u8))) (F0 : ∀ z ∈ code, (Lit.int .u8 z).wf = true) :
    Calls Try.prog 7 #[.slice A n c] w fun e w' => e = .returned (.bool true) ∧ Ext w w' := by
  obtain ⟨bs, hbs⟩ := bytes_of F0
  rw [hbs] at h0
  have hle := h0.le
  have htop := h0.top
  by_cases hn : 1048576 < n
  · go_enter Try.func7, Try.ntmps7
    go_wp2
    go_ret
    exact ⟨rfl, Below.refl _ _⟩
  go_enter Try.func7, Try.ntmps7
  go_wp2_with fail
  refine (DrawGraphWithin_any _ _ _ _ _ h0).mono ?_; rintro e w1 ⟨A1, n1, c1, a, A2, n2, c2, b, rfl, ha, hb, hx1⟩
  go_wp2_with fail
  refine (GraphWithin_any _ _ _ _ _ _ _ _ _ ha hb).mono ?_; rintro e w2 ⟨rfl, hx2⟩
  obtain ⟨t, ht⟩ : ∃ t, gWithin a b = t := ⟨_, rfl⟩
  rw [ht]
  go_wp2_with fail
  refine (specGraphWithin_any _ _ _ _ _ _ _ _ _ (ha.below hx2) (hb.below hx2)).mono ?_; rintro e w3 ⟨rfl, hx3⟩; rw [ht]
  have ha3 := ha.below (hx2.trans hx3)
  have hb3 := hb.below (hx2.trans hx3)
  have hx := hx1.trans (hx2.trans hx3)
  have HT := Lib.hid ht
  clear ha hb hx1 hx2 hx3 ht
  have htt : (t != t) = false := by cases t <;> rfl
  go_wp2_with fail
  refine (GraphWithin_any _ _ _ _ _ _ _ _ _ ha3 ha3).mono ?_; rintro e w4 ⟨rfl, hx4⟩; rw [within_self]
  obtain ⟨v, hv⟩ : ∃ v, gValid a = v := ⟨_, rfl⟩
  rw [hv]
  go_wp2_with fail
  refine (GraphValid_any _ _ _ _ _ (ha3.below hx4)).mono ?_; rintro e w5 ⟨rfl, hx5⟩; rw [hv]
  have hvv : (v == v) = true := by cases v <;> rfl
  have ha5 := ha3.below (hx4.trans hx5)
  have hb5 := hb3.below (hx4.trans hx5)
  have hy := hx.trans (hx4.trans hx5)
  clear ha3 hb3 hx hx4 hx5 hv
  cases t
  · go_wp2_with ((go_at_call 23; refine (alive_any _).mono ?_; rintro e w6 ⟨rfl, hx6⟩))
    go_ret
    exact ⟨rfl, hy.trans hx6⟩
  · go_wp2_with fail
    refine (GraphWithin_any _ _ _ _ _ _ _ _ _ hb5 ha5).mono ?_; rintro e w6 ⟨rfl, hx6⟩
    obtain ⟨s, hs⟩ : ∃ s, gWithin b a = s := ⟨_, rfl⟩
    rw [hs]
    have HS := Lib.hid hs
    clear hs
    cases s
    · go_wp2_with ((go_at_call 23; refine (alive_any _).mono ?_; rintro e w7 ⟨rfl, hx7⟩))
      go_ret
      exact ⟨rfl, hy.trans (hx6.trans hx7)⟩
    · go_wp2_with fail
      refine (sameRows_any _ _ _ _ _ _ _ _ _ (ha5.below hx6) (hb5.below hx6)).mono ?_; rintro e w7 ⟨rfl, hx7⟩; rw [(eqRs_iff _ _).2 (within_anti HT.out HS.out)]
      go_wp2_with ((go_at_call 23; refine (alive_any _).mono ?_; rintro e w8 ⟨rfl, hx8⟩))
      go_ret
      exact ⟨rfl, hy.trans (hx6.trans (hx7.trans hx8))⟩
end Go.Proofs.Ytggapldcfpbcbaa
