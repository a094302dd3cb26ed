/-
  The law FnSpaceOrder returns true at every input, and leaves all that was there as it was: the walk.
-/
import Derived.Test.YtcdmpnkcfopmbaaMapPageLaw
namespace Go.Proofs.Ytcdmpnkcfopmbaa
open Go.RowKit

set_option maxHeartbeats 4000000 in
theorem FnSpaceOrder_walk (A : Option Addr) (n0 c : Nat) (code : List Int) (A' : Option Addr) (n0' c' : Nat) (more : List Int) (w : World) (h0 : Rd w 1 A n0 c (code.map (Value.int .u8))) (F0 : ∀ z ∈ code, (Lit.int .u8 z).wf = true)
    (h0' : Rd w 1 A' n0' c' (more.map (Value.int .u8))) (F0' : ∀ z ∈ more, (Lit.int .u8 z).wf = true) :
    Calls Try.prog 12 #[.slice A n0 c, .slice A' n0' c'] w fun e w' => e = .returned (.bool true) ∧ Ext w w' := by
  obtain ⟨bs, hbs⟩ := bytes_of F0
  obtain ⟨bs', hbs'⟩ := bytes_of F0'
  rw [hbs] at h0
  rw [hbs'] at h0'
  have hle := h0.le
  have htop := h0.top
  have hle' := h0'.le
  have htop' := h0'.top
  by_cases hn : 1048576 < n0
  · go_enter Try.func12, Try.ntmps12
    go_wp2
    all_goals go_ret
    all_goals exact ⟨rfl, Below.refl _ _⟩
  by_cases hn' : 1048576 < n0'
  · go_enter Try.func12, Try.ntmps12
    go_wp2
    all_goals go_ret
    all_goals exact ⟨rfl, Below.refl _ _⟩
  go_enter Try.func12, Try.ntmps12
  go_wp2_with fail
  refine (DrawMapPage_any _ _ _ _ _ h0).mono ?_; rintro e w1 ⟨A1, n, c1, ms, page, k, o, r, b, u, rfl, hg, h22, hb1⟩
  have hal : Ext w1 (w1.alloc (.cells #[.int .i64 k, .int .i64 o, .int .i64 r, .int .i64 b] 53)) := (Below.refl _ _).alloc (Nat.le_refl _) _
  have hgV := hg.below hal
  have hbV := hb1.trans hal
  have CV := CapAt.new w1 53 k o r b
  have hV' := h0'.below hbV
  clear hg hb1 hal h0 F0 hbs h0'
  go_wp2_with fail
  refine (DrawMapPage_any _ _ _ _ _ hV').mono ?_; rintro e w2 ⟨A2, n2, c2, ms2, page2, k2, o2, r2, b2, u2, rfl, hg2, _, hb2⟩
  have hal2 : Ext w2 (w2.alloc (.cells #[.int .i64 k2, .int .i64 o2, .int .i64 r2, .int .i64 b2] 53)) := (Below.refl _ _).alloc (Nat.le_refl _) _
  have hbW := hb2.trans hal2
  have hgW := hgV.below hbW
  have CW := CV.below hbW
  have DW := CapAt.new w2 53 k2 o2 r2 b2
  obtain ⟨q0, q1, q2, q3⟩ := CV.below hbW
  have hne12 : w1.heap.size ≠ w2.heap.size := by have := hb2.size; simp at this; omega
  have hbb := hbV.trans hbW
  obtain ⟨xs, ok, hp⟩ : ∃ xs ok, mapR page k o r b u ms = (xs, ok) := ⟨_, _, rfl⟩
  have HP := Lib.hid hp
  obtain ⟨m, hm⟩ : ∃ m, xs.length = m := ⟨_, rfl⟩
  have HM := Lib.hid hm
  clear hg2 hb2 hal2 hV' F0' hbs' hm hp hbV hbW hgV CV
  go_wp2_with fail
  refine (MapPage_any _ _ _ _ _ _ _ _ _ _ _ hgW).mono ?_; rintro e w3 ⟨A3, c3', rfl, hF3, hb3⟩
  rw [HP.out] at hF3 ⊢
  simp only at hF3 ⊢
  rw [HM.out] at hF3 ⊢
  have hg3 := hgW.below hb3
  have C3 := CW.below hb3
  have D3 := DW.below hb3
  have hbc := hbb.trans hb3
  clear q0 q1 q2 q3 CW DW hgW hbb
  obtain ⟨q0, q1, q2, q3⟩ := id C3
  go_wp2_with fail
  refine (specMapPage_any _ _ _ _ _ _ _ _ _ _ _ hg3).mono ?_; rintro e w4 ⟨A4, c4', rfl, hF4, hb4⟩
  rw [HP.out] at hF4 ⊢
  simp only at hF4 ⊢
  rw [HM.out] at hF4 ⊢
  have hR3 := hF3.rd'.2.below hb4
  have hR4 := hF4.rd'.2
  have hg4 := hg3.below hb4
  have C4 := C3.below hb4
  have D4 := D3.below hb4
  have hbd := hbc.trans hb4
  have hkk : (ok != ok) = false := by cases ok <;> rfl
  clear q0 q1 q2 q3 hF3 hF4 hg3 hb3 hb4 C3 D3 hbc
  go_wp2_with fail
  refine (sameSpace_any _ _ _ _ _ _ _ _ _ hR3 hR4).mono ?_; rintro e w5 ⟨rfl, hb5⟩; rw [(eqMs_iff _ _).2 rfl]
  have hR5 := hR3.below hb5
  have hg5 := hg4.below hb5
  have C5 := C4.below hb5
  have D5 := D4.below hb5
  have hbe := hbd.trans hb5
  clear hR3 hR4 hg4 hb5 C4 D4 hbd
  obtain ⟨ys, good, hq⟩ : ∃ ys good, mapR page2 k2 o2 r2 b2 u2 xs = (ys, good) := ⟨_, _, rfl⟩
  have HQ := Lib.hid hq
  obtain ⟨l, hl⟩ : ∃ m, ys.length = m := ⟨_, rfl⟩
  have HL := Lib.hid hl
  clear hq hl
  obtain ⟨q0, q1, q2, q3⟩ := id D5
  go_wp2_with fail
  refine (MapPage_any _ _ _ _ _ _ _ _ _ _ _ hR5).mono ?_; rintro e w6 ⟨A6, c6, rfl, hF6, hb6⟩
  rw [HQ.out] at hF6 ⊢
  simp only at hF6 ⊢
  rw [HL.out] at hF6 ⊢
  have hS6 := hF6.rd'.2
  have hg6 := hg5.below hb6
  have C6 := C5.below hb6
  have D6 := D5.below hb6
  have hbf := hbe.trans hb6
  clear q0 q1 q2 q3 hR5 hF6 hg5 hb6 C5 D5 hbe
  cases ok
  · clear hS6 hg6 C6 D6
    go_wp2_with ((go_at_call 22; refine (alive_any _).mono ?_; rintro e w9 ⟨rfl, hb9⟩))
    go_ret
    exact ⟨rfl, hbf.trans hb9⟩
  cases good
  · clear hS6 hg6 C6 D6
    go_wp2_with ((go_at_call 22; refine (alive_any _).mono ?_; rintro e w9 ⟨rfl, hb9⟩))
    go_ret
    exact ⟨rfl, hbf.trans hb9⟩
  have hord := map_order (ms := ms) (p1 := page) (k1 := k) (o1 := o) (r1 := r) (b1 := b) (u1 := u) (p2 := page2) (k2 := k2) (o2 := o2) (r2 := r2) (b2 := b2) (u2 := u2) (by rw [HP.out]) (by rw [HP.out]; simp only; rw [HQ.out])
  rw [HP.out] at hord
  simp only at hord
  rw [HQ.out] at hord
  obtain ⟨ho1, ho2⟩ := hord
  obtain ⟨zs, hz⟩ : ∃ zs, mapR page2 k2 o2 r2 b2 u2 ms = (zs, true) := ⟨(mapR page2 k2 o2 r2 b2 u2 ms).1, by rw [← ho1]⟩
  rw [hz] at ho2
  simp only at ho2
  have HZ := Lib.hid hz
  have HO := Lib.hid ho2
  obtain ⟨j, hj⟩ : ∃ m, zs.length = m := ⟨_, rfl⟩
  have HJ := Lib.hid hj
  clear ho1 ho2 hz hj
  obtain ⟨q0, q1, q2, q3⟩ := id D6
  go_wp2_with fail
  refine (MapPage_any _ _ _ _ _ _ _ _ _ _ _ hg6).mono ?_; rintro e w7 ⟨A7, c7, rfl, hF7, hb7⟩
  rw [HZ.out] at hF7 ⊢
  simp only at hF7 ⊢
  rw [HJ.out] at hF7 ⊢
  have hT7 := hF7.rd'.2
  have hS7 := hS6.below hb7
  have C7 := C6.below hb7
  have hbg := hbf.trans hb7
  clear q0 q1 q2 q3 hg6 hF7 hb7 C6 D6 hS6 hbf
  obtain ⟨q0, q1, q2, q3⟩ := id C7
  go_wp2_with fail
  refine (MapPage_any _ _ _ _ _ _ _ _ _ _ _ hT7).mono ?_; rintro e w8 ⟨A8, c8, rfl, hF8, hb8⟩
  rw [HO.out] at hF8 ⊢
  simp only at hF8 ⊢
  rw [HL.out] at hF8 ⊢
  have hT8 := hF8.rd'.2
  have hS8 := hS7.below hb8
  have hbh := hbg.trans hb8
  clear q0 q1 q2 q3 hF8 hb8 C7 hS7 hT7 hbg
  go_wp2_with fail
  refine (sameSpace_any _ _ _ _ _ _ _ _ _ hS8 hT8).mono ?_; rintro e w9 ⟨rfl, hb9⟩; rw [(eqMs_iff _ _).2 rfl]
  clear hS8 hT8
  go_wp2
  go_ret
  exact ⟨rfl, hbh.trans hb9⟩
end Go.Proofs.Ytcdmpnkcfopmbaa
