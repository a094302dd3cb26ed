/-
  DrawSetTimer.
-/
import Derived.Test.YthjbafafkaoomaaTmG
namespace Go.Proofs.Ythjbafafkaoomaa
open Go.RowKit

set_option maxHeartbeats 2000000 in
theorem DrawSetTimer_any (A : Option Addr) (n c : Nat) (bs : List UInt8) (w : World) (h : Rd w 1 A n c (cU bs)) :
    Calls Try.prog 41 #[.slice A n c] w fun e w' => ∃ A' n' c' ms, ∃ t v : Int, e = .returned (.tuple #[.slice A' n' c', .int .i64 t, .int .i64 v]) ∧ Rd w' 2 A' n' c' (c2 ms) ∧ n' ≤ 19 ∧ (-1 ≤ t ∧ t ≤ 16) ∧ (-1 ≤ v ∧ v ≤ 100001) ∧ Ext w w' := by
  go_enter Try.func41, Try.ntmps41
  go_wp2_with fail
  refine (l20Open_any _ _ _ _ _ h).mono ?_; rintro e w1 ⟨rfl, hr, hb⟩
  have hs := hr.lt
  go_wp2_with fail
  refine (l20Timers_any _ _ _ _ _ hr (by omega) (by omega) (by omega) (by omega)).mono ?_; rintro e w2 ⟨A', n', c', ms, rfl, hA, h9, hr2, ht⟩
  have hb2 := ext_tch hb ht (fun k e => by subst e; exact Nat.le_refl _)
  obtain ⟨g, hg⟩ : ∃ g, w.heap.size = g := ⟨_, rfl⟩
  rw [hg] at hr hr2 ht ⊢
  go_wp2_with fail
  refine wp_region_draw (g := g) (B := g + 1) (100) 1 [.eq _ (Value.slice A' n' c'), .eq _ (Value.pointer (some ⟨g, 0, none⟩)), .rng _ (0) (16), .eq _ (Value.pointer (some ⟨g, 0, none⟩)), .rng _ (0) (13), .rng _ (0) (1), .rng _ (-1) (16), .eq _ (Value.pointer (some ⟨g, 0, none⟩)), .rng _ (0) (21), .lit _ 3 (-1) (100001), .lit _ 7 (0) (2), .eq _ (Value.pointer (some ⟨g, 0, none⟩)), .rng _ (0) (6), .adr _ (0) (2), .rng _ (0) (2), .adr _ (-1) (100001), .rng _ (-1) (100001), .eq _ (Value.slice A' n' c'), .rng _ (-1) (16), .rng _ (-1) (100001)] (by kernel_rfl) (by kernel_rfl) (by rfl) (hr2.more (by omega)) ?_ ?_
  · refine ⟨?_, ?_, ?_, ?_, ?_, ?_, ?_, ?_, ?_, ?_, ?_, ?_, ?_, ?_, ?_, ?_, ?_, ?_, ?_, ?_, trivial⟩
    · intro t a_ vs wt ht hI hD hA K hK
      have a6 : a_.tmps[6]?.getD undef = Value.slice A' n' c' := hA 6
      clear hA hD
      go_simp
      exact hK _ _ rfl (Tch.refl _ _) hI.stay
    · intro t a_ vs wt ht hI hD hA K hK
      have a5 : a_.tmps[5]?.getD undef = Value.pointer (some ⟨g, 0, none⟩) := hA 5
      clear hA hD
      go_simp
      exact hK _ _ rfl (Tch.refl _ _) hI.stay
    · intro t a_ vs wt ht hI hD hA K hK
      have d1 : vs 1 = Value.pointer (some ⟨g, 0, none⟩) := hD 1 rfl
      have a12 : a_.tmps[12]?.getD undef = vs 1 := hA 12
      rw [d1] at a12
      clear hA hD
      go_simp
      refine (pickT _ _ _ _ _ hI.rd (by omega) (by omega) (by have : t < 20 := ht; omega)).mono ?_; rintro e w2 ⟨k, hk, rfl, hr, hT⟩
      exact hK _ _ ⟨_, rfl, by omega, by omega⟩ hT (hI.call hr (by omega) hT)
    · intro t a_ vs wt ht hI hD hA K hK
      have a5 : a_.tmps[5]?.getD undef = Value.pointer (some ⟨g, 0, none⟩) := hA 5
      clear hA hD
      go_simp
      exact hK _ _ rfl (Tch.refl _ _) hI.stay
    · intro t a_ vs wt ht hI hD hA K hK
      have d3 : vs 3 = Value.pointer (some ⟨g, 0, none⟩) := hD 3 rfl
      have a14 : a_.tmps[14]?.getD undef = vs 3 := hA 14
      rw [d3] at a14
      clear hA hD
      go_simp
      refine (pickT _ _ _ _ _ hI.rd (by omega) (by omega) (by have : t < 20 := ht; omega)).mono ?_; rintro e w2 ⟨k, hk, rfl, hr, hT⟩
      exact hK _ _ ⟨_, rfl, by omega, by omega⟩ hT (hI.call hr (by omega) hT)
    · intro t a_ vs wt ht hI hD hA K hK
      obtain ⟨x4, d4, l4, u4⟩ := hD 4 rfl
      have a15 : a_.tmps[15]?.getD undef = vs 4 := hA 15
      rw [d4] at a15
      clear hA hD
      have ew : IntKind.i64.wrap (x4.tdiv 13) = x4 / 13 := by rw [Int.tdiv_eq_ediv_of_nonneg (by omega), IntKind.wrap_i64]; omega
      go_simp
      exact hK _ _ ⟨_, rfl, by omega, by omega⟩ (Tch.refl _ _) hI.stay
    · intro t a_ vs wt ht hI hD hA K hK
      obtain ⟨x2, d2, l2, u2⟩ := hD 2 rfl
      have a13 : a_.tmps[13]?.getD undef = vs 2 := hA 13
      rw [d2] at a13
      obtain ⟨x5, d5, l5, u5⟩ := hD 5 rfl
      have a16 : a_.tmps[16]?.getD undef = vs 5 := hA 16
      rw [d5] at a16
      clear hA hD
      have ew : IntKind.i64.wrap (x2 - x5) = x2 - x5 := by rw [IntKind.wrap_i64]; omega
      go_simp
      exact hK _ _ ⟨_, rfl, by omega, by omega⟩ (Tch.refl _ _) hI.stay
    · intro t a_ vs wt ht hI hD hA K hK
      have a5 : a_.tmps[5]?.getD undef = Value.pointer (some ⟨g, 0, none⟩) := hA 5
      clear hA hD
      go_simp
      exact hK _ _ rfl (Tch.refl _ _) hI.stay
    · intro t a_ vs wt ht hI hD hA K hK
      have d7 : vs 7 = Value.pointer (some ⟨g, 0, none⟩) := hD 7 rfl
      have a18 : a_.tmps[18]?.getD undef = vs 7 := hA 18
      rw [d7] at a18
      clear hA hD
      go_simp
      refine (pickT _ _ _ _ _ hI.rd (by omega) (by omega) (by have : t < 20 := ht; omega)).mono ?_; rintro e w2 ⟨k, hk, rfl, hr, hT⟩
      exact hK _ _ ⟨_, rfl, by omega, by omega⟩ hT (hI.call hr (by omega) hT)
    · intro t a_ vs wt ht hI hD hA K hK
      obtain ⟨x8, d8, l8, u8⟩ := hD 8 rfl
      have a19 : a_.tmps[19]?.getD undef = vs 8 := hA 19
      rw [d8] at a19
      clear hA hD
      have hc := fun e => lit_all (w := wt) (e := e) (lo := -1) (hi := 100001) [(x8), (-1), (100001)] (by simp only [List.mem_cons, List.not_mem_nil, or_false]; omega) rfl
      go_simp
      exact hK _ _ ⟨_, rfl, hI.ne, hc _⟩ (tch_alloc _ _ _) (hI.alloc _)
    · intro t a_ vs wt ht hI hD hA K hK
      clear hA hD
      have hc := fun e => lit_all (w := wt) (e := e) (lo := 0) (hi := 2) [(0), (0), (0), (0), (0), (1), (2)] (by simp only [List.mem_cons, List.not_mem_nil, or_false]; omega) rfl
      go_simp
      exact hK _ _ ⟨_, rfl, hI.ne, hc _⟩ (tch_alloc _ _ _) (hI.alloc _)
    · intro t a_ vs wt ht hI hD hA K hK
      have a5 : a_.tmps[5]?.getD undef = Value.pointer (some ⟨g, 0, none⟩) := hA 5
      clear hA hD
      go_simp
      exact hK _ _ rfl (Tch.refl _ _) hI.stay
    · intro t a_ vs wt ht hI hD hA K hK
      have d11 : vs 11 = Value.pointer (some ⟨g, 0, none⟩) := hD 11 rfl
      have a22 : a_.tmps[22]?.getD undef = vs 11 := hA 22
      rw [d11] at a22
      clear hA hD
      go_simp
      refine (pickT _ _ _ _ _ hI.rd (by omega) (by omega) (by have : t < 20 := ht; omega)).mono ?_; rintro e w2 ⟨k, hk, rfl, hr, hT⟩
      exact hK _ _ ⟨_, rfl, by omega, by omega⟩ hT (hI.call hr (by omega) hT)
    · intro t a_ vs wt ht hI hD hA K hK
      obtain ⟨b10, d10, n10, c10⟩ := hD 10 rfl
      have a21 : a_.tmps[21]?.getD undef = vs 10 := hA 21
      rw [d10] at a21
      obtain ⟨x12, d12, l12, u12⟩ := hD 12 rfl
      have a23 : a_.tmps[23]?.getD undef = vs 12 := hA 23
      rw [d12] at a23
      clear hA hD
      have z0 : 0 ≤ x12 := by omega
      have z1 : x12 < 7 := by omega
      obtain ⟨y, hy, cy⟩ := c10 (x12).toNat (by omega)
      go_simp
      exact hK _ _ ⟨_, _, rfl, n10, y, hy, cy⟩ (Tch.refl _ _) hI.stay
    · intro t a_ vs wt ht hI hD hA K hK
      obtain ⟨b13, i13, d13, n13, y13, q13, c13⟩ := hD 13 rfl
      have a24 : a_.tmps[24]?.getD undef = vs 13 := hA 24
      rw [d13] at a24
      clear hA hD
      go_simp
      exact hK _ _ ⟨_, rfl, q13.1, q13.2⟩ (Tch.refl _ _) hI.stay
    · intro t a_ vs wt ht hI hD hA K hK
      obtain ⟨b9, d9, n9, c9⟩ := hD 9 rfl
      have a20 : a_.tmps[20]?.getD undef = vs 9 := hA 20
      rw [d9] at a20
      obtain ⟨x14, d14, l14, u14⟩ := hD 14 rfl
      have a25 : a_.tmps[25]?.getD undef = vs 14 := hA 25
      rw [d14] at a25
      clear hA hD
      have z0 : 0 ≤ x14 := by omega
      have z1 : x14 < 3 := by omega
      obtain ⟨y, hy, cy⟩ := c9 (x14).toNat (by omega)
      go_simp
      exact hK _ _ ⟨_, _, rfl, n9, y, hy, cy⟩ (Tch.refl _ _) hI.stay
    · intro t a_ vs wt ht hI hD hA K hK
      obtain ⟨b15, i15, d15, n15, y15, q15, c15⟩ := hD 15 rfl
      have a26 : a_.tmps[26]?.getD undef = vs 15 := hA 26
      rw [d15] at a26
      clear hA hD
      go_simp
      exact hK _ _ ⟨_, rfl, q15.1, q15.2⟩ (Tch.refl _ _) hI.stay
    · intro t a_ vs wt ht hI hD hA K hK
      have d := hD 0 rfl
      have a11 : a_.tmps[11]?.getD undef = vs 0 := hA 11
      clear hA hD
      go_simp
      exact hK _ _ d (Tch.refl _ _) hI.stay
    · intro t a_ vs wt ht hI hD hA K hK
      have d := hD 6 rfl
      have a17 : a_.tmps[17]?.getD undef = vs 6 := hA 17
      clear hA hD
      go_simp
      exact hK _ _ d (Tch.refl _ _) hI.stay
    · intro t a_ vs wt ht hI hD hA K hK
      have d := hD 16 rfl
      have a27 : a_.tmps[27]?.getD undef = vs 16 := hA 27
      clear hA hD
      go_simp
      exact hK _ _ d (Tch.refl _ _) hI.stay
  · intro vs wz hrz hTz hF
    obtain ⟨f0, f1, f2, f3, f4, f5, f6, f7, f8, f9, f10, f11, f12, f13, f14, f15, f16, f17, f18, f19, -⟩ := hF
    simp only [putAll, Act.put, List.setIfInBounds_toArray, List.set_cons_zero, List.set_cons_succ]
    obtain ⟨x, hx, hx0, hx1⟩ := f18
    obtain ⟨y, hy, hy0, hy1⟩ := f19
    rw [show vs 17 = _ from f17, hx, hy]
    go_wp2
    (try simp only [Exit.inBlock, Exit.then]); refine bodyPost_ret (results_tmp3 rfl _ _ _) rfl ?_
    exact ⟨_, _, _, _, _, _, rfl, (hA.pastT hTz (fun k e => by omega)).rd'.2, h9, ⟨by omega, by omega⟩, ⟨by omega, by omega⟩, ext_tch hb2 hTz (fun k e => by subst e; omega)⟩
end Go.Proofs.Ythjbafafkaoomaa
