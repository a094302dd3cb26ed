/-
  What the reference draws for lending time.
-/
import Derived.Test.YtbpkclhpjelelaaTiD
import Derived.Test.YtbpkclhpjelelaaTiL
import Derived.Test.YtbpkclhpjelelaaDrO
namespace Go.Proofs.Ytbpkclhpjelelaa
open Go.RowKit

set_option maxHeartbeats 1000000 in
theorem DrawLendTime_any (A : Option Addr) (n c : Nat) (bs : List UInt8) (w : World) (h : Rd w 1 A n c (cU bs)) :
    Calls Try.prog 25 #[.slice A n c] w fun e w' => ∃ A' n' c' xs a b x, e = .returned (.tuple #[.slice A' n' c', .int .i64 a, .int .i64 b, .int .i64 x]) ∧ Rd w' 1 A' n' c' (cI xs) ∧ 1 ≤ n' ∧ n' ≤ 9 ∧ x ≤ 9223372036854775807 ∧ Ext w w' := by
  go_enter Try.func25, Try.ntmps25
  go_wp2_with fail
  refine (l20Open_any _ _ _ _ _ h).mono ?_; rintro e w1 ⟨rfl, hr, hb⟩
  have hs := hr.lt
  go_wp2_with fail
  refine (l20Times_any _ _ _ _ _ hr (by omega) (by omega) (by omega) (by omega)).mono ?_; rintro e w2 ⟨A', n', c', xs, rfl, hA, hf, h1, h9, hr2, ht⟩
  have hb2 := ext_tch hb ht (fun k e => by subst e; exact Nat.le_refl _)
  obtain ⟨g, hg⟩ : ∃ g, w.heap.size = g := ⟨_, rfl⟩
  rw [hg] at hr hr2 ht ⊢
  go_wp2_with fail
  refine (pickT _ _ _ _ _ hr2 (by omega) (by omega) (by omega)).mono ?_; rintro e w3 ⟨a1, ha1, rfl, hr3, ht3⟩
  go_wp2_with fail
  refine (pickT _ _ _ _ _ hr3 (by omega) (by omega) (by omega)).mono ?_; rintro e w4 ⟨a2, ha2, rfl, hr4, ht4⟩
  go_wp2_with fail
  refine (pickT _ _ _ _ _ hr4 (by omega) (by omega) (by omega)).mono ?_; rintro e w5 ⟨b1, hb1, rfl, hr5, ht5⟩
  go_wp2_with fail
  refine (pickT _ _ _ _ _ hr5 (by omega) (by omega) (by omega)).mono ?_; rintro e w6 ⟨b2, hbb2, rfl, hr6, ht6⟩
  obtain ⟨a, hea⟩ : ∃ a : Int, (a1 : Int) - (a2 : Int) / 13 = a := ⟨_, rfl⟩
  obtain ⟨b, heb⟩ : ∃ a : Int, (b1 : Int) - (b2 : Int) / 13 = a := ⟨_, rfl⟩
  go_wp2_with fail
  refine wp_region_draw (g := g) (B := g + 1) (104) 1 [.eq _ (Value.slice A' n' c'), .eq _ (Value.int .i64 a), .eq _ (Value.int .i64 b), .eq _ (Value.pointer (some ⟨g, 0, none⟩)), .rng _ (0) (59), .lit _ 3 (-1) (9223372036854775807), .lit _ 7 (0) (2), .eq _ (Value.pointer (some ⟨g, 0, none⟩)), .rng _ (0) (6), .adr _ (0) (2), .rng _ (0) (2), .adr _ (-1) (9223372036854775807), .rng _ (-1) (9223372036854775807), .eq _ (Value.slice A' n' c'), .eq _ (Value.int .i64 a), .eq _ (Value.int .i64 b), .rng _ (-1) (9223372036854775807)] (by kernel_rfl) (by kernel_rfl) (by rfl) (hr6.more (by omega)) ?_ ?_
  · refine ⟨?_, ?_, ?_, ?_, ?_, ?_, ?_, ?_, ?_, ?_, ?_, ?_, ?_, ?_, ?_, ?_, ?_, trivial⟩
    · intro t a_ vs wt ht hI hD hA K hK
      have a7 : a_.tmps[7]?.getD undef = Value.slice A' n' c' := hA 7
      clear hA hD
      go_simp
      exact hK _ _ rfl (Tch.refl _ _) hI.stay
    · intro t a_ vs wt ht hI hD hA K hK
      have a8 : a_.tmps[8]?.getD undef = Value.int .i64 a := hA 8
      clear hA hD
      go_simp
      exact hK _ _ rfl (Tch.refl _ _) hI.stay
    · intro t a_ vs wt ht hI hD hA K hK
      have a9 : a_.tmps[9]?.getD undef = Value.int .i64 b := hA 9
      clear hA hD
      go_simp
      exact hK _ _ rfl (Tch.refl _ _) hI.stay
    · intro t a_ vs wt ht hI hD hA K hK
      have a6 : a_.tmps[6]?.getD undef = Value.pointer (some ⟨g, 0, none⟩) := hA 6
      clear hA hD
      go_simp
      exact hK _ _ rfl (Tch.refl _ _) hI.stay
    · intro t a_ vs wt ht hI hD hA K hK
      have d3 : vs 3 = Value.pointer (some ⟨g, 0, none⟩) := hD 3 rfl
      have a35 : a_.tmps[35]?.getD undef = vs 3 := hA 35
      rw [d3] at a35
      clear hA hD
      go_simp
      refine (pickT _ _ _ _ _ hI.rd (by omega) (by omega) (by have : t < 17 := ht; omega)).mono ?_; rintro e w2 ⟨k, hk, rfl, hr, hT⟩
      exact hK _ _ ⟨_, rfl, by omega, by omega⟩ hT (hI.call hr (by omega) hT)
    · intro t a_ vs wt ht hI hD hA K hK
      obtain ⟨x4, d4, l4, u4⟩ := hD 4 rfl
      have a36 : a_.tmps[36]?.getD undef = vs 4 := hA 36
      rw [d4] at a36
      clear hA hD
      have hc := fun e => lit_all (w := wt) (e := e) (lo := -1) (hi := 9223372036854775807) [(x4), (-1), (9223372036854775807)] (by simp only [List.mem_cons, List.not_mem_nil, or_false]; omega) rfl
      go_simp
      exact hK _ _ ⟨_, rfl, hI.ne, hc _⟩ (tch_alloc _ _ _) (hI.alloc _)
    · intro t a_ vs wt ht hI hD hA K hK
      clear hA hD
      have hc := fun e => lit_all (w := wt) (e := e) (lo := 0) (hi := 2) [(0), (0), (0), (0), (0), (1), (2)] (by simp only [List.mem_cons, List.not_mem_nil, or_false]; omega) rfl
      go_simp
      exact hK _ _ ⟨_, rfl, hI.ne, hc _⟩ (tch_alloc _ _ _) (hI.alloc _)
    · intro t a_ vs wt ht hI hD hA K hK
      have a6 : a_.tmps[6]?.getD undef = Value.pointer (some ⟨g, 0, none⟩) := hA 6
      clear hA hD
      go_simp
      exact hK _ _ rfl (Tch.refl _ _) hI.stay
    · intro t a_ vs wt ht hI hD hA K hK
      have d7 : vs 7 = Value.pointer (some ⟨g, 0, none⟩) := hD 7 rfl
      have a39 : a_.tmps[39]?.getD undef = vs 7 := hA 39
      rw [d7] at a39
      clear hA hD
      go_simp
      refine (pickT _ _ _ _ _ hI.rd (by omega) (by omega) (by have : t < 17 := ht; omega)).mono ?_; rintro e w2 ⟨k, hk, rfl, hr, hT⟩
      exact hK _ _ ⟨_, rfl, by omega, by omega⟩ hT (hI.call hr (by omega) hT)
    · intro t a_ vs wt ht hI hD hA K hK
      obtain ⟨b6, d6, n6, c6⟩ := hD 6 rfl
      have a38 : a_.tmps[38]?.getD undef = vs 6 := hA 38
      rw [d6] at a38
      obtain ⟨x8, d8, l8, u8⟩ := hD 8 rfl
      have a40 : a_.tmps[40]?.getD undef = vs 8 := hA 40
      rw [d8] at a40
      clear hA hD
      have z0 : 0 ≤ x8 := by omega
      have z1 : x8 < 7 := by omega
      obtain ⟨y, hy, cy⟩ := c6 (x8).toNat (by omega)
      go_simp
      exact hK _ _ ⟨_, _, rfl, n6, y, hy, cy⟩ (Tch.refl _ _) hI.stay
    · intro t a_ vs wt ht hI hD hA K hK
      obtain ⟨b9, i9, d9, n9, y9, q9, c9⟩ := hD 9 rfl
      have a41 : a_.tmps[41]?.getD undef = vs 9 := hA 41
      rw [d9] at a41
      clear hA hD
      go_simp
      exact hK _ _ ⟨_, rfl, q9.1, q9.2⟩ (Tch.refl _ _) hI.stay
    · intro t a_ vs wt ht hI hD hA K hK
      obtain ⟨b5, d5, n5, c5⟩ := hD 5 rfl
      have a37 : a_.tmps[37]?.getD undef = vs 5 := hA 37
      rw [d5] at a37
      obtain ⟨x10, d10, l10, u10⟩ := hD 10 rfl
      have a42 : a_.tmps[42]?.getD undef = vs 10 := hA 42
      rw [d10] at a42
      clear hA hD
      have z0 : 0 ≤ x10 := by omega
      have z1 : x10 < 3 := by omega
      obtain ⟨y, hy, cy⟩ := c5 (x10).toNat (by omega)
      go_simp
      exact hK _ _ ⟨_, _, rfl, n5, y, hy, cy⟩ (Tch.refl _ _) hI.stay
    · intro t a_ vs wt ht hI hD hA K hK
      obtain ⟨b11, i11, d11, n11, y11, q11, c11⟩ := hD 11 rfl
      have a43 : a_.tmps[43]?.getD undef = vs 11 := hA 43
      rw [d11] at a43
      clear hA hD
      go_simp
      exact hK _ _ ⟨_, rfl, q11.1, q11.2⟩ (Tch.refl _ _) hI.stay
    · intro t a_ vs wt ht hI hD hA K hK
      have d := hD 0 rfl
      have a32 : a_.tmps[32]?.getD undef = vs 0 := hA 32
      clear hA hD
      go_simp
      exact hK _ _ d (Tch.refl _ _) hI.stay
    · intro t a_ vs wt ht hI hD hA K hK
      have d := hD 1 rfl
      have a33 : a_.tmps[33]?.getD undef = vs 1 := hA 33
      clear hA hD
      go_simp
      exact hK _ _ d (Tch.refl _ _) hI.stay
    · intro t a_ vs wt ht hI hD hA K hK
      have d := hD 2 rfl
      have a34 : a_.tmps[34]?.getD undef = vs 2 := hA 34
      clear hA hD
      go_simp
      exact hK _ _ d (Tch.refl _ _) hI.stay
    · intro t a_ vs wt ht hI hD hA K hK
      have d := hD 12 rfl
      have a44 : a_.tmps[44]?.getD undef = vs 12 := hA 44
      clear hA hD
      go_simp
      exact hK _ _ d (Tch.refl _ _) hI.stay
  · intro vs wz hrz hTz hF
    obtain ⟨f0, f1, f2, f3, f4, f5, f6, f7, f8, f9, f10, f11, f12, f13, f14, f15, f16, -⟩ := hF
    simp only [putAll, Act.put, List.setIfInBounds_toArray, List.set_cons_zero, List.set_cons_succ]
    obtain ⟨x, hx, hx0, hx1⟩ := f16
    rw [show vs 13 = _ from f13, show vs 14 = _ from f14, show vs 15 = _ from f15, hx]
    go_wp2
    (try simp only [Exit.inBlock, Exit.then]); refine bodyPost_ret (results_tmp4 rfl _ _ _) rfl ?_
    have hT := (((ht3.trans ht4).trans ht5).trans ht6).trans hTz
    exact ⟨_, _, _, _, _, _, _, rfl, hA.only hf hT (fun k e => by subst e; omega), h1, h9, hx1, ext_tch hb2 hT (fun k e => by subst e; omega)⟩
end Go.Proofs.Ytbpkclhpjelelaa
