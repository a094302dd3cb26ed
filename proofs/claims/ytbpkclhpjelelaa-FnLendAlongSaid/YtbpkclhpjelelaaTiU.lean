/-
  What the reference draws for using time.
-/
import Derived.Test.YtbpkclhpjelelaaTiD
import Derived.Test.YtbpkclhpjelelaaTiL
import Derived.Test.YtbpkclhpjelelaaDrO
namespace Go.Proofs.Ytbpkclhpjelelaa
open Go.RowKit

set_option maxHeartbeats 1000000 in
theorem DrawUseTime_any (A : Option Addr) (n c : Nat) (bs : List UInt8) (w : World) (h : Rd w 1 A n c (cU bs)) :
    Calls Try.prog 21 #[.slice A n c] w fun e w' => ∃ A' n' c' xs a x, e = .returned (.tuple #[.slice A' n' c', .int .i64 a, .int .i64 x]) ∧ Rd w' 1 A' n' c' (cI xs) ∧ 1 ≤ n' ∧ n' ≤ 9 ∧ x ≤ 9223372036854775807 ∧ Ext w w' := by
  go_enter Try.func21, Try.ntmps21
  go_wp2_with fail
  refine (l20Open_any _ _ _ _ _ h).mono ?_; rintro e w1 ⟨rfl, hr, hb⟩
  have hs := hr.lt
  go_wp2_with fail
  refine (l20Times_any _ _ _ _ _ hr (by omega) (by omega) (by omega) (by omega)).mono ?_; rintro e w2 ⟨A', n', c', xs, rfl, hA, hf, h1, h9, hr2, ht⟩
  have hb2 := ext_tch hb ht (fun k e => by subst e; exact Nat.le_refl _)
  obtain ⟨g, hg⟩ : ∃ g, w.heap.size = g := ⟨_, rfl⟩
  rw [hg] at hr hr2 ht ⊢
  go_wp2_with fail
  refine (pickT _ _ _ _ _ hr2 (by omega) (by omega) (by omega)).mono ?_; rintro e w3 ⟨a, ha, rfl, hr3, ht3⟩
  go_wp2_with fail
  refine (pickT _ _ _ _ _ hr3 (by omega) (by omega) (by omega)).mono ?_; rintro e w4 ⟨a2, ha2, rfl, hr4, ht4⟩
  go_wp2_with fail
  refine wp_region_draw (g := g) (B := g + 1) (102) 1 [.eq _ (Value.slice A' n' c'), .eq _ (Value.int .i64 ((a : Int) - (a2 : Int) / 13)), .eq _ (Value.pointer (some ⟨g, 0, none⟩)), .rng _ (0) (119), .lit _ 3 (-1) (9223372036854775807), .lit _ 7 (0) (2), .eq _ (Value.pointer (some ⟨g, 0, none⟩)), .rng _ (0) (6), .adr _ (0) (2), .rng _ (0) (2), .adr _ (-1) (9223372036854775807), .rng _ (-1) (9223372036854775807), .eq _ (Value.slice A' n' c'), .eq _ (Value.int .i64 ((a : Int) - (a2 : Int) / 13)), .rng _ (-1) (9223372036854775807)] (by kernel_rfl) (by kernel_rfl) (by rfl) (hr4.more (by omega)) ?_ ?_
  · refine ⟨?_, ?_, ?_, ?_, ?_, ?_, ?_, ?_, ?_, ?_, ?_, ?_, ?_, ?_, ?_, trivial⟩
    · intro t a_ vs wt ht hI hD hA K hK
      have a6 : a_.tmps[6]?.getD undef = Value.slice A' n' c' := hA 6
      clear hA hD
      go_simp
      exact hK _ _ rfl (Tch.refl _ _) hI.stay
    · intro t a_ vs wt ht hI hD hA K hK
      have a7 : a_.tmps[7]?.getD undef = Value.int .i64 ((a : Int) - (a2 : Int) / 13) := hA 7
      clear hA hD
      go_simp
      exact hK _ _ rfl (Tch.refl _ _) hI.stay
    · intro t a_ vs wt ht hI hD hA K hK
      have a5 : a_.tmps[5]?.getD undef = Value.pointer (some ⟨g, 0, none⟩) := hA 5
      clear hA hD
      go_simp
      exact hK _ _ rfl (Tch.refl _ _) hI.stay
    · intro t a_ vs wt ht hI hD hA K hK
      have d2 : vs 2 = Value.pointer (some ⟨g, 0, none⟩) := hD 2 rfl
      have a23 : a_.tmps[23]?.getD undef = vs 2 := hA 23
      rw [d2] at a23
      clear hA hD
      go_simp
      refine (pickT _ _ _ _ _ hI.rd (by omega) (by omega) (by have : t < 15 := ht; omega)).mono ?_; rintro e w2 ⟨k, hk, rfl, hr, hT⟩
      exact hK _ _ ⟨_, rfl, by omega, by omega⟩ hT (hI.call hr (by omega) hT)
    · intro t a_ vs wt ht hI hD hA K hK
      obtain ⟨x3, d3, l3, u3⟩ := hD 3 rfl
      have a24 : a_.tmps[24]?.getD undef = vs 3 := hA 24
      rw [d3] at a24
      clear hA hD
      have hc := fun e => lit_all (w := wt) (e := e) (lo := -1) (hi := 9223372036854775807) [(x3), (-1), (9223372036854775807)] (by simp only [List.mem_cons, List.not_mem_nil, or_false]; omega) rfl
      go_simp
      exact hK _ _ ⟨_, rfl, hI.ne, hc _⟩ (tch_alloc _ _ _) (hI.alloc _)
    · intro t a_ vs wt ht hI hD hA K hK
      clear hA hD
      have hc := fun e => lit_all (w := wt) (e := e) (lo := 0) (hi := 2) [(0), (0), (0), (0), (0), (1), (2)] (by simp only [List.mem_cons, List.not_mem_nil, or_false]; omega) rfl
      go_simp
      exact hK _ _ ⟨_, rfl, hI.ne, hc _⟩ (tch_alloc _ _ _) (hI.alloc _)
    · intro t a_ vs wt ht hI hD hA K hK
      have a5 : a_.tmps[5]?.getD undef = Value.pointer (some ⟨g, 0, none⟩) := hA 5
      clear hA hD
      go_simp
      exact hK _ _ rfl (Tch.refl _ _) hI.stay
    · intro t a_ vs wt ht hI hD hA K hK
      have d6 : vs 6 = Value.pointer (some ⟨g, 0, none⟩) := hD 6 rfl
      have a27 : a_.tmps[27]?.getD undef = vs 6 := hA 27
      rw [d6] at a27
      clear hA hD
      go_simp
      refine (pickT _ _ _ _ _ hI.rd (by omega) (by omega) (by have : t < 15 := ht; omega)).mono ?_; rintro e w2 ⟨k, hk, rfl, hr, hT⟩
      exact hK _ _ ⟨_, rfl, by omega, by omega⟩ hT (hI.call hr (by omega) hT)
    · intro t a_ vs wt ht hI hD hA K hK
      obtain ⟨b5, d5, n5, c5⟩ := hD 5 rfl
      have a26 : a_.tmps[26]?.getD undef = vs 5 := hA 26
      rw [d5] at a26
      obtain ⟨x7, d7, l7, u7⟩ := hD 7 rfl
      have a28 : a_.tmps[28]?.getD undef = vs 7 := hA 28
      rw [d7] at a28
      clear hA hD
      have z0 : 0 ≤ x7 := by omega
      have z1 : x7 < 7 := by omega
      obtain ⟨y, hy, cy⟩ := c5 (x7).toNat (by omega)
      go_simp
      exact hK _ _ ⟨_, _, rfl, n5, y, hy, cy⟩ (Tch.refl _ _) hI.stay
    · intro t a_ vs wt ht hI hD hA K hK
      obtain ⟨b8, i8, d8, n8, y8, q8, c8⟩ := hD 8 rfl
      have a29 : a_.tmps[29]?.getD undef = vs 8 := hA 29
      rw [d8] at a29
      clear hA hD
      go_simp
      exact hK _ _ ⟨_, rfl, q8.1, q8.2⟩ (Tch.refl _ _) hI.stay
    · intro t a_ vs wt ht hI hD hA K hK
      obtain ⟨b4, d4, n4, c4⟩ := hD 4 rfl
      have a25 : a_.tmps[25]?.getD undef = vs 4 := hA 25
      rw [d4] at a25
      obtain ⟨x9, d9, l9, u9⟩ := hD 9 rfl
      have a30 : a_.tmps[30]?.getD undef = vs 9 := hA 30
      rw [d9] at a30
      clear hA hD
      have z0 : 0 ≤ x9 := by omega
      have z1 : x9 < 3 := by omega
      obtain ⟨y, hy, cy⟩ := c4 (x9).toNat (by omega)
      go_simp
      exact hK _ _ ⟨_, _, rfl, n4, y, hy, cy⟩ (Tch.refl _ _) hI.stay
    · intro t a_ vs wt ht hI hD hA K hK
      obtain ⟨b10, i10, d10, n10, y10, q10, c10⟩ := hD 10 rfl
      have a31 : a_.tmps[31]?.getD undef = vs 10 := hA 31
      rw [d10] at a31
      clear hA hD
      go_simp
      exact hK _ _ ⟨_, rfl, q10.1, q10.2⟩ (Tch.refl _ _) hI.stay
    · intro t a_ vs wt ht hI hD hA K hK
      have d := hD 0 rfl
      have a21 : a_.tmps[21]?.getD undef = vs 0 := hA 21
      clear hA hD
      go_simp
      exact hK _ _ d (Tch.refl _ _) hI.stay
    · intro t a_ vs wt ht hI hD hA K hK
      have d := hD 1 rfl
      have a22 : a_.tmps[22]?.getD undef = vs 1 := hA 22
      clear hA hD
      go_simp
      exact hK _ _ d (Tch.refl _ _) hI.stay
    · intro t a_ vs wt ht hI hD hA K hK
      have d := hD 11 rfl
      have a32 : a_.tmps[32]?.getD undef = vs 11 := hA 32
      clear hA hD
      go_simp
      exact hK _ _ d (Tch.refl _ _) hI.stay
  · intro vs wz hrz hTz hF
    obtain ⟨f0, f1, f2, f3, f4, f5, f6, f7, f8, f9, f10, f11, f12, f13, f14, -⟩ := hF
    simp only [putAll, Act.put, List.setIfInBounds_toArray, List.set_cons_zero, List.set_cons_succ]
    obtain ⟨x, hx, hx0, hx1⟩ := f14
    rw [show vs 12 = _ from f12, show vs 13 = _ from f13, hx]
    go_wp2
    go_ret3
    exact ⟨_, _, _, _, _, _, rfl, hA.only hf ((ht3.trans ht4).trans hTz) (fun k e => by subst e; omega), h1, h9, hx1, ext_tch hb2 ((ht3.trans ht4).trans hTz) (fun k e => by subst e; omega)⟩
end Go.Proofs.Ytbpkclhpjelelaa
