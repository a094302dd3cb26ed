/-
  The faults that the reference draws.
-/
import Derived.Test.YteahiiflgiimnaaMpT
import Derived.Test.YteahiiflgiimnaaDrC
import Derived.Test.YteahiiflgiimnaaFaA
import Derived.Test.YteahiiflgiimnaaBox
namespace Go.Proofs.Yteahiiflgiimnaa
open Go.RowKit

set_option maxHeartbeats 4000000 in
set_option maxRecDepth 100000 in
theorem l20Fault_any (B g p : Nat) (n : Int) (w : World) (h : Rdr w B g p) (hB : B ≤ w.heap.size) (hn : 0 ≤ n) (hn' : n ≤ 1000) (hp : p ≤ 800000) :
    Calls Try.prog 79 #[.pointer (some ⟨g, 0, none⟩), .int .i64 n] w fun e w' => ∃ k a m : Int, e = .returned (.agg #[.int .i64 k, .int .i64 a, .int .i64 m]) ∧ Rdr w' B g (p + 100) ∧ Tch w w' (· = g) := by
  have hgB := h.low
  have hgw : g < w.heap.size := Nat.lt_of_lt_of_le hgB hB
  have hal0 : Ext w (w.alloc (.cells #[.int .i64 0, .int .i64 0, .int .i64 0] 32)) := (Below.refl _ _).alloc (Nat.le_refl _) _
  have R0 : Row (w.alloc (.cells #[.int .i64 0, .int .i64 0, .int .i64 0] 32)) w.heap.size 32 3 (.slice (some ⟨w.heap.size, 0, none⟩) 1 1) 1 (c3 [(0, 0, 0)]) := Row.lit (w := w) (n := 1) #[.int .i64 0, .int .i64 0, .int .i64 0] rfl (by unfold maxLen; omega) (Nat.le_refl _)
  have hr0 := h.keep hal0
  have hT0 : Tch w (w.alloc (.cells #[.int .i64 0, .int .i64 0, .int .i64 0] 32)) (· = g) := Tch.ext hal0
  clear h hal0
  go_enter Try.func79, Try.ntmps79
  go_wp2_with fail
  refine (pickT _ _ _ _ _ hr0 (by omega) (by omega) (by omega)).mono ?_; rintro e w1 ⟨z1, hz1, rfl, hr1, ht1⟩
  have R1 := R0.only ht1 (fun k e => by subst e; exact hgw)
  have hT1 := hT0.trans ht1
  clear R0 hT0 hr0 ht1
  go_wp2_with fail
  refine (l20Address_any _ _ _ _ _ hr1 (by omega) (by omega) (by omega)).mono ?_; rintro e w2 ⟨a, rfl, ha0, ha1, _, hr2, ht2⟩
  have R2 := R1.only ht2 (fun k e => by subst e; exact hgw)
  have hT2 := hT1.trans ht2
  clear R1 hT1 hr1 ht2
  have ha : Ext w2 (w2.alloc (.cells #[.int .i64 1, .int .i64 2, .int .i64 3] 3)) := (Below.refl _ _).alloc (Nat.le_refl _) _
  have hL : ∀ k, k < 3 → ∃ y : Int, (w2.alloc (.cells #[.int .i64 1, .int .i64 2, .int .i64 3] 3)).cell? ⟨w2.heap.size, k, none⟩ = some (.int .i64 y) := fun k hk => by
    rw [cell_of_row _ _ k _ _ _ (heap_alloc_new w2 _)]
    obtain rfl | rfl | rfl : k = 0 ∨ k = 1 ∨ k = 2 := by omega
    all_goals exact ⟨_, rfl⟩
  have hr2x := hr2.keep ha
  have hT2x := hT2.trans (Tch.ext (S := (· = g)) ha)
  have R2x := R2.below ha
  have hn7 : ¬ w2.heap.size = g := by have := hr2.lt; omega
  clear ha hr2 hT2 R2
  go_wp2_with fail
  refine (pickT _ _ _ _ _ hr2x (by omega) (by omega) (by omega)).mono ?_; rintro e w3 ⟨z3, hz3, rfl, hr3, ht3⟩
  obtain ⟨x9, hx9⟩ := hL z3 (by omega)
  have Q := ht3.cell hx9 hn7
  have R3 := R2x.only ht3 (fun k e => by subst e; exact hgw)
  have hT3 := hT2x.trans ht3
  clear hL hx9 hr2x hT2x R2x ht3 hn7
  obtain ⟨x, hx⟩ : ∃ x, x9 = x := ⟨_, rfl⟩
  subst hx
  have hs3 : w.heap.size < w3.heap.size := (R3.lt _ rfl).2
  have ha : Ext w3 (w3.alloc (.cells #[.int .i64 (1 + (z1 : Int)), .int .i64 a, .int .i64 x9] 32)) := (Below.refl _ _).alloc (Nat.le_refl _) _
  have own4 : Row (w3.alloc (.cells #[.int .i64 (1 + (z1 : Int)), .int .i64 a, .int .i64 x9] 32)) w.heap.size 32 3 (.slice (some ⟨w3.heap.size, 0, none⟩) 1 1) 1 (c3 [(1 + (z1 : Int), a, x9)]) := Row.lit (w := w3) (n := 1) #[.int .i64 (1 + (z1 : Int)), .int .i64 a, .int .i64 x9] rfl (by unfold maxLen; omega) (by omega)
  have hr4 := hr3.keep ha
  have hT4 := hT3.trans (Tch.ext (S := (· = g)) ha)
  have R4 := R3.below ha
  have hcw : w.heap.size ≠ w3.heap.size := by omega
  clear hT3 hr3 R3 ha
  go_wp2_with fail
  refine (oddT _ _ _ _ _ hr4 hn (by omega) (by omega)).mono ?_; rintro e w6 ⟨t, rfl, _, hr6, ht6⟩
  have own6 := own4.only ht6 (fun k e => by subst e; exact hgw)
  have R6 := R4.only ht6 (fun k e => by subst e; exact hgw)
  have hT6 := hT4.trans ht6
  clear Q own4 R4 hT4 hr4 ht6
  cases t
  · obtain ⟨_, _, _, X, q0, q1, q2⟩ := own3_at own6 (Nat.lt_succ_self 0)
    have X' := X.out
    simp only [List.getElem?_cons_zero, Option.some.injEq, Prod.mk.injEq] at X'
    obtain ⟨rfl, rfl, rfl⟩ := X'
    obtain ⟨_, _, _, _, r0, r1, r2⟩ := own3_at R6 (Nat.lt_succ_self 0)
    have f0 := own6.frozenAt 0
    have f1 := own6.frozenAt 1
    have f2 := own6.frozenAt 2
    have h0 := R6.frozenAt 0
    have h1 := R6.frozenAt 1
    have h2 := R6.frozenAt 2
    simp only [Nat.zero_mul, Nat.zero_add] at q0 q1 q2 r0 r1 r2
    clear own6 R6 X
    go_wp2
    refine bodyPost_ret (v := .agg #[.int .i64 (1 + (z1 : Int)), .int .i64 a, .int .i64 x9]) (by simp [results, Try.results79, go_sem, r0, r1, r2]) rfl ⟨_, _, _, rfl, ?_, ?_⟩
    · exact ((((hr6.more (by omega)).setc hB _).setc hB _).setc hB _)
    · exact (((hT6.set (Nat.le_refl _) _).set (Nat.le_refl _) _).set (Nat.le_refl _) _)
  · go_wp2_with fail
    refine (pickT _ _ _ _ _ hr6 (by omega) (by omega) (by omega)).mono ?_; rintro e w8 ⟨z, hz, rfl, hr8, ht8⟩
    have own8 := own6.only ht8 (fun k e => by subst e; exact hgw)
    have R8 := R6.only ht8 (fun k e => by subst e; exact hgw)
    have hT8 := hT6.trans ht8
    clear own6 R6 hT6 hr6 ht8
    obtain rfl | rfl | rfl : z = 0 ∨ z = 1 ∨ z = 2 := by omega
    · have ha : Ext w8 (w8.alloc (.cells #[.int .i64 0, .int .i64 3, .int .i64 4] 3)) := (Below.refl _ _).alloc (Nat.le_refl _) _
      have hL : ∀ k, k < 3 → ∃ y : Int, (w8.alloc (.cells #[.int .i64 0, .int .i64 3, .int .i64 4] 3)).cell? ⟨w8.heap.size, k, none⟩ = some (.int .i64 y) := fun k hk => by
        rw [cell_of_row _ _ k _ _ _ (heap_alloc_new w8 _)]
        obtain rfl | rfl | rfl : k = 0 ∨ k = 1 ∨ k = 2 := by omega
        all_goals exact ⟨_, rfl⟩
      have hr8x := hr8.keep ha
      have hT8x := hT8.trans (Tch.ext (S := (· = g)) ha)
      have own8x := own8.below ha
      have R8x := R8.below ha
      have hn7 : ¬ w8.heap.size = g := by have := hr8.lt; omega
      clear ha hr8 hT8 own8 R8
      go_wp2_with fail
      refine (pickT _ _ _ _ _ hr8x (by omega) (by omega) (by omega)).mono ?_; rintro e w9 ⟨z3, hz3, rfl, hr9, ht9⟩
      obtain ⟨y9, hy9⟩ := hL z3 (by omega)
      have Q := ht9.cell hy9 hn7
      have own9 := own8x.only ht9 (fun k e => by subst e; exact hgw)
      have R9 := R8x.only ht9 (fun k e => by subst e; exact hgw)
      have hT9 := hT8x.trans ht9
      clear hL hy9 hr8x hT8x own8x R8x ht9 hn7
      obtain ⟨_, _, _, X, q0, q1, q2⟩ := own3_at own9 (Nat.lt_succ_self 0)
      have X' := X.out
      simp only [List.getElem?_cons_zero, Option.some.injEq, Prod.mk.injEq] at X'
      obtain ⟨rfl, rfl, rfl⟩ := X'
      obtain ⟨_, _, _, _, r0, r1, r2⟩ := own3_at R9 (Nat.lt_succ_self 0)
      have f0 := own9.frozenAt 0
      have f1 := own9.frozenAt 1
      have f2 := own9.frozenAt 2
      have h0 := R9.frozenAt 0
      have h1 := R9.frozenAt 1
      have h2 := R9.frozenAt 2
      simp only [Nat.zero_mul, Nat.zero_add] at q0 q1 q2 r0 r1 r2
      clear own9 R9 X
      go_wp2
      refine bodyPost_ret (v := .agg #[.int .i64 y9, .int .i64 a, .int .i64 x9]) (by simp [results, Try.results79, go_sem, r0, r1, r2]) rfl ⟨_, _, _, rfl, ?_, ?_⟩
      · exact (((((hr9.more (by omega)).setc (Nat.le_trans hB (Nat.le_of_lt hs3)) _).setc hB _).setc hB _).setc hB _)
      · exact ((((hT9.set (Nat.le_of_lt hs3) _).set (Nat.le_refl _) _).set (Nat.le_refl _) _).set (Nat.le_refl _) _)
    · go_wp2_with fail
      refine (l20Address_any _ _ _ _ _ hr8 (by omega) (by omega) (by omega)).mono ?_; rintro e w9 ⟨y9, rfl, _, _, _, hr9, ht9⟩
      have own9 := own8.only ht9 (fun k e => by subst e; exact hgw)
      have R9 := R8.only ht9 (fun k e => by subst e; exact hgw)
      have hT9 := hT8.trans ht9
      clear own8 R8 hT8 hr8 ht9
      obtain ⟨_, _, _, X, q0, q1, q2⟩ := own3_at own9 (Nat.lt_succ_self 0)
      have X' := X.out
      simp only [List.getElem?_cons_zero, Option.some.injEq, Prod.mk.injEq] at X'
      obtain ⟨rfl, rfl, rfl⟩ := X'
      obtain ⟨_, _, _, _, r0, r1, r2⟩ := own3_at R9 (Nat.lt_succ_self 0)
      have f0 := own9.frozenAt 0
      have f1 := own9.frozenAt 1
      have f2 := own9.frozenAt 2
      have h0 := R9.frozenAt 0
      have h1 := R9.frozenAt 1
      have h2 := R9.frozenAt 2
      simp only [Nat.zero_mul, Nat.zero_add] at q0 q1 q2 r0 r1 r2
      clear own9 R9 X
      go_wp2
      refine bodyPost_ret (v := .agg #[.int .i64 (1 + (z1 : Int)), .int .i64 y9, .int .i64 x9]) (by simp [results, Try.results79, go_sem, r0, r1, r2]) rfl ⟨_, _, _, rfl, ?_, ?_⟩
      · exact (((((hr9.more (by omega)).setc (Nat.le_trans hB (Nat.le_of_lt hs3)) _).setc hB _).setc hB _).setc hB _)
      · exact ((((hT9.set (Nat.le_of_lt hs3) _).set (Nat.le_refl _) _).set (Nat.le_refl _) _).set (Nat.le_refl _) _)
    · have ha : Ext w8 (w8.alloc (.cells #[.int .i64 (-1), .int .i64 16, .int .i64 0, .int .i64 7] 3)) := (Below.refl _ _).alloc (Nat.le_refl _) _
      have hL : ∀ k, k < 4 → ∃ y : Int, (w8.alloc (.cells #[.int .i64 (-1), .int .i64 16, .int .i64 0, .int .i64 7] 3)).cell? ⟨w8.heap.size, k, none⟩ = some (.int .i64 y) := fun k hk => by
        rw [cell_of_row _ _ k _ _ _ (heap_alloc_new w8 _)]
        obtain rfl | rfl | rfl | rfl : k = 0 ∨ k = 1 ∨ k = 2 ∨ k = 3 := by omega
        all_goals exact ⟨_, rfl⟩
      have hr8x := hr8.keep ha
      have hT8x := hT8.trans (Tch.ext (S := (· = g)) ha)
      have own8x := own8.below ha
      have R8x := R8.below ha
      have hn7 : ¬ w8.heap.size = g := by have := hr8.lt; omega
      clear ha hr8 hT8 own8 R8
      go_wp2_with fail
      refine (pickT _ _ _ _ _ hr8x (by omega) (by omega) (by omega)).mono ?_; rintro e w9 ⟨z3, hz3, rfl, hr9, ht9⟩
      obtain ⟨y9, hy9⟩ := hL z3 (by omega)
      have Q := ht9.cell hy9 hn7
      have own9 := own8x.only ht9 (fun k e => by subst e; exact hgw)
      have R9 := R8x.only ht9 (fun k e => by subst e; exact hgw)
      have hT9 := hT8x.trans ht9
      clear hL hy9 hr8x hT8x own8x R8x ht9 hn7
      obtain ⟨_, _, _, X, q0, q1, q2⟩ := own3_at own9 (Nat.lt_succ_self 0)
      have X' := X.out
      simp only [List.getElem?_cons_zero, Option.some.injEq, Prod.mk.injEq] at X'
      obtain ⟨rfl, rfl, rfl⟩ := X'
      obtain ⟨_, _, _, _, r0, r1, r2⟩ := own3_at R9 (Nat.lt_succ_self 0)
      have f0 := own9.frozenAt 0
      have f1 := own9.frozenAt 1
      have f2 := own9.frozenAt 2
      have h0 := R9.frozenAt 0
      have h1 := R9.frozenAt 1
      have h2 := R9.frozenAt 2
      simp only [Nat.zero_mul, Nat.zero_add] at q0 q1 q2 r0 r1 r2
      clear own9 R9 X
      go_wp2
      refine bodyPost_ret (v := .agg #[.int .i64 (1 + (z1 : Int)), .int .i64 a, .int .i64 y9]) (by simp [results, Try.results79, go_sem, r0, r1, r2]) rfl ⟨_, _, _, rfl, ?_, ?_⟩
      · exact (((((hr9.more (by omega)).setc (Nat.le_trans hB (Nat.le_of_lt hs3)) _).setc hB _).setc hB _).setc hB _)
      · exact ((((hT9.set (Nat.le_of_lt hs3) _).set (Nat.le_refl _) _).set (Nat.le_refl _) _).set (Nat.le_refl _) _)
end Go.Proofs.Yteahiiflgiimnaa
