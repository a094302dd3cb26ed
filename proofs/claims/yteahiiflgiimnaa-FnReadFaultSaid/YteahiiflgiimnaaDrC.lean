/-
  The capabilities that the reference draws.
-/
import Derived.Test.YteahiiflgiimnaaDrR
import Derived.Test.YteahiiflgiimnaaAg4
import Derived.Test.YteahiiflgiimnaaCap
namespace Go.Proofs.Yteahiiflgiimnaa
open Go.RowKit

theorem Rdr.setc {w : World} {B g p : Nat} {q : Addr} (h : Rdr w B g p) (hq : B ≤ q.block) (u : Value) : Rdr (w.setCell q u) B g p :=
  h.past (grown_set (p := q) (g := q.block) (World.grownBy.refl w _) rfl u) (fun k e => by cases e; exact hq)

set_option maxHeartbeats 4000000 in
set_option maxRecDepth 100000 in
theorem l20Cap_any (B g p : Nat) (n : Int) (w : World) (h : Rdr w B g p) (hB : B ≤ w.heap.size) (hn : 0 ≤ n) (hn' : n ≤ 1000) (hp : p ≤ 800000) :
    Calls Try.prog 80 #[.pointer (some ⟨g, 0, none⟩), .int .i64 n] w fun e w' => ∃ k o r b : Int, e = .returned (.agg #[.int .i64 k, .int .i64 o, .int .i64 r, .int .i64 b]) ∧ Rdr w' B g (p + 100) ∧ Tch w w' (· = g) := by
  have hgB := h.low
  have hgw : g < w.heap.size := Nat.lt_of_lt_of_le hgB hB
  have hal0 : Ext w (w.alloc (.cells #[.int .i64 0, .int .i64 0, .int .i64 0, .int .i64 0] 34)) := (Below.refl _ _).alloc (Nat.le_refl _) _
  have R0 : Row (w.alloc (.cells #[.int .i64 0, .int .i64 0, .int .i64 0, .int .i64 0] 34)) w.heap.size 34 4 (.slice (some ⟨w.heap.size, 0, none⟩) 1 1) 1 (c4 [(0, 0, 0, 0)]) := Row.lit (w := w) (n := 1) #[.int .i64 0, .int .i64 0, .int .i64 0, .int .i64 0] rfl (by unfold maxLen; omega) (Nat.le_refl _)
  have h1 := h.keep hal0
  have hT0 : Tch w (w.alloc (.cells #[.int .i64 0, .int .i64 0, .int .i64 0, .int .i64 0] 34)) (· = g) := Tch.ext hal0
  clear h hal0
  go_enter Try.func80, Try.ntmps80
  go_wp2_with fail
  refine (pickT _ _ _ _ _ h1 (by omega) (by omega) (by omega)).mono ?_; rintro e w1 ⟨z1, hz1, rfl, hr1, ht1⟩
  go_wp2_with fail
  refine (pickT _ _ _ _ _ hr1 (by omega) (by omega) (by omega)).mono ?_; rintro e w2 ⟨z2, hz2, rfl, hr2, ht2⟩
  go_wp2_with fail
  refine (l20Rights_any _ _ _ _ _ hr2 (by omega) (by omega) (by omega)).mono ?_; rintro e w3 ⟨x, rfl, hx0, hx1, _, hr3, ht3⟩
  have hT3 := ((hT0.trans ht1).trans ht2).trans ht3
  have R3 := ((R0.only ht1 (fun k e => by subst e; exact hgw)).only ht2 (fun k e => by subst e; exact hgw)).only ht3 (fun k e => by subst e; exact hgw)
  have hs3 : w.heap.size < w3.heap.size := (R3.lt _ rfl).2
  have ha : Ext w3 (w3.alloc (.cells #[.int .i64 (1 + (z1 : Int)), .int .i64 z2, .int .i64 x, .int .i64 0] 34)) := (Below.refl _ _).alloc (Nat.le_refl _) _
  have own4 : Row (w3.alloc (.cells #[.int .i64 (1 + (z1 : Int)), .int .i64 z2, .int .i64 x, .int .i64 0] 34)) w.heap.size 34 4 (.slice (some ⟨w3.heap.size, 0, none⟩) 1 1) 1 (c4 [(1 + (z1 : Int), (z2 : Int), x, 0)]) := Row.lit (w := w3) (n := 1) #[.int .i64 (1 + (z1 : Int)), .int .i64 z2, .int .i64 x, .int .i64 0] rfl (by unfold maxLen; omega) (by omega)
  have hr4 := hr3.keep ha
  have hT4 := hT3.trans (Tch.ext (S := (· = g)) ha)
  have R4 := R3.below ha
  have hcw : w.heap.size ≠ w3.heap.size := by omega
  have hgc : g < w.heap.size := hgw
  clear R0 h1 hT0 hr1 ht1 hr2 ht2 ht3 hT3 hr3 R3 ha
  obtain ⟨bt, hbt⟩ : ∃ bt, badgedB (1 + (z1 : Int)) = bt := ⟨_, rfl⟩
  have HBT := Lib.hid hbt
  clear hbt
  go_wp2_with fail
  refine (l2Badged_any _ _).mono ?_; rintro e w' ⟨rfl, rfl⟩; rw [HBT.out]
  cases bt
  · go_wp2_with fail
    refine (oddT _ _ _ _ _ hr4 hn (by omega) (by omega)).mono ?_; rintro e w6 ⟨t, rfl, _, hr6, ht6⟩
    have own6 := own4.only ht6 (fun k e => by subst e; exact hgw)
    have R6 := R4.only ht6 (fun k e => by subst e; exact hgw)
    have hT6 := hT4.trans ht6
    clear own4 R4 hT4 hr4 ht6
    cases t
    · obtain ⟨_, _, _, _, X, q0, q1, q2, q3⟩ := own4_at own6 (Nat.lt_succ_self 0)
      have X' := X.out
      simp only [List.getElem?_cons_zero, Option.some.injEq, Prod.mk.injEq] at X'
      obtain ⟨rfl, rfl, rfl, rfl⟩ := X'
      obtain ⟨_, _, _, _, _, r0, r1, r2, r3⟩ := own4_at R6 (Nat.lt_succ_self 0)
      have f0 := own6.frozenAt 0
      have f1 := own6.frozenAt 1
      have f2 := own6.frozenAt 2
      have f3 := own6.frozenAt 3
      have h0 := R6.frozenAt 0
      have h1 := R6.frozenAt 1
      have h2 := R6.frozenAt 2
      have h3 := R6.frozenAt 3
      simp only [Nat.zero_mul, Nat.zero_add] at q0 q1 q2 q3 r0 r1 r2 r3
      clear own6 R6 X
      go_wp2
      refine bodyPost_ret (v := .agg #[.int .i64 (1 + (z1 : Int)), .int .i64 (z2 : Int), .int .i64 x, .int .i64 0]) (by simp [results, Try.results80, go_sem, r0, r1, r2, r3]) rfl ⟨_, _, _, _, rfl, ?_, ?_⟩
      · exact (((((hr6.more (by omega)).setc hB _).setc hB _).setc hB _).setc hB _)
      · exact ((((hT6.set (Nat.le_refl _) _).set (Nat.le_refl _) _).set (Nat.le_refl _) _).set (Nat.le_refl _) _)
    · go_wp2_with fail
      refine (pickT _ _ _ _ _ hr6 (by omega) (by omega) (by omega)).mono ?_; rintro e w8 ⟨z, hz, rfl, hr8, ht8⟩
      have own8 := own6.only ht8 (fun k e => by subst e; exact hgw)
      have R8 := R6.only ht8 (fun k e => by subst e; exact hgw)
      have hT8 := hT6.trans ht8
      clear own6 R6 hT6 hr6 ht8
      obtain rfl | rfl | rfl | rfl | rfl : z = 0 ∨ z = 1 ∨ z = 2 ∨ z = 3 ∨ z = 4 := by omega
      · have ha : Ext w8 (w8.alloc (.cells #[.int .i64 (-1), .int .i64 8, .int .i64 0] 3)) := (Below.refl _ _).alloc (Nat.le_refl _) _
        have hL : ∀ k, k < 3 → ∃ y : Int, (w8.alloc (.cells #[.int .i64 (-1), .int .i64 8, .int .i64 0] 3)).cell? ⟨w8.heap.size, k, none⟩ = some (.int .i64 y) := fun k hk => by
          rw [cell_of_row _ _ k _ _ _ (heap_alloc_new w8 _)]
          obtain rfl | rfl | rfl : k = 0 ∨ k = 1 ∨ k = 2 := by omega
          all_goals exact ⟨_, rfl⟩
        have hr8x := hr8.keep ha
        have hT8x := hT8.trans (Tch.ext (S := (· = g)) ha)
        have own8x := own8.below ha
        have R8x := R8.below ha
        have hn7 : ¬ w8.heap.size = g := by have := hr8.lt; omega
        clear ha hr8 hT8 own8 R8
        go_wp2_with fail
        refine (pickT _ _ _ _ _ hr8x (by omega) (by omega) (by omega)).mono ?_; rintro e w9 ⟨z3, hz3, rfl, hr9, ht9⟩
        obtain ⟨x9, hx9⟩ := hL z3 (by omega)
        have Q := ht9.cell hx9 hn7
        have own9 := own8x.only ht9 (fun k e => by subst e; exact hgw)
        have R9 := R8x.only ht9 (fun k e => by subst e; exact hgw)
        have hT9 := hT8x.trans ht9
        clear hL hx9 hr8x hT8x own8x R8x ht9
        obtain ⟨_, _, _, _, X, q0, q1, q2, q3⟩ := own4_at own9 (Nat.lt_succ_self 0)
        have X' := X.out
        simp only [List.getElem?_cons_zero, Option.some.injEq, Prod.mk.injEq] at X'
        obtain ⟨rfl, rfl, rfl, rfl⟩ := X'
        obtain ⟨_, _, _, _, _, r0, r1, r2, r3⟩ := own4_at R9 (Nat.lt_succ_self 0)
        have f0 := own9.frozenAt 0
        have f1 := own9.frozenAt 1
        have f2 := own9.frozenAt 2
        have f3 := own9.frozenAt 3
        have h0 := R9.frozenAt 0
        have h1 := R9.frozenAt 1
        have h2 := R9.frozenAt 2
        have h3 := R9.frozenAt 3
        simp only [Nat.zero_mul, Nat.zero_add] at q0 q1 q2 q3 r0 r1 r2 r3
        clear own9 R9 X
        go_wp2
        refine bodyPost_ret (v := .agg #[.int .i64 x9, .int .i64 (z2 : Int), .int .i64 x, .int .i64 0]) (by simp [results, Try.results80, go_sem, r0, r1, r2, r3]) rfl ⟨_, _, _, _, rfl, ?_, ?_⟩
        · exact ((((((hr9.more (by omega)).setc (Nat.le_trans hB (Nat.le_of_lt hs3)) _).setc hB _).setc hB _).setc hB _).setc hB _)
        · exact (((((hT9.set (Nat.le_of_lt hs3) _).set (Nat.le_refl _) _).set (Nat.le_refl _) _).set (Nat.le_refl _) _).set (Nat.le_refl _) _)
      · have ha : Ext w8 (w8.alloc (.cells #[.int .i64 (-1), .int .i64 100] 3)) := (Below.refl _ _).alloc (Nat.le_refl _) _
        have hL : ∀ k, k < 2 → ∃ y : Int, (w8.alloc (.cells #[.int .i64 (-1), .int .i64 100] 3)).cell? ⟨w8.heap.size, k, none⟩ = some (.int .i64 y) := fun k hk => by
          rw [cell_of_row _ _ k _ _ _ (heap_alloc_new w8 _)]
          obtain rfl | rfl : k = 0 ∨ k = 1 := by omega
          all_goals exact ⟨_, rfl⟩
        have hr8x := hr8.keep ha
        have hT8x := hT8.trans (Tch.ext (S := (· = g)) ha)
        have own8x := own8.below ha
        have R8x := R8.below ha
        have hn7 : ¬ w8.heap.size = g := by have := hr8.lt; omega
        clear ha hr8 hT8 own8 R8
        go_wp2_with fail
        refine (pickT _ _ _ _ _ hr8x (by omega) (by omega) (by omega)).mono ?_; rintro e w9 ⟨z3, hz3, rfl, hr9, ht9⟩
        obtain ⟨x9, hx9⟩ := hL z3 (by omega)
        have Q := ht9.cell hx9 hn7
        have own9 := own8x.only ht9 (fun k e => by subst e; exact hgw)
        have R9 := R8x.only ht9 (fun k e => by subst e; exact hgw)
        have hT9 := hT8x.trans ht9
        clear hL hx9 hr8x hT8x own8x R8x ht9
        obtain ⟨_, _, _, _, X, q0, q1, q2, q3⟩ := own4_at own9 (Nat.lt_succ_self 0)
        have X' := X.out
        simp only [List.getElem?_cons_zero, Option.some.injEq, Prod.mk.injEq] at X'
        obtain ⟨rfl, rfl, rfl, rfl⟩ := X'
        obtain ⟨_, _, _, _, _, r0, r1, r2, r3⟩ := own4_at R9 (Nat.lt_succ_self 0)
        have f0 := own9.frozenAt 0
        have f1 := own9.frozenAt 1
        have f2 := own9.frozenAt 2
        have f3 := own9.frozenAt 3
        have h0 := R9.frozenAt 0
        have h1 := R9.frozenAt 1
        have h2 := R9.frozenAt 2
        have h3 := R9.frozenAt 3
        simp only [Nat.zero_mul, Nat.zero_add] at q0 q1 q2 q3 r0 r1 r2 r3
        clear own9 R9 X
        go_wp2
        refine bodyPost_ret (v := .agg #[.int .i64 (1 + (z1 : Int)), .int .i64 x9, .int .i64 x, .int .i64 0]) (by simp [results, Try.results80, go_sem, r0, r1, r2, r3]) rfl ⟨_, _, _, _, rfl, ?_, ?_⟩
        · exact ((((((hr9.more (by omega)).setc (Nat.le_trans hB (Nat.le_of_lt hs3)) _).setc hB _).setc hB _).setc hB _).setc hB _)
        · exact (((((hT9.set (Nat.le_of_lt hs3) _).set (Nat.le_refl _) _).set (Nat.le_refl _) _).set (Nat.le_refl _) _).set (Nat.le_refl _) _)
      · obtain ⟨_, _, _, _, X, q0, q1, q2, q3⟩ := own4_at own8 (Nat.lt_succ_self 0)
        have X' := X.out
        simp only [List.getElem?_cons_zero, Option.some.injEq, Prod.mk.injEq] at X'
        obtain ⟨rfl, rfl, rfl, rfl⟩ := X'
        obtain ⟨_, _, _, _, _, r0, r1, r2, r3⟩ := own4_at R8 (Nat.lt_succ_self 0)
        have f0 := own8.frozenAt 0
        have f1 := own8.frozenAt 1
        have f2 := own8.frozenAt 2
        have f3 := own8.frozenAt 3
        have h0 := R8.frozenAt 0
        have h1 := R8.frozenAt 1
        have h2 := R8.frozenAt 2
        have h3 := R8.frozenAt 3
        simp only [Nat.zero_mul, Nat.zero_add] at q0 q1 q2 q3 r0 r1 r2 r3
        clear own8 R8 X
        go_wp2
        refine bodyPost_ret (v := .agg #[.int .i64 (1 + (z1 : Int)), .int .i64 (z2 : Int), .int .i64 16, .int .i64 0]) (by simp [results, Try.results80, go_sem, r0, r1, r2, r3]) rfl ⟨_, _, _, _, rfl, ?_, ?_⟩
        · exact ((((((hr8.more (by omega)).setc (Nat.le_trans hB (Nat.le_of_lt hs3)) _).setc hB _).setc hB _).setc hB _).setc hB _)
        · exact (((((hT8.set (Nat.le_of_lt hs3) _).set (Nat.le_refl _) _).set (Nat.le_refl _) _).set (Nat.le_refl _) _).set (Nat.le_refl _) _)
      · have ha : Ext w8 (w8.alloc (.cells #[.int .i64 (-1), .int .i64 1000] 3)) := (Below.refl _ _).alloc (Nat.le_refl _) _
        have hL : ∀ k, k < 2 → ∃ y : Int, (w8.alloc (.cells #[.int .i64 (-1), .int .i64 1000] 3)).cell? ⟨w8.heap.size, k, none⟩ = some (.int .i64 y) := fun k hk => by
          rw [cell_of_row _ _ k _ _ _ (heap_alloc_new w8 _)]
          obtain rfl | rfl : k = 0 ∨ k = 1 := by omega
          all_goals exact ⟨_, rfl⟩
        have hr8x := hr8.keep ha
        have hT8x := hT8.trans (Tch.ext (S := (· = g)) ha)
        have own8x := own8.below ha
        have R8x := R8.below ha
        have hn7 : ¬ w8.heap.size = g := by have := hr8.lt; omega
        clear ha hr8 hT8 own8 R8
        go_wp2_with fail
        refine (pickT _ _ _ _ _ hr8x (by omega) (by omega) (by omega)).mono ?_; rintro e w9 ⟨z3, hz3, rfl, hr9, ht9⟩
        obtain ⟨x9, hx9⟩ := hL z3 (by omega)
        have Q := ht9.cell hx9 hn7
        have own9 := own8x.only ht9 (fun k e => by subst e; exact hgw)
        have R9 := R8x.only ht9 (fun k e => by subst e; exact hgw)
        have hT9 := hT8x.trans ht9
        clear hL hx9 hr8x hT8x own8x R8x ht9
        obtain ⟨_, _, _, _, X, q0, q1, q2, q3⟩ := own4_at own9 (Nat.lt_succ_self 0)
        have X' := X.out
        simp only [List.getElem?_cons_zero, Option.some.injEq, Prod.mk.injEq] at X'
        obtain ⟨rfl, rfl, rfl, rfl⟩ := X'
        obtain ⟨_, _, _, _, _, r0, r1, r2, r3⟩ := own4_at R9 (Nat.lt_succ_self 0)
        have f0 := own9.frozenAt 0
        have f1 := own9.frozenAt 1
        have f2 := own9.frozenAt 2
        have f3 := own9.frozenAt 3
        have h0 := R9.frozenAt 0
        have h1 := R9.frozenAt 1
        have h2 := R9.frozenAt 2
        have h3 := R9.frozenAt 3
        simp only [Nat.zero_mul, Nat.zero_add] at q0 q1 q2 q3 r0 r1 r2 r3
        clear own9 R9 X
        go_wp2
        refine bodyPost_ret (v := .agg #[.int .i64 (1 + (z1 : Int)), .int .i64 (z2 : Int), .int .i64 x, .int .i64 x9]) (by simp [results, Try.results80, go_sem, r0, r1, r2, r3]) rfl ⟨_, _, _, _, rfl, ?_, ?_⟩
        · exact ((((((hr9.more (by omega)).setc (Nat.le_trans hB (Nat.le_of_lt hs3)) _).setc hB _).setc hB _).setc hB _).setc hB _)
        · exact (((((hT9.set (Nat.le_of_lt hs3) _).set (Nat.le_refl _) _).set (Nat.le_refl _) _).set (Nat.le_refl _) _).set (Nat.le_refl _) _)
      · obtain ⟨_, _, _, _, X, q0, q1, q2, q3⟩ := own4_at own8 (Nat.lt_succ_self 0)
        have X' := X.out
        simp only [List.getElem?_cons_zero, Option.some.injEq, Prod.mk.injEq] at X'
        obtain ⟨rfl, rfl, rfl, rfl⟩ := X'
        obtain ⟨_, _, _, _, _, r0, r1, r2, r3⟩ := own4_at R8 (Nat.lt_succ_self 0)
        have f0 := own8.frozenAt 0
        have f1 := own8.frozenAt 1
        have f2 := own8.frozenAt 2
        have f3 := own8.frozenAt 3
        have h0 := R8.frozenAt 0
        have h1 := R8.frozenAt 1
        have h2 := R8.frozenAt 2
        have h3 := R8.frozenAt 3
        simp only [Nat.zero_mul, Nat.zero_add] at q0 q1 q2 q3 r0 r1 r2 r3
        clear own8 R8 X
        go_wp2
        refine bodyPost_ret (v := .agg #[.int .i64 6, .int .i64 0, .int .i64 0, .int .i64 1]) (by simp [results, Try.results80, go_sem, r0, r1, r2, r3]) rfl ⟨_, _, _, _, rfl, ?_, ?_⟩
        · exact (((((((((hr8.more (by omega)).setc (Nat.le_trans hB (Nat.le_of_lt hs3)) _).setc (Nat.le_trans hB (Nat.le_of_lt hs3)) _).setc (Nat.le_trans hB (Nat.le_of_lt hs3)) _).setc (Nat.le_trans hB (Nat.le_of_lt hs3)) _).setc hB _).setc hB _).setc hB _).setc hB _)
        · exact ((((((((hT8.set (Nat.le_of_lt hs3) _).set (Nat.le_of_lt hs3) _).set (Nat.le_of_lt hs3) _).set (Nat.le_of_lt hs3) _).set (Nat.le_refl _) _).set (Nat.le_refl _) _).set (Nat.le_refl _) _).set (Nat.le_refl _) _)
  · go_wp2_with fail
    refine (pickT _ _ _ _ _ hr4 (by omega) (by omega) (by omega)).mono ?_; rintro e w5 ⟨y, hy, rfl, hr5, ht5⟩
    have own5 := own4.only ht5 (fun k e => by subst e; exact hgw)
    have R5 := R4.only ht5 (fun k e => by subst e; exact hgw)
    have hT5 := hT4.trans ht5
    clear own4 R4 hT4 hr4 ht5
    by_cases hy0 : (y : Int) = 0
    · obtain rfl : y = 0 := by omega
      go_wp2_with fail
      refine (pickT _ _ _ _ _ hr5 (by omega) (by omega) (by omega)).mono ?_; rintro e w5b ⟨u, hu, rfl, hr5b, ht5b⟩
      have own5b := own5.only ht5b (fun k e => by subst e; exact hgw)
      have R5b := R5.only ht5b (fun k e => by subst e; exact hgw)
      have hT5b := hT5.trans ht5b
      clear own5 R5 hT5 hr5 ht5b
      obtain ⟨_, _, _, _, X, q0, q1, q2, q3⟩ := own4_at own5b (Nat.lt_succ_self 0)
      have f3 := own5b.frozenAt 3
      simp only [Nat.zero_mul, Nat.zero_add] at q3
      have own5c : Row (w5b.setCell ⟨w3.heap.size, 3, none⟩ (.int .i64 (1 + (u : Int)))) w.heap.size 34 4 (.slice (some ⟨w3.heap.size, 0, none⟩) 1 1) 1 (c4 [(1 + (z1 : Int), (z2 : Int), x, 1 + (u : Int))]) := own5b.stored 3 (.int .i64 (1 + (u : Int)))
      have R5c : Row (w5b.setCell ⟨w3.heap.size, 3, none⟩ (.int .i64 (1 + (u : Int)))) w.heap.size 34 4 (.slice (some ⟨w.heap.size, 0, none⟩) 1 1) 1 (c4 [(0, 0, 0, 0)]) := R5b.keepB (fun g' hg' _ _ => Below.heap_setCell w5b ⟨w3.heap.size, 3, none⟩ _ g' (by intro e; have e' : g' = w3.heap.size := e; simp only [Value.ownBlock, Option.some.injEq] at hg'; omega))
      have hr5c := hr5b.setc (q := ⟨w3.heap.size, 3, none⟩) (Nat.le_trans hB (Nat.le_of_lt hs3)) (.int .i64 (1 + (u : Int)))
      have hT5c := hT5b.set (p := ⟨w3.heap.size, 3, none⟩) (Nat.le_of_lt hs3) (.int .i64 (1 + (u : Int)))
      clear own5b R5b hr5b hT5b X q0 q1 q2
      go_wp2_with fail
      refine (oddT _ _ _ _ _ hr5c hn (by omega) (by omega)).mono ?_; rintro e w6 ⟨t, rfl, _, hr6, ht6⟩
      have own6 := own5c.only ht6 (fun k e => by subst e; exact hgw)
      have R6 := R5c.only ht6 (fun k e => by subst e; exact hgw)
      have hT6 := hT5c.trans ht6
      clear own5c R5c hT5c hr5c ht6
      cases t
      · obtain ⟨_, _, _, _, X, q0, q1, q2, q3⟩ := own4_at own6 (Nat.lt_succ_self 0)
        have X' := X.out
        simp only [List.getElem?_cons_zero, Option.some.injEq, Prod.mk.injEq] at X'
        obtain ⟨rfl, rfl, rfl, rfl⟩ := X'
        obtain ⟨_, _, _, _, _, r0, r1, r2, r3⟩ := own4_at R6 (Nat.lt_succ_self 0)
        have f0 := own6.frozenAt 0
        have f1 := own6.frozenAt 1
        have f2 := own6.frozenAt 2
        have f3 := own6.frozenAt 3
        have h0 := R6.frozenAt 0
        have h1 := R6.frozenAt 1
        have h2 := R6.frozenAt 2
        have h3 := R6.frozenAt 3
        simp only [Nat.zero_mul, Nat.zero_add] at q0 q1 q2 q3 r0 r1 r2 r3
        clear own6 R6 X
        go_wp2
        refine bodyPost_ret (v := .agg #[.int .i64 (1 + (z1 : Int)), .int .i64 (z2 : Int), .int .i64 x, .int .i64 (1 + (u : Int))]) (by simp [results, Try.results80, go_sem, r0, r1, r2, r3]) rfl ⟨_, _, _, _, rfl, ?_, ?_⟩
        · exact (((((hr6.more (by omega)).setc hB _).setc hB _).setc hB _).setc hB _)
        · exact ((((hT6.set (Nat.le_refl _) _).set (Nat.le_refl _) _).set (Nat.le_refl _) _).set (Nat.le_refl _) _)
      · go_wp2_with fail
        refine (pickT _ _ _ _ _ hr6 (by omega) (by omega) (by omega)).mono ?_; rintro e w8 ⟨z, hz, rfl, hr8, ht8⟩
        have own8 := own6.only ht8 (fun k e => by subst e; exact hgw)
        have R8 := R6.only ht8 (fun k e => by subst e; exact hgw)
        have hT8 := hT6.trans ht8
        clear own6 R6 hT6 hr6 ht8
        obtain rfl | rfl | rfl | rfl | rfl : z = 0 ∨ z = 1 ∨ z = 2 ∨ z = 3 ∨ z = 4 := by omega
        · have ha : Ext w8 (w8.alloc (.cells #[.int .i64 (-1), .int .i64 8, .int .i64 0] 3)) := (Below.refl _ _).alloc (Nat.le_refl _) _
          have hL : ∀ k, k < 3 → ∃ y : Int, (w8.alloc (.cells #[.int .i64 (-1), .int .i64 8, .int .i64 0] 3)).cell? ⟨w8.heap.size, k, none⟩ = some (.int .i64 y) := fun k hk => by
            rw [cell_of_row _ _ k _ _ _ (heap_alloc_new w8 _)]
            obtain rfl | rfl | rfl : k = 0 ∨ k = 1 ∨ k = 2 := by omega
            all_goals exact ⟨_, rfl⟩
          have hr8x := hr8.keep ha
          have hT8x := hT8.trans (Tch.ext (S := (· = g)) ha)
          have own8x := own8.below ha
          have R8x := R8.below ha
          have hn7 : ¬ w8.heap.size = g := by have := hr8.lt; omega
          clear ha hr8 hT8 own8 R8
          go_wp2_with fail
          refine (pickT _ _ _ _ _ hr8x (by omega) (by omega) (by omega)).mono ?_; rintro e w9 ⟨z3, hz3, rfl, hr9, ht9⟩
          obtain ⟨x9, hx9⟩ := hL z3 (by omega)
          have Q := ht9.cell hx9 hn7
          have own9 := own8x.only ht9 (fun k e => by subst e; exact hgw)
          have R9 := R8x.only ht9 (fun k e => by subst e; exact hgw)
          have hT9 := hT8x.trans ht9
          clear hL hx9 hr8x hT8x own8x R8x ht9
          obtain ⟨_, _, _, _, X, q0, q1, q2, q3⟩ := own4_at own9 (Nat.lt_succ_self 0)
          have X' := X.out
          simp only [List.getElem?_cons_zero, Option.some.injEq, Prod.mk.injEq] at X'
          obtain ⟨rfl, rfl, rfl, rfl⟩ := X'
          obtain ⟨_, _, _, _, _, r0, r1, r2, r3⟩ := own4_at R9 (Nat.lt_succ_self 0)
          have f0 := own9.frozenAt 0
          have f1 := own9.frozenAt 1
          have f2 := own9.frozenAt 2
          have f3 := own9.frozenAt 3
          have h0 := R9.frozenAt 0
          have h1 := R9.frozenAt 1
          have h2 := R9.frozenAt 2
          have h3 := R9.frozenAt 3
          simp only [Nat.zero_mul, Nat.zero_add] at q0 q1 q2 q3 r0 r1 r2 r3
          clear own9 R9 X
          go_wp2
          refine bodyPost_ret (v := .agg #[.int .i64 x9, .int .i64 (z2 : Int), .int .i64 x, .int .i64 (1 + (u : Int))]) (by simp [results, Try.results80, go_sem, r0, r1, r2, r3]) rfl ⟨_, _, _, _, rfl, ?_, ?_⟩
          · exact ((((((hr9.more (by omega)).setc (Nat.le_trans hB (Nat.le_of_lt hs3)) _).setc hB _).setc hB _).setc hB _).setc hB _)
          · exact (((((hT9.set (Nat.le_of_lt hs3) _).set (Nat.le_refl _) _).set (Nat.le_refl _) _).set (Nat.le_refl _) _).set (Nat.le_refl _) _)
        · have ha : Ext w8 (w8.alloc (.cells #[.int .i64 (-1), .int .i64 100] 3)) := (Below.refl _ _).alloc (Nat.le_refl _) _
          have hL : ∀ k, k < 2 → ∃ y : Int, (w8.alloc (.cells #[.int .i64 (-1), .int .i64 100] 3)).cell? ⟨w8.heap.size, k, none⟩ = some (.int .i64 y) := fun k hk => by
            rw [cell_of_row _ _ k _ _ _ (heap_alloc_new w8 _)]
            obtain rfl | rfl : k = 0 ∨ k = 1 := by omega
            all_goals exact ⟨_, rfl⟩
          have hr8x := hr8.keep ha
          have hT8x := hT8.trans (Tch.ext (S := (· = g)) ha)
          have own8x := own8.below ha
          have R8x := R8.below ha
          have hn7 : ¬ w8.heap.size = g := by have := hr8.lt; omega
          clear ha hr8 hT8 own8 R8
          go_wp2_with fail
          refine (pickT _ _ _ _ _ hr8x (by omega) (by omega) (by omega)).mono ?_; rintro e w9 ⟨z3, hz3, rfl, hr9, ht9⟩
          obtain ⟨x9, hx9⟩ := hL z3 (by omega)
          have Q := ht9.cell hx9 hn7
          have own9 := own8x.only ht9 (fun k e => by subst e; exact hgw)
          have R9 := R8x.only ht9 (fun k e => by subst e; exact hgw)
          have hT9 := hT8x.trans ht9
          clear hL hx9 hr8x hT8x own8x R8x ht9
          obtain ⟨_, _, _, _, X, q0, q1, q2, q3⟩ := own4_at own9 (Nat.lt_succ_self 0)
          have X' := X.out
          simp only [List.getElem?_cons_zero, Option.some.injEq, Prod.mk.injEq] at X'
          obtain ⟨rfl, rfl, rfl, rfl⟩ := X'
          obtain ⟨_, _, _, _, _, r0, r1, r2, r3⟩ := own4_at R9 (Nat.lt_succ_self 0)
          have f0 := own9.frozenAt 0
          have f1 := own9.frozenAt 1
          have f2 := own9.frozenAt 2
          have f3 := own9.frozenAt 3
          have h0 := R9.frozenAt 0
          have h1 := R9.frozenAt 1
          have h2 := R9.frozenAt 2
          have h3 := R9.frozenAt 3
          simp only [Nat.zero_mul, Nat.zero_add] at q0 q1 q2 q3 r0 r1 r2 r3
          clear own9 R9 X
          go_wp2
          refine bodyPost_ret (v := .agg #[.int .i64 (1 + (z1 : Int)), .int .i64 x9, .int .i64 x, .int .i64 (1 + (u : Int))]) (by simp [results, Try.results80, go_sem, r0, r1, r2, r3]) rfl ⟨_, _, _, _, rfl, ?_, ?_⟩
          · exact ((((((hr9.more (by omega)).setc (Nat.le_trans hB (Nat.le_of_lt hs3)) _).setc hB _).setc hB _).setc hB _).setc hB _)
          · exact (((((hT9.set (Nat.le_of_lt hs3) _).set (Nat.le_refl _) _).set (Nat.le_refl _) _).set (Nat.le_refl _) _).set (Nat.le_refl _) _)
        · obtain ⟨_, _, _, _, X, q0, q1, q2, q3⟩ := own4_at own8 (Nat.lt_succ_self 0)
          have X' := X.out
          simp only [List.getElem?_cons_zero, Option.some.injEq, Prod.mk.injEq] at X'
          obtain ⟨rfl, rfl, rfl, rfl⟩ := X'
          obtain ⟨_, _, _, _, _, r0, r1, r2, r3⟩ := own4_at R8 (Nat.lt_succ_self 0)
          have f0 := own8.frozenAt 0
          have f1 := own8.frozenAt 1
          have f2 := own8.frozenAt 2
          have f3 := own8.frozenAt 3
          have h0 := R8.frozenAt 0
          have h1 := R8.frozenAt 1
          have h2 := R8.frozenAt 2
          have h3 := R8.frozenAt 3
          simp only [Nat.zero_mul, Nat.zero_add] at q0 q1 q2 q3 r0 r1 r2 r3
          clear own8 R8 X
          go_wp2
          refine bodyPost_ret (v := .agg #[.int .i64 (1 + (z1 : Int)), .int .i64 (z2 : Int), .int .i64 16, .int .i64 (1 + (u : Int))]) (by simp [results, Try.results80, go_sem, r0, r1, r2, r3]) rfl ⟨_, _, _, _, rfl, ?_, ?_⟩
          · exact ((((((hr8.more (by omega)).setc (Nat.le_trans hB (Nat.le_of_lt hs3)) _).setc hB _).setc hB _).setc hB _).setc hB _)
          · exact (((((hT8.set (Nat.le_of_lt hs3) _).set (Nat.le_refl _) _).set (Nat.le_refl _) _).set (Nat.le_refl _) _).set (Nat.le_refl _) _)
        · have ha : Ext w8 (w8.alloc (.cells #[.int .i64 (-1), .int .i64 1000] 3)) := (Below.refl _ _).alloc (Nat.le_refl _) _
          have hL : ∀ k, k < 2 → ∃ y : Int, (w8.alloc (.cells #[.int .i64 (-1), .int .i64 1000] 3)).cell? ⟨w8.heap.size, k, none⟩ = some (.int .i64 y) := fun k hk => by
            rw [cell_of_row _ _ k _ _ _ (heap_alloc_new w8 _)]
            obtain rfl | rfl : k = 0 ∨ k = 1 := by omega
            all_goals exact ⟨_, rfl⟩
          have hr8x := hr8.keep ha
          have hT8x := hT8.trans (Tch.ext (S := (· = g)) ha)
          have own8x := own8.below ha
          have R8x := R8.below ha
          have hn7 : ¬ w8.heap.size = g := by have := hr8.lt; omega
          clear ha hr8 hT8 own8 R8
          go_wp2_with fail
          refine (pickT _ _ _ _ _ hr8x (by omega) (by omega) (by omega)).mono ?_; rintro e w9 ⟨z3, hz3, rfl, hr9, ht9⟩
          obtain ⟨x9, hx9⟩ := hL z3 (by omega)
          have Q := ht9.cell hx9 hn7
          have own9 := own8x.only ht9 (fun k e => by subst e; exact hgw)
          have R9 := R8x.only ht9 (fun k e => by subst e; exact hgw)
          have hT9 := hT8x.trans ht9
          clear hL hx9 hr8x hT8x own8x R8x ht9
          obtain ⟨_, _, _, _, X, q0, q1, q2, q3⟩ := own4_at own9 (Nat.lt_succ_self 0)
          have X' := X.out
          simp only [List.getElem?_cons_zero, Option.some.injEq, Prod.mk.injEq] at X'
          obtain ⟨rfl, rfl, rfl, rfl⟩ := X'
          obtain ⟨_, _, _, _, _, r0, r1, r2, r3⟩ := own4_at R9 (Nat.lt_succ_self 0)
          have f0 := own9.frozenAt 0
          have f1 := own9.frozenAt 1
          have f2 := own9.frozenAt 2
          have f3 := own9.frozenAt 3
          have h0 := R9.frozenAt 0
          have h1 := R9.frozenAt 1
          have h2 := R9.frozenAt 2
          have h3 := R9.frozenAt 3
          simp only [Nat.zero_mul, Nat.zero_add] at q0 q1 q2 q3 r0 r1 r2 r3
          clear own9 R9 X
          go_wp2
          refine bodyPost_ret (v := .agg #[.int .i64 (1 + (z1 : Int)), .int .i64 (z2 : Int), .int .i64 x, .int .i64 x9]) (by simp [results, Try.results80, go_sem, r0, r1, r2, r3]) rfl ⟨_, _, _, _, rfl, ?_, ?_⟩
          · exact ((((((hr9.more (by omega)).setc (Nat.le_trans hB (Nat.le_of_lt hs3)) _).setc hB _).setc hB _).setc hB _).setc hB _)
          · exact (((((hT9.set (Nat.le_of_lt hs3) _).set (Nat.le_refl _) _).set (Nat.le_refl _) _).set (Nat.le_refl _) _).set (Nat.le_refl _) _)
        · obtain ⟨_, _, _, _, X, q0, q1, q2, q3⟩ := own4_at own8 (Nat.lt_succ_self 0)
          have X' := X.out
          simp only [List.getElem?_cons_zero, Option.some.injEq, Prod.mk.injEq] at X'
          obtain ⟨rfl, rfl, rfl, rfl⟩ := X'
          obtain ⟨_, _, _, _, _, r0, r1, r2, r3⟩ := own4_at R8 (Nat.lt_succ_self 0)
          have f0 := own8.frozenAt 0
          have f1 := own8.frozenAt 1
          have f2 := own8.frozenAt 2
          have f3 := own8.frozenAt 3
          have h0 := R8.frozenAt 0
          have h1 := R8.frozenAt 1
          have h2 := R8.frozenAt 2
          have h3 := R8.frozenAt 3
          simp only [Nat.zero_mul, Nat.zero_add] at q0 q1 q2 q3 r0 r1 r2 r3
          clear own8 R8 X
          go_wp2
          refine bodyPost_ret (v := .agg #[.int .i64 6, .int .i64 0, .int .i64 0, .int .i64 1]) (by simp [results, Try.results80, go_sem, r0, r1, r2, r3]) rfl ⟨_, _, _, _, rfl, ?_, ?_⟩
          · exact (((((((((hr8.more (by omega)).setc (Nat.le_trans hB (Nat.le_of_lt hs3)) _).setc (Nat.le_trans hB (Nat.le_of_lt hs3)) _).setc (Nat.le_trans hB (Nat.le_of_lt hs3)) _).setc (Nat.le_trans hB (Nat.le_of_lt hs3)) _).setc hB _).setc hB _).setc hB _).setc hB _)
          · exact ((((((((hT8.set (Nat.le_of_lt hs3) _).set (Nat.le_of_lt hs3) _).set (Nat.le_of_lt hs3) _).set (Nat.le_of_lt hs3) _).set (Nat.le_refl _) _).set (Nat.le_refl _) _).set (Nat.le_refl _) _).set (Nat.le_refl _) _)
    · have hyb : ((y : Int) == 0) = false := by simpa using hy0
      go_wp2_with fail
      refine (oddT _ _ _ _ _ hr5 hn (by omega) (by omega)).mono ?_; rintro e w6 ⟨t, rfl, _, hr6, ht6⟩
      have own6 := own5.only ht6 (fun k e => by subst e; exact hgw)
      have R6 := R5.only ht6 (fun k e => by subst e; exact hgw)
      have hT6 := hT5.trans ht6
      clear own5 R5 hT5 hr5 ht6
      cases t
      · obtain ⟨_, _, _, _, X, q0, q1, q2, q3⟩ := own4_at own6 (Nat.lt_succ_self 0)
        have X' := X.out
        simp only [List.getElem?_cons_zero, Option.some.injEq, Prod.mk.injEq] at X'
        obtain ⟨rfl, rfl, rfl, rfl⟩ := X'
        obtain ⟨_, _, _, _, _, r0, r1, r2, r3⟩ := own4_at R6 (Nat.lt_succ_self 0)
        have f0 := own6.frozenAt 0
        have f1 := own6.frozenAt 1
        have f2 := own6.frozenAt 2
        have f3 := own6.frozenAt 3
        have h0 := R6.frozenAt 0
        have h1 := R6.frozenAt 1
        have h2 := R6.frozenAt 2
        have h3 := R6.frozenAt 3
        simp only [Nat.zero_mul, Nat.zero_add] at q0 q1 q2 q3 r0 r1 r2 r3
        clear own6 R6 X
        go_wp2
        refine bodyPost_ret (v := .agg #[.int .i64 (1 + (z1 : Int)), .int .i64 (z2 : Int), .int .i64 x, .int .i64 0]) (by simp [results, Try.results80, go_sem, r0, r1, r2, r3]) rfl ⟨_, _, _, _, rfl, ?_, ?_⟩
        · exact (((((hr6.more (by omega)).setc hB _).setc hB _).setc hB _).setc hB _)
        · exact ((((hT6.set (Nat.le_refl _) _).set (Nat.le_refl _) _).set (Nat.le_refl _) _).set (Nat.le_refl _) _)
      · go_wp2_with fail
        refine (pickT _ _ _ _ _ hr6 (by omega) (by omega) (by omega)).mono ?_; rintro e w8 ⟨z, hz, rfl, hr8, ht8⟩
        have own8 := own6.only ht8 (fun k e => by subst e; exact hgw)
        have R8 := R6.only ht8 (fun k e => by subst e; exact hgw)
        have hT8 := hT6.trans ht8
        clear own6 R6 hT6 hr6 ht8
        obtain rfl | rfl | rfl | rfl | rfl : z = 0 ∨ z = 1 ∨ z = 2 ∨ z = 3 ∨ z = 4 := by omega
        · have ha : Ext w8 (w8.alloc (.cells #[.int .i64 (-1), .int .i64 8, .int .i64 0] 3)) := (Below.refl _ _).alloc (Nat.le_refl _) _
          have hL : ∀ k, k < 3 → ∃ y : Int, (w8.alloc (.cells #[.int .i64 (-1), .int .i64 8, .int .i64 0] 3)).cell? ⟨w8.heap.size, k, none⟩ = some (.int .i64 y) := fun k hk => by
            rw [cell_of_row _ _ k _ _ _ (heap_alloc_new w8 _)]
            obtain rfl | rfl | rfl : k = 0 ∨ k = 1 ∨ k = 2 := by omega
            all_goals exact ⟨_, rfl⟩
          have hr8x := hr8.keep ha
          have hT8x := hT8.trans (Tch.ext (S := (· = g)) ha)
          have own8x := own8.below ha
          have R8x := R8.below ha
          have hn7 : ¬ w8.heap.size = g := by have := hr8.lt; omega
          clear ha hr8 hT8 own8 R8
          go_wp2_with fail
          refine (pickT _ _ _ _ _ hr8x (by omega) (by omega) (by omega)).mono ?_; rintro e w9 ⟨z3, hz3, rfl, hr9, ht9⟩
          obtain ⟨x9, hx9⟩ := hL z3 (by omega)
          have Q := ht9.cell hx9 hn7
          have own9 := own8x.only ht9 (fun k e => by subst e; exact hgw)
          have R9 := R8x.only ht9 (fun k e => by subst e; exact hgw)
          have hT9 := hT8x.trans ht9
          clear hL hx9 hr8x hT8x own8x R8x ht9
          obtain ⟨_, _, _, _, X, q0, q1, q2, q3⟩ := own4_at own9 (Nat.lt_succ_self 0)
          have X' := X.out
          simp only [List.getElem?_cons_zero, Option.some.injEq, Prod.mk.injEq] at X'
          obtain ⟨rfl, rfl, rfl, rfl⟩ := X'
          obtain ⟨_, _, _, _, _, r0, r1, r2, r3⟩ := own4_at R9 (Nat.lt_succ_self 0)
          have f0 := own9.frozenAt 0
          have f1 := own9.frozenAt 1
          have f2 := own9.frozenAt 2
          have f3 := own9.frozenAt 3
          have h0 := R9.frozenAt 0
          have h1 := R9.frozenAt 1
          have h2 := R9.frozenAt 2
          have h3 := R9.frozenAt 3
          simp only [Nat.zero_mul, Nat.zero_add] at q0 q1 q2 q3 r0 r1 r2 r3
          clear own9 R9 X
          go_wp2
          refine bodyPost_ret (v := .agg #[.int .i64 x9, .int .i64 (z2 : Int), .int .i64 x, .int .i64 0]) (by simp [results, Try.results80, go_sem, r0, r1, r2, r3]) rfl ⟨_, _, _, _, rfl, ?_, ?_⟩
          · exact ((((((hr9.more (by omega)).setc (Nat.le_trans hB (Nat.le_of_lt hs3)) _).setc hB _).setc hB _).setc hB _).setc hB _)
          · exact (((((hT9.set (Nat.le_of_lt hs3) _).set (Nat.le_refl _) _).set (Nat.le_refl _) _).set (Nat.le_refl _) _).set (Nat.le_refl _) _)
        · have ha : Ext w8 (w8.alloc (.cells #[.int .i64 (-1), .int .i64 100] 3)) := (Below.refl _ _).alloc (Nat.le_refl _) _
          have hL : ∀ k, k < 2 → ∃ y : Int, (w8.alloc (.cells #[.int .i64 (-1), .int .i64 100] 3)).cell? ⟨w8.heap.size, k, none⟩ = some (.int .i64 y) := fun k hk => by
            rw [cell_of_row _ _ k _ _ _ (heap_alloc_new w8 _)]
            obtain rfl | rfl : k = 0 ∨ k = 1 := by omega
            all_goals exact ⟨_, rfl⟩
          have hr8x := hr8.keep ha
          have hT8x := hT8.trans (Tch.ext (S := (· = g)) ha)
          have own8x := own8.below ha
          have R8x := R8.below ha
          have hn7 : ¬ w8.heap.size = g := by have := hr8.lt; omega
          clear ha hr8 hT8 own8 R8
          go_wp2_with fail
          refine (pickT _ _ _ _ _ hr8x (by omega) (by omega) (by omega)).mono ?_; rintro e w9 ⟨z3, hz3, rfl, hr9, ht9⟩
          obtain ⟨x9, hx9⟩ := hL z3 (by omega)
          have Q := ht9.cell hx9 hn7
          have own9 := own8x.only ht9 (fun k e => by subst e; exact hgw)
          have R9 := R8x.only ht9 (fun k e => by subst e; exact hgw)
          have hT9 := hT8x.trans ht9
          clear hL hx9 hr8x hT8x own8x R8x ht9
          obtain ⟨_, _, _, _, X, q0, q1, q2, q3⟩ := own4_at own9 (Nat.lt_succ_self 0)
          have X' := X.out
          simp only [List.getElem?_cons_zero, Option.some.injEq, Prod.mk.injEq] at X'
          obtain ⟨rfl, rfl, rfl, rfl⟩ := X'
          obtain ⟨_, _, _, _, _, r0, r1, r2, r3⟩ := own4_at R9 (Nat.lt_succ_self 0)
          have f0 := own9.frozenAt 0
          have f1 := own9.frozenAt 1
          have f2 := own9.frozenAt 2
          have f3 := own9.frozenAt 3
          have h0 := R9.frozenAt 0
          have h1 := R9.frozenAt 1
          have h2 := R9.frozenAt 2
          have h3 := R9.frozenAt 3
          simp only [Nat.zero_mul, Nat.zero_add] at q0 q1 q2 q3 r0 r1 r2 r3
          clear own9 R9 X
          go_wp2
          refine bodyPost_ret (v := .agg #[.int .i64 (1 + (z1 : Int)), .int .i64 x9, .int .i64 x, .int .i64 0]) (by simp [results, Try.results80, go_sem, r0, r1, r2, r3]) rfl ⟨_, _, _, _, rfl, ?_, ?_⟩
          · exact ((((((hr9.more (by omega)).setc (Nat.le_trans hB (Nat.le_of_lt hs3)) _).setc hB _).setc hB _).setc hB _).setc hB _)
          · exact (((((hT9.set (Nat.le_of_lt hs3) _).set (Nat.le_refl _) _).set (Nat.le_refl _) _).set (Nat.le_refl _) _).set (Nat.le_refl _) _)
        · obtain ⟨_, _, _, _, X, q0, q1, q2, q3⟩ := own4_at own8 (Nat.lt_succ_self 0)
          have X' := X.out
          simp only [List.getElem?_cons_zero, Option.some.injEq, Prod.mk.injEq] at X'
          obtain ⟨rfl, rfl, rfl, rfl⟩ := X'
          obtain ⟨_, _, _, _, _, r0, r1, r2, r3⟩ := own4_at R8 (Nat.lt_succ_self 0)
          have f0 := own8.frozenAt 0
          have f1 := own8.frozenAt 1
          have f2 := own8.frozenAt 2
          have f3 := own8.frozenAt 3
          have h0 := R8.frozenAt 0
          have h1 := R8.frozenAt 1
          have h2 := R8.frozenAt 2
          have h3 := R8.frozenAt 3
          simp only [Nat.zero_mul, Nat.zero_add] at q0 q1 q2 q3 r0 r1 r2 r3
          clear own8 R8 X
          go_wp2
          refine bodyPost_ret (v := .agg #[.int .i64 (1 + (z1 : Int)), .int .i64 (z2 : Int), .int .i64 16, .int .i64 0]) (by simp [results, Try.results80, go_sem, r0, r1, r2, r3]) rfl ⟨_, _, _, _, rfl, ?_, ?_⟩
          · exact ((((((hr8.more (by omega)).setc (Nat.le_trans hB (Nat.le_of_lt hs3)) _).setc hB _).setc hB _).setc hB _).setc hB _)
          · exact (((((hT8.set (Nat.le_of_lt hs3) _).set (Nat.le_refl _) _).set (Nat.le_refl _) _).set (Nat.le_refl _) _).set (Nat.le_refl _) _)
        · have ha : Ext w8 (w8.alloc (.cells #[.int .i64 (-1), .int .i64 1000] 3)) := (Below.refl _ _).alloc (Nat.le_refl _) _
          have hL : ∀ k, k < 2 → ∃ y : Int, (w8.alloc (.cells #[.int .i64 (-1), .int .i64 1000] 3)).cell? ⟨w8.heap.size, k, none⟩ = some (.int .i64 y) := fun k hk => by
            rw [cell_of_row _ _ k _ _ _ (heap_alloc_new w8 _)]
            obtain rfl | rfl : k = 0 ∨ k = 1 := by omega
            all_goals exact ⟨_, rfl⟩
          have hr8x := hr8.keep ha
          have hT8x := hT8.trans (Tch.ext (S := (· = g)) ha)
          have own8x := own8.below ha
          have R8x := R8.below ha
          have hn7 : ¬ w8.heap.size = g := by have := hr8.lt; omega
          clear ha hr8 hT8 own8 R8
          go_wp2_with fail
          refine (pickT _ _ _ _ _ hr8x (by omega) (by omega) (by omega)).mono ?_; rintro e w9 ⟨z3, hz3, rfl, hr9, ht9⟩
          obtain ⟨x9, hx9⟩ := hL z3 (by omega)
          have Q := ht9.cell hx9 hn7
          have own9 := own8x.only ht9 (fun k e => by subst e; exact hgw)
          have R9 := R8x.only ht9 (fun k e => by subst e; exact hgw)
          have hT9 := hT8x.trans ht9
          clear hL hx9 hr8x hT8x own8x R8x ht9
          obtain ⟨_, _, _, _, X, q0, q1, q2, q3⟩ := own4_at own9 (Nat.lt_succ_self 0)
          have X' := X.out
          simp only [List.getElem?_cons_zero, Option.some.injEq, Prod.mk.injEq] at X'
          obtain ⟨rfl, rfl, rfl, rfl⟩ := X'
          obtain ⟨_, _, _, _, _, r0, r1, r2, r3⟩ := own4_at R9 (Nat.lt_succ_self 0)
          have f0 := own9.frozenAt 0
          have f1 := own9.frozenAt 1
          have f2 := own9.frozenAt 2
          have f3 := own9.frozenAt 3
          have h0 := R9.frozenAt 0
          have h1 := R9.frozenAt 1
          have h2 := R9.frozenAt 2
          have h3 := R9.frozenAt 3
          simp only [Nat.zero_mul, Nat.zero_add] at q0 q1 q2 q3 r0 r1 r2 r3
          clear own9 R9 X
          go_wp2
          refine bodyPost_ret (v := .agg #[.int .i64 (1 + (z1 : Int)), .int .i64 (z2 : Int), .int .i64 x, .int .i64 x9]) (by simp [results, Try.results80, go_sem, r0, r1, r2, r3]) rfl ⟨_, _, _, _, rfl, ?_, ?_⟩
          · exact ((((((hr9.more (by omega)).setc (Nat.le_trans hB (Nat.le_of_lt hs3)) _).setc hB _).setc hB _).setc hB _).setc hB _)
          · exact (((((hT9.set (Nat.le_of_lt hs3) _).set (Nat.le_refl _) _).set (Nat.le_refl _) _).set (Nat.le_refl _) _).set (Nat.le_refl _) _)
        · obtain ⟨_, _, _, _, X, q0, q1, q2, q3⟩ := own4_at own8 (Nat.lt_succ_self 0)
          have X' := X.out
          simp only [List.getElem?_cons_zero, Option.some.injEq, Prod.mk.injEq] at X'
          obtain ⟨rfl, rfl, rfl, rfl⟩ := X'
          obtain ⟨_, _, _, _, _, r0, r1, r2, r3⟩ := own4_at R8 (Nat.lt_succ_self 0)
          have f0 := own8.frozenAt 0
          have f1 := own8.frozenAt 1
          have f2 := own8.frozenAt 2
          have f3 := own8.frozenAt 3
          have h0 := R8.frozenAt 0
          have h1 := R8.frozenAt 1
          have h2 := R8.frozenAt 2
          have h3 := R8.frozenAt 3
          simp only [Nat.zero_mul, Nat.zero_add] at q0 q1 q2 q3 r0 r1 r2 r3
          clear own8 R8 X
          go_wp2
          refine bodyPost_ret (v := .agg #[.int .i64 6, .int .i64 0, .int .i64 0, .int .i64 1]) (by simp [results, Try.results80, go_sem, r0, r1, r2, r3]) rfl ⟨_, _, _, _, rfl, ?_, ?_⟩
          · exact (((((((((hr8.more (by omega)).setc (Nat.le_trans hB (Nat.le_of_lt hs3)) _).setc (Nat.le_trans hB (Nat.le_of_lt hs3)) _).setc (Nat.le_trans hB (Nat.le_of_lt hs3)) _).setc (Nat.le_trans hB (Nat.le_of_lt hs3)) _).setc hB _).setc hB _).setc hB _).setc hB _)
          · exact ((((((((hT8.set (Nat.le_of_lt hs3) _).set (Nat.le_of_lt hs3) _).set (Nat.le_of_lt hs3) _).set (Nat.le_of_lt hs3) _).set (Nat.le_refl _) _).set (Nat.le_refl _) _).set (Nat.le_refl _) _).set (Nat.le_refl _) _)
end Go.Proofs.Yteahiiflgiimnaa
