/-
  The rights that the reference draws.
-/
import Derived.Test.YteahiiflgiimnaaDrv
namespace Go.Proofs.Yteahiiflgiimnaa
open Go.RowKit

theorem lit3r (w : World) (e : Nat) (a b c : Int) {k : Nat} (hk : k < 3) : ∃ x : Int, (x = a ∨ x = b ∨ x = c) ∧ (w.alloc (.cells #[.int .i64 a, .int .i64 b, .int .i64 c] e)).cell? ⟨w.heap.size, k, none⟩ = some (.int .i64 x) := by
  rw [cell_of_row _ _ k _ _ _ (heap_alloc_new w _)]
  obtain rfl | rfl | rfl : k = 0 ∨ k = 1 ∨ k = 2 := by omega
  · exact ⟨a, .inl rfl, rfl⟩
  · exact ⟨b, .inr (.inl rfl), rfl⟩
  · exact ⟨c, .inr (.inr rfl), rfl⟩

set_option maxHeartbeats 1000000 in
theorem l20Rights_any (B g p : Nat) (n : Int) (w : World) (h : Rdr w B g p) (hn : 0 ≤ n) (hn' : n ≤ 1000) (hp : p ≤ 900000) :
    Calls Try.prog 95 #[.pointer (some ⟨g, 0, none⟩), .int .i64 n] w fun e w' => ∃ x : Int, e = .returned (.int .i64 x) ∧ -1 ≤ x ∧ x ≤ 16 ∧ (n = 0 → 0 ≤ x ∧ x ≤ 15) ∧ Rdr w' B g (p + 10) ∧ Tch w w' (· = g) := by
  go_enter Try.func95, Try.ntmps95
  go_wp2_with fail
  refine (oddT _ _ _ _ _ h hn (by omega) (by omega)).mono ?_; rintro e w1 ⟨t, rfl, hz, hr1, ht1⟩
  have hg1 := hr1.lt
  cases t
  · go_wp2_with fail
    refine (pickT _ _ _ _ _ hr1 (by omega) (by omega) (by omega)).mono ?_; rintro e w2 ⟨z1, hz1, rfl, hr2, ht2⟩
    go_wp2_with fail
    refine (pickT _ _ _ _ _ hr2 (by omega) (by omega) (by omega)).mono ?_; rintro e w3 ⟨z2, hz2, rfl, hr3, ht3⟩
    have hg3 := hr3.lt
    have ha : Ext w3 (w3.alloc (.cells #[.int .i64 (z1 : Int), .int .i64 15, .int .i64 (z2 : Int)] 3)) := (Below.refl _ _).alloc (Nat.le_refl _) _
    have hr4 := hr3.keep ha
    have hL : ∀ k, k < 3 → ∃ x : Int, (x = (z1 : Int) ∨ x = 15 ∨ x = (z2 : Int)) ∧ (w3.alloc (.cells #[.int .i64 (z1 : Int), .int .i64 15, .int .i64 (z2 : Int)] 3)).cell? ⟨w3.heap.size, k, none⟩ = some (.int .i64 x) := fun k hk => lit3r w3 _ _ _ _ hk
    have hT := ((ht1.trans ht2).trans ht3).trans (Tch.ext (S := (· = g)) ha)
    clear ht1 ht2 ht3 ha hr1 hr2 hr3 h
    go_wp2_with fail
    refine (pickT _ _ _ _ _ hr4 (by omega) (by omega) (by omega)).mono ?_; rintro e w5 ⟨z3, hz3, rfl, hr5, ht5⟩
    obtain ⟨x, hx, q0⟩ := hL z3 (by omega)
    have Q := ht5.cell q0 (show ¬ _ = g by omega)
    clear hL q0 hr4
    go_wp2
    go_ret
    exact ⟨x, rfl, by omega, by omega, fun _ => ⟨by omega, by omega⟩, hr5.more (by omega), hT.trans ht5⟩
  · have ha : Ext w1 (w1.alloc (.cells #[.int .i64 (-1), .int .i64 16] 3)) := (Below.refl _ _).alloc (Nat.le_refl _) _
    have hr4 := hr1.keep ha
    have hL : ∀ k, k < 2 → (w1.alloc (.cells #[.int .i64 (-1), .int .i64 16] 3)).cell? ⟨w1.heap.size, k, none⟩ = some (.int .i64 (lit2 (-1) 16 k)) := fun k hk => lit2_cell w1 _ _ _ hk
    have hT := ht1.trans (Tch.ext (S := (· = g)) ha)
    clear ht1 ha hr1 h
    go_wp2_with fail
    refine (pickT _ _ _ _ _ hr4 (by omega) (by omega) (by omega)).mono ?_; rintro e w5 ⟨z3, hz3, rfl, hr5, ht5⟩
    have Q := ht5.cell (hL z3 (by omega)) (show ¬ _ = g by omega)
    have hl : lit2 (-1) 16 z3 = -1 ∨ lit2 (-1) 16 z3 = 16 := by unfold lit2; split <;> simp
    clear hL hr4
    go_wp2
    go_ret
    exact ⟨_, rfl, by omega, by omega, fun e => (by have := hz e; cases this), hr5.more (by omega), hT.trans ht5⟩
end Go.Proofs.Yteahiiflgiimnaa
