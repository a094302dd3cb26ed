/-
  The addresses that the reference draws; DrawTranslate.
-/
import Derived.Test.YteahiiflgiimnaaMpK
import Derived.Test.YteahiiflgiimnaaDrR
namespace Go.Proofs.Yteahiiflgiimnaa
open Go.RowKit

set_option maxHeartbeats 1000000 in
theorem l20Address_any (B g p : Nat) (n : Int) (w : World) (h : Rdr w B g p) (hn : 0 ≤ n) (hn' : n ≤ 1000) (hp : p ≤ 900000) :
    Calls Try.prog 76 #[.pointer (some ⟨g, 0, none⟩), .int .i64 n] w fun e w' => ∃ x : Int, e = .returned (.int .i64 x) ∧ -1 ≤ x ∧ x ≤ 65536 ∧ (n = 0 → 0 ≤ x ∧ x ≤ 3327) ∧ Rdr w' B g (p + 10) ∧ Tch w w' (· = g) := by
  go_enter Try.func76, Try.ntmps76
  go_wp2_with fail
  refine (oddT _ _ _ _ _ h hn (by omega) (by omega)).mono ?_; rintro e w1 ⟨t, rfl, hz, hr1, ht1⟩
  have hg1 := hr1.lt
  cases t
  · go_wp2_with fail
    refine (pickT _ _ _ _ _ hr1 (by omega) (by omega) (by omega)).mono ?_; rintro e w2 ⟨z1, hz1, rfl, hr2, ht2⟩
    go_wp2_with fail
    refine (pickT _ _ _ _ _ hr2 (by omega) (by omega) (by omega)).mono ?_; rintro e w3 ⟨z2, hz2, rfl, hr3, ht3⟩
    go_wp2
    go_ret
    exact ⟨_, rfl, by omega, by omega, fun _ => ⟨by omega, by omega⟩, hr3.more (by omega), (ht1.trans ht2).trans ht3⟩
  · have ha : Ext w1 (w1.alloc (.cells #[.int .i64 (-1), .int .i64 65536] 3)) := (Below.refl _ _).alloc (Nat.le_refl _) _
    have hr4 := hr1.keep ha
    have hL : ∀ k, k < 2 → (w1.alloc (.cells #[.int .i64 (-1), .int .i64 65536] 3)).cell? ⟨w1.heap.size, k, none⟩ = some (.int .i64 (lit2 (-1) 65536 k)) := fun k hk => lit2_cell w1 _ _ _ hk
    have hT := ht1.trans (Tch.ext (S := (· = g)) ha)
    clear ht1 ha hr1 h
    go_wp2_with fail
    refine (pickT _ _ _ _ _ hr4 (by omega) (by omega) (by omega)).mono ?_; rintro e w5 ⟨z3, hz3, rfl, hr5, ht5⟩
    have Q := ht5.cell (hL z3 (by omega)) (show ¬ _ = g by omega)
    have hl : lit2 (-1) 65536 z3 = -1 ∨ lit2 (-1) 65536 z3 = 65536 := by unfold lit2; split <;> simp
    clear hL hr4
    go_wp2
    go_ret
    exact ⟨_, rfl, by omega, by omega, fun e => (by have := hz e; cases this), hr5.more (by omega), hT.trans ht5⟩

set_option maxRecDepth 10000 in
set_option maxHeartbeats 1000000 in
theorem DrawTranslate_any (A : Option Addr) (n c : Nat) (bs : List UInt8) (w : World) (h : Rd w 1 A n c (cU bs)) :
    Calls Try.prog 59 #[.slice A n c] w fun e w' => ∃ A' n' c' ms a r, e = .returned (.tuple #[.slice A' n' c', .int .i64 a, .int .i64 r]) ∧ Rd w' 3 A' n' c' (c3 ms) ∧ n' ≤ 22 ∧ (-1 ≤ a ∧ a ≤ 65536) ∧ (-1 ≤ r ∧ r ≤ 16) ∧ Ext w w' := by
  go_enter Try.func59, Try.ntmps59
  go_wp2_with fail
  refine (l20Open_any _ _ _ _ _ h).mono ?_; rintro e w1 ⟨rfl, hr, hb⟩
  have hs := hr.lt
  go_wp2_with fail
  refine (l20Space_any _ _ _ _ _ hr (by omega) (by omega) (by omega) (by omega)).mono ?_; rintro e w2 ⟨A', n', c', ms, rfl, hA, h9, hr2, ht⟩
  have hb2 := ext_tch hb ht (fun k e => by subst e; exact Nat.le_refl _)
  go_wp2_with fail
  refine (l20Address_any _ _ _ _ _ hr2 (by omega) (by omega) (by omega)).mono ?_; rintro e w3 ⟨a, rfl, ha0, ha1, _, hr3, ht3⟩
  have hA3 := hA.pastT ht3 (fun k e => by subst e; exact hs)
  have hb3 := ext_tch hb2 ht3 (fun k e => by subst e; exact Nat.le_refl _)
  obtain ⟨g, hg⟩ : ∃ g, w.heap.size = g := ⟨_, rfl⟩
  rw [hg] at hs hr3 ⊢
  clear hr hr2 hb hb2 hA ht ht3 h
  go_wp2_with fail
  refine wp_region_draw (g := g) (B := g + 1) (200) 12 [.eq _ (Value.slice A' n' c'), .eq _ (Value.int .i64 a), .eq _ (Value.pointer (some ⟨g, 0, none⟩)), .rng _ (-1) (16), .lit _ 5 (-1) (16), .eq _ (Value.pointer (some ⟨g, 0, none⟩)), .rng _ (0) (4), .adr _ (-1) (16), .rng _ (-1) (16), .eq _ (Value.slice A' n' c'), .eq _ (Value.int .i64 a), .rng _ (-1) (16)] (by kernel_rfl) (by kernel_rfl) (by rfl) (hr3.more (by omega)) ?_ ?_
  · refine ⟨?_, ?_, ?_, ?_, ?_, ?_, ?_, ?_, ?_, ?_, ?_, ?_, trivial⟩
    · intro t a_ vs wt ht hI hD hA K hK
      have a6 : a_.tmps[6]?.getD undef = Value.slice A' n' c' := hA 6
      clear hA hD
      go_simp
      exact hK _ _ rfl (Tch.refl _ _) hI.stay
    · intro t a_ vs wt ht hI hD hA K hK
      have a7 : a_.tmps[7]?.getD undef = Value.int .i64 a := hA 7
      clear hA hD
      go_simp
      exact hK _ _ rfl (Tch.refl _ _) hI.stay
    · intro t a_ vs wt ht hI hD hA K hK
      have a5 : a_.tmps[5]?.getD undef = Value.pointer (some ⟨g, 0, none⟩) := hA 5
      clear hA hD
      go_simp
      exact hK _ _ rfl (Tch.refl _ _) hI.stay
    · intro t a_ vs wt ht hI hD hA K hK
      have d2 : vs 2 = Value.pointer (some ⟨g, 0, none⟩) := hD 2 rfl
      have a16 : a_.tmps[16]?.getD undef = vs 2 := hA 16
      rw [d2] at a16
      clear hA hD
      go_simp
      refine (l20Rights_any _ _ _ _ _ hI.rd (by omega) (by omega) (by have : t < 12 := ht; omega)).mono ?_; rintro e w2 ⟨x, rfl, hx0, hx1, _, hr, hT⟩
      exact hK _ _ ⟨_, rfl, hx0, hx1⟩ hT (hI.call hr (by omega) hT)
    · intro t a_ vs wt ht hI hD hA K hK
      obtain ⟨x3, d3, l3, u3⟩ := hD 3 rfl
      have a17 : a_.tmps[17]?.getD undef = vs 3 := hA 17
      rw [d3] at a17
      clear hA hD
      have hc := fun e => lit_all (w := wt) (e := e) (lo := -1) (hi := 16) [(1), (2), (3), (0), (x3)] (by simp only [List.mem_cons, List.not_mem_nil, or_false]; omega) rfl
      go_simp
      exact hK _ _ ⟨_, rfl, hI.ne, hc _⟩ (tch_alloc _ _ _) (hI.alloc _)
    · intro t a_ vs wt ht hI hD hA K hK
      have a5 : a_.tmps[5]?.getD undef = Value.pointer (some ⟨g, 0, none⟩) := hA 5
      clear hA hD
      go_simp
      exact hK _ _ rfl (Tch.refl _ _) hI.stay
    · intro t a_ vs wt ht hI hD hA K hK
      have d5 : vs 5 = Value.pointer (some ⟨g, 0, none⟩) := hD 5 rfl
      have a19 : a_.tmps[19]?.getD undef = vs 5 := hA 19
      rw [d5] at a19
      clear hA hD
      go_simp
      refine (pickT _ _ _ _ _ hI.rd (by omega) (by omega) (by have : t < 12 := ht; omega)).mono ?_; rintro e w2 ⟨k, hk, rfl, hr, hT⟩
      exact hK _ _ ⟨_, rfl, by omega, by omega⟩ hT (hI.call hr (by omega) hT)
    · intro t a_ vs wt ht hI hD hA K hK
      obtain ⟨b4, d4, n4, c4⟩ := hD 4 rfl
      have a18 : a_.tmps[18]?.getD undef = vs 4 := hA 18
      rw [d4] at a18
      obtain ⟨x6, d6, l6, u6⟩ := hD 6 rfl
      have a20 : a_.tmps[20]?.getD undef = vs 6 := hA 20
      rw [d6] at a20
      clear hA hD
      have z0 : 0 ≤ x6 := by omega
      have z1 : x6 < 5 := by omega
      obtain ⟨y, hy, cy⟩ := c4 (x6).toNat (by omega)
      go_simp
      exact hK _ _ ⟨_, _, rfl, n4, y, hy, cy⟩ (Tch.refl _ _) hI.stay
    · intro t a_ vs wt ht hI hD hA K hK
      obtain ⟨b7, i7, d7, n7, y7, q7, c7⟩ := hD 7 rfl
      have a21 : a_.tmps[21]?.getD undef = vs 7 := hA 21
      rw [d7] at a21
      clear hA hD
      go_simp
      exact hK _ _ ⟨_, rfl, q7.1, q7.2⟩ (Tch.refl _ _) hI.stay
    · intro t a_ vs wt ht hI hD hA K hK
      have d := hD 0 rfl
      have a14 : a_.tmps[14]?.getD undef = vs 0 := hA 14
      clear hA hD
      go_simp
      exact hK _ _ d (Tch.refl _ _) hI.stay
    · intro t a_ vs wt ht hI hD hA K hK
      have d := hD 1 rfl
      have a15 : a_.tmps[15]?.getD undef = vs 1 := hA 15
      clear hA hD
      go_simp
      exact hK _ _ d (Tch.refl _ _) hI.stay
    · intro t a_ vs wt ht hI hD hA K hK
      have d := hD 8 rfl
      have a22 : a_.tmps[22]?.getD undef = vs 8 := hA 22
      clear hA hD
      go_simp
      exact hK _ _ d (Tch.refl _ _) hI.stay
  · intro vs wz hrz hTz hF
    obtain ⟨f0, f1, f2, f3, f4, f5, f6, f7, f8, f9, f10, f11, -⟩ := hF
    simp only [putAll, Act.put, List.setIfInBounds_toArray, List.set_cons_zero, List.set_cons_succ]
    obtain ⟨x, hx, hx0, hx1⟩ := f11
    rw [show vs 9 = _ from f9, show vs 10 = _ from f10, hx]
    go_wp2
    (try simp only [Exit.inBlock, Exit.then]); refine bodyPost_ret (results_tmp3 rfl _ _ _) rfl ?_
    exact ⟨_, _, _, _, _, _, rfl, (hA3.pastT hTz (fun k e => by omega)).rd'.2, h9, ⟨ha0, ha1⟩, ⟨hx0, hx1⟩, ext_tch hb3 hTz (fun k e => by subst e; omega)⟩
end Go.Proofs.Yteahiiflgiimnaa
