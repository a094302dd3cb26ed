/-
  What the reference draws for the rounds of a leak.
-/
import Derived.Test.YtakdefcdhcghiaaDrE
import Derived.Test.YtakdefcdhcghiaaDrR
namespace Go.Proofs.Ytakdefcdhcghiaa
open Go.RowKit

set_option maxHeartbeats 1000000 in
theorem DrawLeakRounds_any (A : Option Addr) (n c : Nat) (bs : List UInt8) (w : World) (h : Rd w 1 A n c (cU bs)) :
    Calls Try.prog 27 #[.slice A n c] w fun e w' => ∃ A' n' c' xss i j r, e = .returned (.tuple #[.slice A' n' c', .int .i64 i, .int .i64 j, .int .i64 r]) ∧ RdR w' A' n' c' xss ∧ 1 ≤ n' ∧ n' ≤ 8 ∧ (-1 ≤ i ∧ i ≤ 8) ∧ (-1 ≤ j ∧ j ≤ 8) ∧ (-1 ≤ r ∧ r ≤ 16) ∧ Ext w w' := by
  go_enter Try.func27, Try.ntmps27
  go_wp2_with fail
  refine (l20Open_any _ _ _ _ _ h).mono ?_; rintro e w1 ⟨rfl, hr, hb⟩
  have hs := hr.lt
  have h1 := h.below hb
  go_wp2_with fail
  refine (DrawEverRights_any _ _ _ _ _ h1).mono ?_; rintro e w2 ⟨A', n', c', xss, i, j, rfl, hA, hn1, hn8, _, hi, hj, hb2⟩
  have hr2 := hr.keep hb2
  have hbb := hb.trans hb2
  have hA1 := hA.mono (B' := w.heap.size + 1) (by omega)
  obtain ⟨g, hg⟩ : ∃ g, w.heap.size = g := ⟨_, rfl⟩
  rw [hg] at hr2 hA1 ⊢
  clear hr h1 hb hb2
  go_wp2_with fail
  refine wp_region_draw (g := g) (B := g + 1) (0) 12 [.eq _ (Value.slice A' n' c'), .eq _ (Value.int .i64 i), .eq _ (Value.int .i64 j), .eq _ (Value.pointer (some ⟨g, 0, none⟩)), .rng _ (0) (3), .rng _ (1) (8), .eq _ (Value.pointer (some ⟨g, 0, none⟩)), .rng _ (0) (15), .eq _ (Value.pointer (some ⟨g, 0, none⟩)), .rng _ (-1) (16), .lit _ 3 (-1) (16), .eq _ (Value.pointer (some ⟨g, 0, none⟩)), .rng _ (0) (2), .adr _ (-1) (16), .rng _ (-1) (16), .eq _ (Value.slice A' n' c'), .eq _ (Value.int .i64 i), .eq _ (Value.int .i64 j), .rng _ (-1) (16)] (by kernel_rfl) (by kernel_rfl) (by rfl) (hr2.more (by omega)) ?_ ?_
  · refine ⟨?_, ?_, ?_, ?_, ?_, ?_, ?_, ?_, ?_, ?_, ?_, ?_, ?_, ?_, ?_, ?_, ?_, ?_, ?_, trivial⟩
    · intro t a_ vs wt ht hI hD hA K hK
      have a7 : a_.tmps[7]?.getD undef = Value.slice A' n' c' := hA 7
      clear hA hD
      go_simp
      exact hK _ _ rfl (Tch.refl _ _) hI.stay
    · intro t a_ vs wt ht hI hD hA K hK
      have a8 : a_.tmps[8]?.getD undef = Value.int .i64 i := hA 8
      clear hA hD
      go_simp
      exact hK _ _ rfl (Tch.refl _ _) hI.stay
    · intro t a_ vs wt ht hI hD hA K hK
      have a9 : a_.tmps[9]?.getD undef = Value.int .i64 j := hA 9
      clear hA hD
      go_simp
      exact hK _ _ rfl (Tch.refl _ _) hI.stay
    · intro t a_ vs wt ht hI hD hA K hK
      have a6 : a_.tmps[6]?.getD undef = Value.pointer (some ⟨g, 0, none⟩) := hA 6
      clear hA hD
      go_simp
      exact hK _ _ rfl (Tch.refl _ _) hI.stay
    · intro t a_ vs wt ht hI hD hA K hK
      have d3 : vs 3 = Value.pointer (some ⟨g, 0, none⟩) := hD 3 rfl
      have a21 : a_.tmps[21]?.getD undef = vs 3 := hA 21
      rw [d3] at a21
      clear hA hD
      go_simp
      refine (pickT _ _ _ _ _ hI.rd (by omega) (by omega) (by have : t < 19 := ht; omega)).mono ?_; rintro e w2 ⟨k, hk, rfl, hr, hT⟩
      exact hK _ _ ⟨_, rfl, by omega, by omega⟩ hT (hI.call hr (by omega) hT)
    · intro t a_ vs wt ht hI hD hA K hK
      obtain ⟨x4, d4, l4, u4⟩ := hD 4 rfl
      have a22 : a_.tmps[22]?.getD undef = vs 4 := hA 22
      rw [d4] at a22
      clear hA hD
      obtain rfl | rfl | rfl | rfl : x4 = 0 ∨ x4 = 1 ∨ x4 = 2 ∨ x4 = 3 := by omega
      all_goals (go_simp; exact hK _ _ ⟨_, rfl, by decide, by decide⟩ (Tch.refl _ _) hI.stay)
    · intro t a_ vs wt ht hI hD hA K hK
      have a6 : a_.tmps[6]?.getD undef = Value.pointer (some ⟨g, 0, none⟩) := hA 6
      clear hA hD
      go_simp
      exact hK _ _ rfl (Tch.refl _ _) hI.stay
    · intro t a_ vs wt ht hI hD hA K hK
      have d6 : vs 6 = Value.pointer (some ⟨g, 0, none⟩) := hD 6 rfl
      have a24 : a_.tmps[24]?.getD undef = vs 6 := hA 24
      rw [d6] at a24
      clear hA hD
      go_simp
      refine (pickT _ _ _ _ _ hI.rd (by omega) (by omega) (by have : t < 19 := ht; omega)).mono ?_; rintro e w2 ⟨k, hk, rfl, hr, hT⟩
      exact hK _ _ ⟨_, rfl, by omega, by omega⟩ hT (hI.call hr (by omega) hT)
    · intro t a_ vs wt ht hI hD hA K hK
      have a6 : a_.tmps[6]?.getD undef = Value.pointer (some ⟨g, 0, none⟩) := hA 6
      clear hA hD
      go_simp
      exact hK _ _ rfl (Tch.refl _ _) hI.stay
    · intro t a_ vs wt ht hI hD hA K hK
      have d8 : vs 8 = Value.pointer (some ⟨g, 0, none⟩) := hD 8 rfl
      have a26 : a_.tmps[26]?.getD undef = vs 8 := hA 26
      rw [d8] at a26
      clear hA hD
      go_simp
      refine (l20Rights_any _ _ _ _ _ hI.rd (by omega) (by omega) (by have : t < 19 := ht; omega)).mono ?_; rintro e w2 ⟨x, rfl, hx0, hx1, _, hr, hT⟩
      exact hK _ _ ⟨_, rfl, hx0, hx1⟩ hT (hI.call hr (by omega) hT)
    · intro t a_ vs wt ht hI hD hA K hK
      obtain ⟨x5, d5, l5, u5⟩ := hD 5 rfl
      have a23 : a_.tmps[23]?.getD undef = vs 5 := hA 23
      rw [d5] at a23
      obtain ⟨x7, d7, l7, u7⟩ := hD 7 rfl
      have a25 : a_.tmps[25]?.getD undef = vs 7 := hA 25
      rw [d7] at a25
      obtain ⟨x9, d9, l9, u9⟩ := hD 9 rfl
      have a27 : a_.tmps[27]?.getD undef = vs 9 := hA 27
      rw [d9] at a27
      clear hA hD
      have hc := fun e => lit_all (w := wt) (e := e) (lo := -1) (hi := 16) [(x5), (x7), (x9)] (by simp only [List.mem_cons, List.not_mem_nil, or_false]; omega) rfl
      go_simp
      exact hK _ _ ⟨_, rfl, hI.ne, hc _⟩ (tch_alloc _ _ _) (hI.alloc _)
    · intro t a_ vs wt ht hI hD hA K hK
      have a6 : a_.tmps[6]?.getD undef = Value.pointer (some ⟨g, 0, none⟩) := hA 6
      clear hA hD
      go_simp
      exact hK _ _ rfl (Tch.refl _ _) hI.stay
    · intro t a_ vs wt ht hI hD hA K hK
      have d11 : vs 11 = Value.pointer (some ⟨g, 0, none⟩) := hD 11 rfl
      have a29 : a_.tmps[29]?.getD undef = vs 11 := hA 29
      rw [d11] at a29
      clear hA hD
      go_simp
      refine (pickT _ _ _ _ _ hI.rd (by omega) (by omega) (by have : t < 19 := ht; omega)).mono ?_; rintro e w2 ⟨k, hk, rfl, hr, hT⟩
      exact hK _ _ ⟨_, rfl, by omega, by omega⟩ hT (hI.call hr (by omega) hT)
    · intro t a_ vs wt ht hI hD hA K hK
      obtain ⟨b10, d10, n10, c10⟩ := hD 10 rfl
      have a28 : a_.tmps[28]?.getD undef = vs 10 := hA 28
      rw [d10] at a28
      obtain ⟨x12, d12, l12, u12⟩ := hD 12 rfl
      have a30 : a_.tmps[30]?.getD undef = vs 12 := hA 30
      rw [d12] at a30
      clear hA hD
      have z0 : 0 ≤ x12 := by omega
      have z1 : x12 < 3 := by omega
      obtain ⟨y, hy, cy⟩ := c10 (x12).toNat (by omega)
      go_simp
      exact hK _ _ ⟨_, _, rfl, n10, y, hy, cy⟩ (Tch.refl _ _) hI.stay
    · intro t a_ vs wt ht hI hD hA K hK
      obtain ⟨b13, i13, d13, n13, y13, q13, c13⟩ := hD 13 rfl
      have a31 : a_.tmps[31]?.getD undef = vs 13 := hA 31
      rw [d13] at a31
      clear hA hD
      go_simp
      exact hK _ _ ⟨_, rfl, q13.1, q13.2⟩ (Tch.refl _ _) hI.stay
    · intro t a_ vs wt ht hI hD hA K hK
      have d := hD 0 rfl
      have a18 : a_.tmps[18]?.getD undef = vs 0 := hA 18
      clear hA hD
      go_simp
      exact hK _ _ d (Tch.refl _ _) hI.stay
    · intro t a_ vs wt ht hI hD hA K hK
      have d := hD 1 rfl
      have a19 : a_.tmps[19]?.getD undef = vs 1 := hA 19
      clear hA hD
      go_simp
      exact hK _ _ d (Tch.refl _ _) hI.stay
    · intro t a_ vs wt ht hI hD hA K hK
      have d := hD 2 rfl
      have a20 : a_.tmps[20]?.getD undef = vs 2 := hA 20
      clear hA hD
      go_simp
      exact hK _ _ d (Tch.refl _ _) hI.stay
    · intro t a_ vs wt ht hI hD hA K hK
      have d := hD 14 rfl
      have a32 : a_.tmps[32]?.getD undef = vs 14 := hA 32
      clear hA hD
      go_simp
      exact hK _ _ d (Tch.refl _ _) hI.stay
  · intro vs wz hrz hTz hF
    obtain ⟨f0, f1, f2, f3, f4, f5, f6, f7, f8, f9, f10, f11, f12, f13, f14, f15, f16, f17, f18, -⟩ := hF
    simp only [putAll, Act.put, List.setIfInBounds_toArray, List.set_cons_zero, List.set_cons_succ]
    obtain ⟨x, hx, hx0, hx1⟩ := f18
    rw [show vs 15 = _ from f15, show vs 16 = _ from f16, show vs 17 = _ from f17, hx]
    go_wp2
    (try simp only [Exit.inBlock, Exit.then]); refine bodyPost_ret (results_tmp4 rfl _ _ _) rfl ?_
    exact ⟨_, _, _, _, _, _, _, rfl, (hA1.only hTz (fun k e => by omega)).rdR, hn1, hn8, hi, hj, ⟨hx0, hx1⟩, ext_tch hbb hTz (fun k e => by subst e; omega)⟩
end Go.Proofs.Ytakdefcdhcghiaa
