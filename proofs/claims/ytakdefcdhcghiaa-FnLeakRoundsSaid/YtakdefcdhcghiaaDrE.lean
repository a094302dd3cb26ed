/-
  What the reference draws for the rights that a subject can ever have.
-/
import Derived.Test.YtakdefcdhcghiaaDrG
import Derived.Test.YtakdefcdhcghiaaDrO
namespace Go.Proofs.Ytakdefcdhcghiaa
open Go.RowKit

set_option maxHeartbeats 1000000 in
theorem DrawEverRights_any (A : Option Addr) (n c : Nat) (bs : List UInt8) (w : World) (h : Rd w 1 A n c (cU bs)) :
    Calls Try.prog 52 #[.slice A n c] w fun e w' => ∃ A' n' c' xss i j, e = .returned (.tuple #[.slice A' n' c', .int .i64 i, .int .i64 j]) ∧ RdA w' w.heap.size A' n' c' xss ∧ 1 ≤ n' ∧ n' ≤ 8 ∧ (∀ r ∈ xss, r.length ≤ 8) ∧ (-1 ≤ i ∧ i ≤ 8) ∧ (-1 ≤ j ∧ j ≤ 8) ∧ Ext w w' := by
  go_enter Try.func52, Try.ntmps52
  go_wp2_with fail
  refine (l20Open_any _ _ _ _ _ h).mono ?_; rintro e w1 ⟨rfl, hr, hb⟩
  have hs := hr.lt
  go_wp2_with fail
  refine (l20Graph_bd _ _ _ _ _ hr (by omega) (by omega) (by omega) (by omega)).mono ?_; rintro e w2 ⟨A', n', c', xss, rfl, hA, hr2, ht, h1, h8, hrow⟩
  have hb2 := ext_tch hb ht (fun k e => by subst e; exact Nat.le_refl _)
  obtain ⟨g, hg⟩ : ∃ g, w.heap.size = g := ⟨_, rfl⟩
  rw [hg] at hr hr2 ht ⊢
  have hsz := ht.size
  have hA1 := hA.mono (B' := g + 1) (by omega)
  obtain ⟨hs', hH, hFr, hlen, hrows⟩ := hA1.ex
  obtain ⟨bg, og, hAA, hcells⟩ := hH.cells (by omega)
  subst hAA
  obtain ⟨⟨A0, m0, c0⟩, hx0⟩ := get_of_lt (show hs'.length = n' by have := hH.len; simpa using this) (show 0 < n' by omega)
  have gh0 : w2.cell? ⟨bg, og, none⟩ = some (.slice A0 m0 c0) := hcells 0 _ (by rw [List.getElem?_map, hx0]; rfl)
  have hbg : g + 1 ≤ bg := hFr bg og rfl (by omega)
  obtain ⟨r0, hr0⟩ : ∃ r0, xss[0]? = some r0 := ⟨_, List.getElem?_eq_getElem (by have := (List.getElem?_eq_some_iff.1 hx0).1; omega)⟩
  have hR0 := (hrows 0 _ _ hx0 hr0).1
  have hm8 : m0 ≤ 8 := by have := hR0.lenI; simp only at this; rw [← this]; exact hrow r0 (List.mem_of_getElem? hr0)
  have HROW := Lib.hid hrow
  clear hA hrows hcells hx0 hr0 hR0 hrow hH hFr hlen
  go_wp2_with fail
  refine wp_region_draw (g := g) (B := g + 1) (100) 1 [.eq _ (Value.slice (some ⟨bg, og, none⟩) n' c'), .eq _ (Value.pointer (some ⟨g, 0, none⟩)), .eq _ (Value.slice (some ⟨bg, og, none⟩) n' c'), .eq _ (Value.int .i64 (n' : Int)), .eq _ (Value.int .i64 ((n' : Int) + 1)), .rng _ (0) (8), .eq _ (Value.pointer (some ⟨g, 0, none⟩)), .rng _ (0) (13), .rng _ (0) (1), .rng _ (-1) (8), .eq _ (Value.pointer (some ⟨g, 0, none⟩)), .eq _ (Value.slice (some ⟨bg, og, none⟩) n' c'), .eq _ (Value.pointer (some ⟨bg, og, none⟩)), .eq _ (Value.slice A0 m0 c0), .eq _ (Value.int .i64 (m0 : Int)), .eq _ (Value.int .i64 ((m0 : Int) + 1)), .rng _ (0) (8), .eq _ (Value.pointer (some ⟨g, 0, none⟩)), .rng _ (0) (13), .rng _ (0) (1), .rng _ (-1) (8), .eq _ (Value.slice (some ⟨bg, og, none⟩) n' c'), .rng _ (-1) (8), .rng _ (-1) (8)] (by kernel_rfl) (by kernel_rfl) (by rfl) (hr2.more (by omega)) ?_ ?_
  · refine ⟨?_, ?_, ?_, ?_, ?_, ?_, ?_, ?_, ?_, ?_, ?_, ?_, ?_, ?_, ?_, ?_, ?_, ?_, ?_, ?_, ?_, ?_, ?_, ?_, trivial⟩
    · intro t a_ vs wt ht hI hD hA K hK
      have a6 : a_.tmps[6]?.getD undef = Value.slice (some ⟨bg, og, none⟩) n' c' := hA 6
      clear hA hD
      go_simp
      exact hK _ _ rfl (Tch.refl _ _) hI.stay
    · intro t a_ vs wt ht hI hD hA K hK
      have a5 : a_.tmps[5]?.getD undef = Value.pointer (some ⟨g, 0, none⟩) := hA 5
      clear hA hD
      go_simp
      exact hK _ _ rfl (Tch.refl _ _) hI.stay
    · intro t a_ vs wt ht hI hD hA K hK
      have a6 : a_.tmps[6]?.getD undef = Value.slice (some ⟨bg, og, none⟩) n' c' := hA 6
      clear hA hD
      go_simp
      exact hK _ _ rfl (Tch.refl _ _) hI.stay
    · intro t a_ vs wt ht hI hD hA K hK
      have d2 : vs 2 = Value.slice (some ⟨bg, og, none⟩) n' c' := hD 2 rfl
      have a13 : a_.tmps[13]?.getD undef = vs 2 := hA 13
      rw [d2] at a13
      clear hA hD
      go_simp
      exact hK _ _ rfl (Tch.refl _ _) hI.stay
    · intro t a_ vs wt ht hI hD hA K hK
      have d3 : vs 3 = Value.int .i64 (n' : Int) := hD 3 rfl
      have a14 : a_.tmps[14]?.getD undef = vs 3 := hA 14
      rw [d3] at a14
      clear hA hD
      have ew : IntKind.i64.wrap ((n' : Int) + 1) = (n' : Int) + 1 := by rw [IntKind.wrap_i64]; omega
      go_simp
      exact hK _ _ rfl (Tch.refl _ _) hI.stay
    · intro t a_ vs wt ht hI hD hA K hK
      have d1 : vs 1 = Value.pointer (some ⟨g, 0, none⟩) := hD 1 rfl
      have a12 : a_.tmps[12]?.getD undef = vs 1 := hA 12
      rw [d1] at a12
      have d4 : vs 4 = Value.int .i64 ((n' : Int) + 1) := hD 4 rfl
      have a15 : a_.tmps[15]?.getD undef = vs 4 := hA 15
      rw [d4] at a15
      clear hA hD
      go_simp
      refine (pickT _ _ _ _ _ hI.rd (by omega) (by omega) (by have : t < 24 := ht; omega)).mono ?_; rintro e w2 ⟨k, hk, rfl, hr, hT⟩
      exact hK _ _ ⟨_, rfl, by omega, by omega⟩ hT (hI.call hr (by omega) hT)
    · intro t a_ vs wt ht hI hD hA K hK
      have a5 : a_.tmps[5]?.getD undef = Value.pointer (some ⟨g, 0, none⟩) := hA 5
      clear hA hD
      go_simp
      exact hK _ _ rfl (Tch.refl _ _) hI.stay
    · intro t a_ vs wt ht hI hD hA K hK
      have d6 : vs 6 = Value.pointer (some ⟨g, 0, none⟩) := hD 6 rfl
      have a17 : a_.tmps[17]?.getD undef = vs 6 := hA 17
      rw [d6] at a17
      clear hA hD
      go_simp
      refine (pickT _ _ _ _ _ hI.rd (by omega) (by omega) (by have : t < 24 := ht; omega)).mono ?_; rintro e w2 ⟨k, hk, rfl, hr, hT⟩
      exact hK _ _ ⟨_, rfl, by omega, by omega⟩ hT (hI.call hr (by omega) hT)
    · intro t a_ vs wt ht hI hD hA K hK
      obtain ⟨x7, d7, l7, u7⟩ := hD 7 rfl
      have a18 : a_.tmps[18]?.getD undef = vs 7 := hA 18
      rw [d7] at a18
      clear hA hD
      have ew : IntKind.i64.wrap (x7.tdiv 13) = x7 / 13 := by rw [Int.tdiv_eq_ediv_of_nonneg (by omega), IntKind.wrap_i64]; omega
      go_simp
      exact hK _ _ ⟨_, rfl, by omega, by omega⟩ (Tch.refl _ _) hI.stay
    · intro t a_ vs wt ht hI hD hA K hK
      obtain ⟨x5, d5, l5, u5⟩ := hD 5 rfl
      have a16 : a_.tmps[16]?.getD undef = vs 5 := hA 16
      rw [d5] at a16
      obtain ⟨x8, d8, l8, u8⟩ := hD 8 rfl
      have a19 : a_.tmps[19]?.getD undef = vs 8 := hA 19
      rw [d8] at a19
      clear hA hD
      have ew : IntKind.i64.wrap (x5 - x8) = x5 - x8 := by rw [IntKind.wrap_i64]; omega
      go_simp
      exact hK _ _ ⟨_, rfl, by omega, by omega⟩ (Tch.refl _ _) hI.stay
    · intro t a_ vs wt ht hI hD hA K hK
      have a5 : a_.tmps[5]?.getD undef = Value.pointer (some ⟨g, 0, none⟩) := hA 5
      clear hA hD
      go_simp
      exact hK _ _ rfl (Tch.refl _ _) hI.stay
    · intro t a_ vs wt ht hI hD hA K hK
      have a6 : a_.tmps[6]?.getD undef = Value.slice (some ⟨bg, og, none⟩) n' c' := hA 6
      clear hA hD
      go_simp
      exact hK _ _ rfl (Tch.refl _ _) hI.stay
    · intro t a_ vs wt ht hI hD hA K hK
      have d11 : vs 11 = Value.slice (some ⟨bg, og, none⟩) n' c' := hD 11 rfl
      have a22 : a_.tmps[22]?.getD undef = vs 11 := hA 22
      rw [d11] at a22
      clear hA hD
      have h0n : 0 < n' := by omega
      go_simp
      exact hK _ _ rfl (Tch.refl _ _) hI.stay
    · intro t a_ vs wt ht hI hD hA K hK
      have d12 : vs 12 = Value.pointer (some ⟨bg, og, none⟩) := hD 12 rfl
      have a23 : a_.tmps[23]?.getD undef = vs 12 := hA 23
      rw [d12] at a23
      have q0 := hI.tc.cell gh0 (show ¬ bg = g by omega)
      clear hA hD
      go_simp
      exact hK _ _ rfl (Tch.refl _ _) hI.stay
    · intro t a_ vs wt ht hI hD hA K hK
      have d13 : vs 13 = Value.slice A0 m0 c0 := hD 13 rfl
      have a24 : a_.tmps[24]?.getD undef = vs 13 := hA 24
      rw [d13] at a24
      clear hA hD
      go_simp
      exact hK _ _ rfl (Tch.refl _ _) hI.stay
    · intro t a_ vs wt ht hI hD hA K hK
      have d14 : vs 14 = Value.int .i64 (m0 : Int) := hD 14 rfl
      have a25 : a_.tmps[25]?.getD undef = vs 14 := hA 25
      rw [d14] at a25
      clear hA hD
      have ew : IntKind.i64.wrap ((m0 : Int) + 1) = (m0 : Int) + 1 := by rw [IntKind.wrap_i64]; omega
      go_simp
      exact hK _ _ rfl (Tch.refl _ _) hI.stay
    · intro t a_ vs wt ht hI hD hA K hK
      have d10 : vs 10 = Value.pointer (some ⟨g, 0, none⟩) := hD 10 rfl
      have a21 : a_.tmps[21]?.getD undef = vs 10 := hA 21
      rw [d10] at a21
      have d15 : vs 15 = Value.int .i64 ((m0 : Int) + 1) := hD 15 rfl
      have a26 : a_.tmps[26]?.getD undef = vs 15 := hA 26
      rw [d15] at a26
      clear hA hD
      go_simp
      refine (pickT _ _ _ _ _ hI.rd (by omega) (by omega) (by have : t < 24 := ht; omega)).mono ?_; rintro e w2 ⟨k, hk, rfl, hr, hT⟩
      exact hK _ _ ⟨_, rfl, by omega, by omega⟩ hT (hI.call hr (by omega) hT)
    · intro t a_ vs wt ht hI hD hA K hK
      have a5 : a_.tmps[5]?.getD undef = Value.pointer (some ⟨g, 0, none⟩) := hA 5
      clear hA hD
      go_simp
      exact hK _ _ rfl (Tch.refl _ _) hI.stay
    · intro t a_ vs wt ht hI hD hA K hK
      have d17 : vs 17 = Value.pointer (some ⟨g, 0, none⟩) := hD 17 rfl
      have a28 : a_.tmps[28]?.getD undef = vs 17 := hA 28
      rw [d17] at a28
      clear hA hD
      go_simp
      refine (pickT _ _ _ _ _ hI.rd (by omega) (by omega) (by have : t < 24 := ht; omega)).mono ?_; rintro e w2 ⟨k, hk, rfl, hr, hT⟩
      exact hK _ _ ⟨_, rfl, by omega, by omega⟩ hT (hI.call hr (by omega) hT)
    · intro t a_ vs wt ht hI hD hA K hK
      obtain ⟨x18, d18, l18, u18⟩ := hD 18 rfl
      have a29 : a_.tmps[29]?.getD undef = vs 18 := hA 29
      rw [d18] at a29
      clear hA hD
      have ew : IntKind.i64.wrap (x18.tdiv 13) = x18 / 13 := by rw [Int.tdiv_eq_ediv_of_nonneg (by omega), IntKind.wrap_i64]; omega
      go_simp
      exact hK _ _ ⟨_, rfl, by omega, by omega⟩ (Tch.refl _ _) hI.stay
    · intro t a_ vs wt ht hI hD hA K hK
      obtain ⟨x16, d16, l16, u16⟩ := hD 16 rfl
      have a27 : a_.tmps[27]?.getD undef = vs 16 := hA 27
      rw [d16] at a27
      obtain ⟨x19, d19, l19, u19⟩ := hD 19 rfl
      have a30 : a_.tmps[30]?.getD undef = vs 19 := hA 30
      rw [d19] at a30
      clear hA hD
      have ew : IntKind.i64.wrap (x16 - x19) = x16 - x19 := by rw [IntKind.wrap_i64]; omega
      go_simp
      exact hK _ _ ⟨_, rfl, by omega, by omega⟩ (Tch.refl _ _) hI.stay
    · intro t a_ vs wt ht hI hD hA K hK
      have d := hD 0 rfl
      have a11 : a_.tmps[11]?.getD undef = vs 0 := hA 11
      clear hA hD
      go_simp
      exact hK _ _ d (Tch.refl _ _) hI.stay
    · intro t a_ vs wt ht hI hD hA K hK
      have d := hD 9 rfl
      have a20 : a_.tmps[20]?.getD undef = vs 9 := hA 20
      clear hA hD
      go_simp
      exact hK _ _ d (Tch.refl _ _) hI.stay
    · intro t a_ vs wt ht hI hD hA K hK
      have d := hD 20 rfl
      have a31 : a_.tmps[31]?.getD undef = vs 20 := hA 31
      clear hA hD
      go_simp
      exact hK _ _ d (Tch.refl _ _) hI.stay
  · intro vs wz hrz hTz hF
    obtain ⟨f0, f1, f2, f3, f4, f5, f6, f7, f8, f9, f10, f11, f12, f13, f14, f15, f16, f17, f18, f19, f20, f21, f22, f23, -⟩ := hF
    simp only [putAll, Act.put, List.setIfInBounds_toArray, List.set_cons_zero, List.set_cons_succ]
    obtain ⟨x, hx, hx0, hx1⟩ := f22
    obtain ⟨y, hy, hy0, hy1⟩ := f23
    rw [show vs 21 = _ from f21, hx, hy]
    go_wp2
    go_ret3
    exact ⟨_, _, _, _, _, _, rfl, (hA1.only hTz (fun k e => by omega)).mono (by omega), h1, h8, HROW.out, ⟨by omega, by omega⟩, ⟨by omega, by omega⟩, ext_tch hb2 hTz (fun k e => by subst e; omega)⟩
end Go.Proofs.Ytakdefcdhcghiaa
