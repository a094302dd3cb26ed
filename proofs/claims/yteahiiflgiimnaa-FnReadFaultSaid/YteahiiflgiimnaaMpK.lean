/-
  What the reference draws for the laws on pages.
-/
import Derived.Test.YteahiiflgiimnaaMpH
import Derived.Test.YteahiiflgiimnaaDrO
namespace Go.Proofs.Yteahiiflgiimnaa
open Go.RowKit

set_option maxHeartbeats 2000000 in
theorem l20Space_any (B g p : Nat) (k : Int) (w : World) (h : Rdr w B g p) (hB : B ≤ w.heap.size) (hk : 0 ≤ k) (hk' : k ≤ 1000) (hp : p ≤ 10000) :
    Calls Try.prog 75 #[.pointer (some ⟨g, 0, none⟩), .int .i64 k] w fun e w' => ∃ A n c ms, e = .returned (.slice A n c) ∧ Fr w' w.heap.size 76 3 (.slice A n c) n (c3 ms) ∧ n ≤ 22 ∧ Rdr w' B g (p + 100) ∧ Tch w w' (· = g) := by
  obtain ⟨i1, ki, kz0, kz1, kz2⟩ := info_parts Try.infoMp
  have hgB := h.low
  have hgw : g < w.heap.size := Nat.lt_of_lt_of_le hgB hB
  have hal0 : Ext w (w.alloc (.cells #[] 76)) := (Below.refl _ _).alloc (Nat.le_refl _) _
  have h1 := h.keep hal0
  have hF0 : Fr (w.alloc (.cells #[] 76)) w.heap.size 76 3 (.slice (some ⟨w.heap.size, 0, none⟩) 0 0) 0 (c3 []) := .inr (Row.lit (w := w) (n := 0) #[] (by simp) (by unfold maxLen; omega) (Nat.le_refl _))
  have hT0 : Tch w (w.alloc (.cells #[] 76)) (· = g) := Tch.ext hal0
  clear h hal0
  go_enter Try.func75, Try.ntmps75
  go_wp2_with fail
  refine (pickT _ _ _ _ _ h1 (by omega) (by omega) (by omega)).mono ?_; rintro e w1 ⟨n, hn, rfl, hr1, ht1⟩
  have hF1 := hF0.pastT ht1 (fun k e => by subst e; exact hgw)
  have hT1 := hT0.trans ht1
  clear h1 hF0 hT0 ht1
  go_wp2
  go_loopw [5, 6] (fun out ii wr => ∃ (i j m : Nat) (Ao : Option Addr) (co : Nat) (ms : List Mp), i + j = n ∧ m ≤ 20 ∧ ii = .int .i64 i ∧ out = .slice Ao m co ∧ Fr wr w.heap.size 76 3 (.slice Ao m co) m (c3 ms) ∧ Tch w wr (· = g) ∧ Rdr wr B g (p + 1 + 3 * j)) (fun _ ii _ => (intOf ii).toNat)
  case atStart => exact ⟨n, 0, 0, _, _, [], by omega, by omega, rfl, rfl, hF1, hT1, hr1⟩
  case round =>
    clear hF1 hT1 hr1
    obtain ⟨i, j, m, Ao, co, ms, hij, hmj, rfl, rfl, hG, hT, hr⟩ := hrel
    by_cases hlt : 0 < i
    · go_wp2_with fail
      refine (pickT _ _ _ _ _ hr (by omega) (by omega) (by omega)).mono ?_; rintro e w5 ⟨z0, hz0', rfl, hR5, hT5⟩
      have hG5 := hG.pastT hT5 (fun k e => by subst e; exact hgw)
      have hT5' := hT.trans hT5
      clear hG hT hr hT5
      go_wp2_with fail
      refine (pickT _ _ _ _ _ hR5 (by omega) (by omega) (by omega)).mono ?_; rintro e w6 ⟨z1, hz1', rfl, hR6, hT6⟩
      have hG6 := hG5.pastT hT6 (fun k e => by subst e; exact hgw)
      have hT6' := hT5'.trans hT6
      clear hG5 hT5' hR5 hT6
      go_wp2_with fail
      refine (pickT _ _ _ _ _ hR6 (by omega) (by omega) (by omega)).mono ?_; rintro e w6b ⟨z2, hz2', rfl, hR6b, hT6b⟩
      have hG6b := hG6.pastT hT6b (fun k e => by subst e; exact hgw)
      have hT6b' := hT6'.trans hT6b
      clear hG6 hT6' hR6 hT6b
      go_wp2_with fail
      refine (specMapPage_any _ _ _ _ _ _ _ _ _ _ _ hG6b.rd'.2).mono ?_; rintro e w7 ⟨A7, c7, rfl, hF7, hb7⟩
      have hT7 := hT6b'.trans (Tch.ext (S := (· = g)) hb7)
      have hR7 := hR6b.keep hb7
      have hG7 := hF7.mono hT6b'.size
      have hl7 := mapR_len z0 6 z1 (1 + z2) 0 15 ms
      obtain ⟨ms7, hms7⟩ : ∃ q, mapR z0 6 z1 (1 + z2) 0 15 ms = q := ⟨_, rfl⟩
      rw [hms7] at hG7 hl7 ⊢
      obtain ⟨n7, hn7⟩ : ∃ q, ms7.1.length = q := ⟨_, rfl⟩
      rw [hn7] at hG7 hl7 ⊢
      clear hG6b hT6b' hR6b hF7 hb7 hn7 hms7
      go_wp2
      go_roundw
      case rel => exact ⟨i - 1, j + 1, n7, A7, c7, _, by omega, by omega, by go_num, rfl, hG7, hT7, hR7.more (by omega)⟩
      case measure => simp [intOf]; omega
    · go_wp2_with fail
      refine (oddT _ _ _ _ _ hr hk (by omega) (by omega)).mono ?_; rintro e w4 ⟨t, rfl, _, hr4, ht4⟩
      have hG4 := hG.pastT ht4 (fun k e => by subst e; exact hgw)
      have hT4 := hT.trans ht4
      clear hG hT hr ht4
      cases t
      · go_wp2
        go_ret
        exact ⟨_, _, _, _, rfl, hG4, by omega, hr4.more (by omega), hT4⟩
      · go_wp2_with fail
        refine (pickT _ _ _ _ _ hr4 (by omega) (by omega) (by omega)).mono ?_; rintro e w5 ⟨z, hz, rfl, hr5, ht5⟩
        have hG5 := hG4.pastT ht5 (fun k e => by subst e; exact hgw)
        have hT5 := hT4.trans ht5
        clear hG4 hT4 hr4 ht5
        obtain rfl | rfl | rfl : z = 0 ∨ z = 1 ∨ z = 2 := by omega
        · have hal : Ext w5 (w5.alloc (.cells #[.int .i64 256, .int .i64 0, .int .i64 1] 76)) := (Below.refl _ _).alloc (Nat.le_refl _) _
          have hRl : Rd (w5.alloc (.cells #[.int .i64 256, .int .i64 0, .int .i64 1] 76)) 3 (some ⟨w5.heap.size, 0, none⟩) 1 1 (c3 [(256, 0, 1)]) := Rd.lit (sz := 3) (n := 1) #[.int .i64 256, .int .i64 0, .int .i64 1] rfl (by omega)
          have hG2 := hG5.below hal
          have hR2 := hr5.keep hal
          have hT2 := hT5.trans (Tch.ext (S := (· = g)) hal)
          have hle2 := hT2.size
          clear hG5 hT5 hr5 hal
          go_wp2_with (at_builtin; refine wpList_append_fr _ rfl _ _ 28 rfl w.heap.size 76 i1 _ 3 24 Try.underlying28 ki kz0 kz1 kz2 rfl (by omega) _ m _ rfl hG2 _ 1 1 _ rfl hRl (one_c3 _) (by unfold maxLen; omega) (by omega) hle2 ?_; intro Ab cb wc rowb hFb hgb hrowb)
          rw [← c3_append] at hFb
          go_ret
          exact ⟨_, _, _, _, rfl, hFb, by omega, (hR2.past hgb (fun k hk => Nat.le_trans hB (hrowb k hk).1)).more (by omega), hT2.new hgb (fun k hk => (hrowb k hk).1)⟩
        · have hal : Ext w5 (w5.alloc (.cells #[.int .i64 0, .int .i64 4] 3)) := (Below.refl _ _).alloc (Nat.le_refl _) _
          have hc0 : (w5.alloc (.cells #[.int .i64 0, .int .i64 4] 3)).cell? ⟨w5.heap.size, 0, none⟩ = some (.int .i64 0) := by rw [World.cell?_alloc_new]; rfl
          have hc1 : (w5.alloc (.cells #[.int .i64 0, .int .i64 4] 3)).cell? ⟨w5.heap.size, 1, none⟩ = some (.int .i64 4) := by rw [World.cell?_alloc_new]; rfl
          have hne : ¬ (w5.heap.size = g) := by have := hr5.lt; omega
          have hG2 := hG5.below hal
          have hR2 := hr5.keep hal
          have hT2 := hT5.trans (Tch.ext (S := (· = g)) hal)
          clear hG5 hT5 hr5 hal
          go_wp2_with fail
          refine (pickT _ _ _ _ _ hR2 (by omega) (by omega) (by omega)).mono ?_; rintro e w6 ⟨y, hy, rfl, hr5, ht6⟩
          have hd0 := ht6.cell hc0 hne
          have hd1 := ht6.cell hc1 hne
          have hG5 := hG2.pastT ht6 (fun k e => by subst e; exact hgw)
          have hT5 := hT2.trans ht6
          clear hG2 hT2 hR2 ht6 hc0 hc1
          obtain rfl | rfl : y = 0 ∨ y = 1 := by omega
          · have hal : Ext w6 (w6.alloc (.cells #[.int .i64 200, .int .i64 0, .int .i64 0] 76)) := (Below.refl _ _).alloc (Nat.le_refl _) _
            have hRl : Rd (w6.alloc (.cells #[.int .i64 200, .int .i64 0, .int .i64 0] 76)) 3 (some ⟨w6.heap.size, 0, none⟩) 1 1 (c3 [(200, 0, 0)]) := Rd.lit (sz := 3) (n := 1) #[.int .i64 200, .int .i64 0, .int .i64 0] rfl (by omega)
            have hG2 := hG5.below hal
            have hR2 := hr5.keep hal
            have hT2 := hT5.trans (Tch.ext (S := (· = g)) hal)
            have hle2 := hT2.size
            clear hG5 hT5 hr5 hal
            go_wp2_with (at_builtin; refine wpList_append_fr _ rfl _ _ 28 rfl w.heap.size 76 i1 _ 3 24 Try.underlying28 ki kz0 kz1 kz2 rfl (by omega) _ m _ rfl hG2 _ 1 1 _ rfl hRl (one_c3 _) (by unfold maxLen; omega) (by omega) hle2 ?_; intro Ab cb wc rowb hFb hgb hrowb)
            rw [← c3_append] at hFb
            go_ret
            exact ⟨_, _, _, _, rfl, hFb, by omega, (hR2.past hgb (fun k hk => Nat.le_trans hB (hrowb k hk).1)).more (by omega), hT2.new hgb (fun k hk => (hrowb k hk).1)⟩
          · have hal : Ext w6 (w6.alloc (.cells #[.int .i64 200, .int .i64 0, .int .i64 4] 76)) := (Below.refl _ _).alloc (Nat.le_refl _) _
            have hRl : Rd (w6.alloc (.cells #[.int .i64 200, .int .i64 0, .int .i64 4] 76)) 3 (some ⟨w6.heap.size, 0, none⟩) 1 1 (c3 [(200, 0, 4)]) := Rd.lit (sz := 3) (n := 1) #[.int .i64 200, .int .i64 0, .int .i64 4] rfl (by omega)
            have hG2 := hG5.below hal
            have hR2 := hr5.keep hal
            have hT2 := hT5.trans (Tch.ext (S := (· = g)) hal)
            have hle2 := hT2.size
            clear hG5 hT5 hr5 hal
            go_wp2_with (at_builtin; refine wpList_append_fr _ rfl _ _ 28 rfl w.heap.size 76 i1 _ 3 24 Try.underlying28 ki kz0 kz1 kz2 rfl (by omega) _ m _ rfl hG2 _ 1 1 _ rfl hRl (one_c3 _) (by unfold maxLen; omega) (by omega) hle2 ?_; intro Ab cb wc rowb hFb hgb hrowb)
            rw [← c3_append] at hFb
            go_ret
            exact ⟨_, _, _, _, rfl, hFb, by omega, (hR2.past hgb (fun k hk => Nat.le_trans hB (hrowb k hk).1)).more (by omega), hT2.new hgb (fun k hk => (hrowb k hk).1)⟩
        · have hal : Ext w5 (w5.alloc (.cells #[.int .i64 50, .int .i64 0, .int .i64 1, .int .i64 50, .int .i64 0, .int .i64 1] 76)) := (Below.refl _ _).alloc (Nat.le_refl _) _
          have hRl : Rd (w5.alloc (.cells #[.int .i64 50, .int .i64 0, .int .i64 1, .int .i64 50, .int .i64 0, .int .i64 1] 76)) 3 (some ⟨w5.heap.size, 0, none⟩) 2 2 (c3 [(50, 0, 1), (50, 0, 1)]) := Rd.lit (sz := 3) (n := 2) #[.int .i64 50, .int .i64 0, .int .i64 1, .int .i64 50, .int .i64 0, .int .i64 1] rfl (by omega)
          have hG2 := hG5.below hal
          have hR2 := hr5.keep hal
          have hT2 := hT5.trans (Tch.ext (S := (· = g)) hal)
          have hle2 := hT2.size
          clear hG5 hT5 hr5 hal
          go_wp2_with (at_builtin; refine wpList_append_fr _ rfl _ _ 28 rfl w.heap.size 76 i1 _ 3 24 Try.underlying28 ki kz0 kz1 kz2 rfl (by omega) _ m _ rfl hG2 _ 2 2 _ rfl hRl (one_c3 _) (by unfold maxLen; omega) (by omega) hle2 ?_; intro Ab cb wc rowb hFb hgb hrowb)
          rw [← c3_append] at hFb
          go_ret
          exact ⟨_, _, _, _, rfl, hFb, by omega, (hR2.past hgb (fun k hk => Nat.le_trans hB (hrowb k hk).1)).more (by omega), hT2.new hgb (fun k hk => (hrowb k hk).1)⟩



end Go.Proofs.Yteahiiflgiimnaa
