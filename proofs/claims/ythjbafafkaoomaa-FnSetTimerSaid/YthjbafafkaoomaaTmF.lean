/-
  What the reference draws for the laws on timers.
-/
import Derived.Test.YthjbafafkaoomaaTmE
namespace Go.Proofs.Ythjbafafkaoomaa
open Go.RowKit

theorem setR_len (t v : Int) (ms : List Tm) : (setR t v ms).length ≤ 17 := by
  unfold setR
  split
  · rename_i h
    have h1 := setK_len t v ms ms.length
    have h2 : ms.length ≤ 16 := by
      unfold setOk at h
      simp only [Bool.and_eq_true] at h
      exact tmValid_len h.1.1
    split
    · rename_i h3; rw [if_pos h3] at h1; omega
    · rename_i h3; rw [if_neg h3] at h1; rw [List.length_append]; show _ + 1 ≤ 17; omega
  · simp

set_option maxHeartbeats 2000000 in
theorem l20Timers_any (B g p : Nat) (k : Int) (w : World) (h : Rdr w B g p) (hB : B ≤ w.heap.size) (hk : 0 ≤ k) (hk' : k ≤ 1000) (hp : p ≤ 10000) :
    Calls Try.prog 53 #[.pointer (some ⟨g, 0, none⟩), .int .i64 k] w fun e w' => ∃ A n c ms, e = .returned (.slice A n c) ∧ Fr w' w.heap.size 39 2 (.slice A n c) n (c2 ms) ∧ n ≤ 19 ∧ Rdr w' B g (p + 100) ∧ Tch w w' (· = g) := by
  obtain ⟨i1, ki, kz0, kz1, kz2⟩ := info_parts Try.infoTm
  have hgB := h.low
  have hgw : g < w.heap.size := Nat.lt_of_lt_of_le hgB hB
  have hal0 : Ext w (w.alloc (.cells #[] 39)) := (Below.refl _ _).alloc (Nat.le_refl _) _
  have h1 := h.keep hal0
  have hF0 : Fr (w.alloc (.cells #[] 39)) w.heap.size 39 2 (.slice (some ⟨w.heap.size, 0, none⟩) 0 0) 0 (c2 []) := .inr (Row.lit (w := w) (n := 0) #[] (by simp) (by unfold maxLen; omega) (Nat.le_refl _))
  have hT0 : Tch w (w.alloc (.cells #[] 39)) (· = g) := Tch.ext hal0
  clear h hal0
  go_enter Try.func53, Try.ntmps53
  go_wp2_with fail
  refine (pickT _ _ _ _ _ h1 (by omega) (by omega) (by omega)).mono ?_; rintro e w1 ⟨n, hn, rfl, hr1, ht1⟩
  have hF1 := hF0.pastT ht1 (fun k e => by subst e; exact hgw)
  have hT1 := hT0.trans ht1
  clear h1 hF0 hT0 ht1
  go_wp2
  go_loopw [5, 6] (fun out ii wr => ∃ (i j m : Nat) (Ao : Option Addr) (co : Nat) (ms : List Tm), i + j = n ∧ m ≤ 17 ∧ ii = .int .i64 i ∧ out = .slice Ao m co ∧ Fr wr w.heap.size 39 2 (.slice Ao m co) m (c2 ms) ∧ Tch w wr (· = g) ∧ Rdr wr B g (p + 1 + 2 * j)) (fun _ ii _ => (intOf ii).toNat)
  case atStart => exact ⟨n, 0, 0, _, _, [], by omega, by omega, rfl, rfl, hF1, hT1, hr1⟩
  case round =>
    clear hF1 hT1 hr1
    obtain ⟨i, j, m, Ao, co, ms, hij, hmj, rfl, rfl, hG, hT, hr⟩ := hrel
    by_cases hlt : 0 < i
    · go_wp2_with fail
      refine (pickT _ _ _ _ _ hr (by omega) (by omega) (by omega)).mono ?_; rintro e w5 ⟨z0, hz0', rfl, hR5, hT5⟩
      have hG5 := hG.pastT hT5 (fun k e => by subst e; exact hgw)
      have hT5' := hT.trans hT5
      clear hG hT hr hT5
      go_wp2_with fail
      refine (pickT _ _ _ _ _ hR5 (by omega) (by omega) (by omega)).mono ?_; rintro e w6 ⟨z1, hz1', rfl, hR6, hT6⟩
      have hG6 := hG5.pastT hT6 (fun k e => by subst e; exact hgw)
      have hT6' := hT5'.trans hT6
      clear hG5 hT5' hR5 hT6
      go_wp2_with fail
      refine (specSetTimer_any _ _ _ _ _ _ _ hG6.rd'.2).mono ?_; rintro e w7 ⟨A7, c7, rfl, hF7, hb7⟩
      have hT7 := hT6'.trans (Tch.ext (S := (· = g)) hb7)
      have hR7 := hR6.keep hb7
      have hG7 := hF7.mono hT6'.size
      have hl7 := setR_len z0 z1 ms
      obtain ⟨n7, hn7⟩ : ∃ q, (setR z0 z1 ms).length = q := ⟨_, rfl⟩
      rw [hn7] at hG7 hl7 ⊢
      clear hG6 hT6' hR6 hF7 hb7 hn7
      go_wp2
      go_roundw
      case rel => exact ⟨i - 1, j + 1, n7, A7, c7, _, by omega, by omega, by go_num, rfl, hG7, hT7, hR7.more (by omega)⟩
      case measure => simp [intOf]; omega
    · go_wp2_with fail
      refine (oddT _ _ _ _ _ hr hk (by omega) (by omega)).mono ?_; rintro e w4 ⟨t, rfl, _, hr4, ht4⟩
      have hG4 := hG.pastT ht4 (fun k e => by subst e; exact hgw)
      have hT4 := hT.trans ht4
      clear hG hT hr ht4
      cases t
      · go_wp2
        go_ret
        exact ⟨_, _, _, _, rfl, hG4, by omega, hr4.more (by omega), hT4⟩
      · go_wp2_with fail
        refine (pickT _ _ _ _ _ hr4 (by omega) (by omega) (by omega)).mono ?_; rintro e w5 ⟨z, hz, rfl, hr5, ht5⟩
        have hG5 := hG4.pastT ht5 (fun k e => by subst e; exact hgw)
        have hT5 := hT4.trans ht5
        clear hG4 hT4 hr4 ht5
        obtain rfl | rfl | rfl : z = 0 ∨ z = 1 ∨ z = 2 := by omega
        · have hal : Ext w5 (w5.alloc (.cells #[.int .i64 3, .int .i64 50, .int .i64 3, .int .i64 51] 39)) := (Below.refl _ _).alloc (Nat.le_refl _) _
          have hRl : Rd (w5.alloc (.cells #[.int .i64 3, .int .i64 50, .int .i64 3, .int .i64 51] 39)) 2 (some ⟨w5.heap.size, 0, none⟩) 2 2 (c2 [(3, 50), (3, 51)]) := Rd.lit (sz := 2) (n := 2) #[.int .i64 3, .int .i64 50, .int .i64 3, .int .i64 51] rfl (by omega)
          have hG2 := hG5.below hal
          have hR2 := hr5.keep hal
          have hT2 := hT5.trans (Tch.ext (S := (· = g)) hal)
          have hle2 := hT2.size
          clear hG5 hT5 hr5 hal
          go_wp2_with (at_builtin; refine wpList_append_fr _ rfl _ _ 25 rfl w.heap.size 39 i1 _ 2 16 Try.underlying25 ki kz0 kz1 kz2 rfl (by omega) _ m _ rfl hG2 _ 2 2 _ rfl hRl (one_c2 _) (by unfold maxLen; omega) (by omega) hle2 ?_; intro Ab cb wc rowb hFb hgb hrowb)
          rw [← c2_append] at hFb
          go_ret
          exact ⟨_, _, _, _, rfl, hFb, by omega, (hR2.past hgb (fun k hk => Nat.le_trans hB (hrowb k hk).1)).more (by omega), hT2.new hgb (fun k hk => (hrowb k hk).1)⟩
        · have hal : Ext w5 (w5.alloc (.cells #[.int .i64 1, .int .i64 (-1)] 39)) := (Below.refl _ _).alloc (Nat.le_refl _) _
          have hRl : Rd (w5.alloc (.cells #[.int .i64 1, .int .i64 (-1)] 39)) 2 (some ⟨w5.heap.size, 0, none⟩) 1 1 (c2 [(1, -1)]) := Rd.lit (sz := 2) (n := 1) #[.int .i64 1, .int .i64 (-1)] rfl (by omega)
          have hG2 := hG5.below hal
          have hR2 := hr5.keep hal
          have hT2 := hT5.trans (Tch.ext (S := (· = g)) hal)
          have hle2 := hT2.size
          clear hG5 hT5 hr5 hal
          go_wp2_with (at_builtin; refine wpList_append_fr _ rfl _ _ 25 rfl w.heap.size 39 i1 _ 2 16 Try.underlying25 ki kz0 kz1 kz2 rfl (by omega) _ m _ rfl hG2 _ 1 1 _ rfl hRl (one_c2 _) (by unfold maxLen; omega) (by omega) hle2 ?_; intro Ab cb wc rowb hFb hgb hrowb)
          rw [← c2_append] at hFb
          go_ret
          exact ⟨_, _, _, _, rfl, hFb, by omega, (hR2.past hgb (fun k hk => Nat.le_trans hB (hrowb k hk).1)).more (by omega), hT2.new hgb (fun k hk => (hrowb k hk).1)⟩
        · have hal : Ext w5 (w5.alloc (.cells #[.int .i64 16, .int .i64 99] 39)) := (Below.refl _ _).alloc (Nat.le_refl _) _
          have hRl : Rd (w5.alloc (.cells #[.int .i64 16, .int .i64 99] 39)) 2 (some ⟨w5.heap.size, 0, none⟩) 1 1 (c2 [(16, 99)]) := Rd.lit (sz := 2) (n := 1) #[.int .i64 16, .int .i64 99] rfl (by omega)
          have hG2 := hG5.below hal
          have hR2 := hr5.keep hal
          have hT2 := hT5.trans (Tch.ext (S := (· = g)) hal)
          have hle2 := hT2.size
          clear hG5 hT5 hr5 hal
          go_wp2_with (at_builtin; refine wpList_append_fr _ rfl _ _ 25 rfl w.heap.size 39 i1 _ 2 16 Try.underlying25 ki kz0 kz1 kz2 rfl (by omega) _ m _ rfl hG2 _ 1 1 _ rfl hRl (one_c2 _) (by unfold maxLen; omega) (by omega) hle2 ?_; intro Ab cb wc rowb hFb hgb hrowb)
          rw [← c2_append] at hFb
          go_ret
          exact ⟨_, _, _, _, rfl, hFb, by omega, (hR2.past hgb (fun k hk => Nat.le_trans hB (hrowb k hk).1)).more (by omega), hT2.new hgb (fun k hk => (hrowb k hk).1)⟩

set_option maxHeartbeats 400000 in
theorem DrawTimersValid_any (A : Option Addr) (n c : Nat) (bs : List UInt8) (w : World) (h : Rd w 1 A n c (cU bs)) :
    Calls Try.prog 24 #[.slice A n c] w fun e w' => ∃ A' n' c' ms, e = .returned (.slice A' n' c') ∧ Rd w' 2 A' n' c' (c2 ms) ∧ n' ≤ 19 ∧ Ext w w' := by
  go_enter Try.func24, Try.ntmps24
  go_wp2_with fail
  refine (l20Open_any _ _ _ _ _ h).mono ?_; rintro e w1 ⟨rfl, hr, hb⟩
  have hs := hr.lt
  go_wp2_with fail
  refine (l20Timers_any _ _ _ _ _ hr (by omega) (by omega) (by omega) (by omega)).mono ?_; rintro e w2 ⟨A', n', c', ms, rfl, hA, h9, _, ht⟩
  have hb2 := ext_tch hb ht (fun k e => by subst e; exact Nat.le_refl _)
  go_wp2
  go_ret
  exact ⟨_, _, _, _, rfl, hA.rd'.2, h9, hb2⟩

set_option maxHeartbeats 400000 in
theorem DrawDropTimer_any (A : Option Addr) (n c : Nat) (bs : List UInt8) (w : World) (h : Rd w 1 A n c (cU bs)) :
    Calls Try.prog 35 #[.slice A n c] w fun e w' => ∃ A' n' c' ms t, e = .returned (.tuple #[.slice A' n' c', .int .i64 t]) ∧ Rd w' 2 A' n' c' (c2 ms) ∧ n' ≤ 19 ∧ Ext w w' := by
  go_enter Try.func35, Try.ntmps35
  go_wp2_with fail
  refine (l20Open_any _ _ _ _ _ h).mono ?_; rintro e w1 ⟨rfl, hr, hb⟩
  have hs := hr.lt
  go_wp2_with fail
  refine (l20Timers_any _ _ _ _ _ hr (by omega) (by omega) (by omega) (by omega)).mono ?_; rintro e w2 ⟨A', n', c', ms, rfl, hA, h9, hr2, ht⟩
  have hb2 := ext_tch hb ht (fun k e => by subst e; exact Nat.le_refl _)
  go_wp2_with fail
  refine (pickT _ _ _ _ _ hr2 (by omega) (by omega) (by omega)).mono ?_; rintro e w3 ⟨z0, hz0', rfl, hR3, hT3⟩
  have hA3 := hA.pastT hT3 (fun k e => by subst e; exact hs)
  have hb3 := ext_tch hb2 hT3 (fun k e => by subst e; exact Nat.le_refl _)
  go_wp2
  go_ret2
  exact ⟨_, _, _, _, _, rfl, hA3.rd'.2, h9, hb3⟩

set_option maxHeartbeats 1000000 in
theorem DrawExpireTimers_any (A : Option Addr) (n c : Nat) (bs : List UInt8) (w : World) (h : Rd w 1 A n c (cU bs)) :
    Calls Try.prog 37 #[.slice A n c] w fun e w' => ∃ A' n' c' ms q, e = .returned (.tuple #[.slice A' n' c', .int .i64 q]) ∧ Rd w' 2 A' n' c' (c2 ms) ∧ n' ≤ 19 ∧ (-1 ≤ q ∧ q ≤ 21) ∧ Ext w w' := by
  go_enter Try.func37, Try.ntmps37
  go_wp2_with fail
  refine (l20Open_any _ _ _ _ _ h).mono ?_; rintro e w1 ⟨rfl, hr, hb⟩
  have hs := hr.lt
  go_wp2_with fail
  refine (l20Timers_any _ _ _ _ _ hr (by omega) (by omega) (by omega) (by omega)).mono ?_; rintro e w2 ⟨A', n', c', ms, rfl, hA, h9, hr2, ht⟩
  have hb2 := ext_tch hb ht (fun k e => by subst e; exact Nat.le_refl _)
  obtain ⟨g, hg⟩ : ∃ g, w.heap.size = g := ⟨_, rfl⟩
  rw [hg] at hr hr2 ht ⊢
  go_wp2_with fail
  refine wp_region_draw (g := g) (B := g + 1) (100) 1 [.eq _ (Value.slice A' n' c'), .eq _ (Value.pointer (some ⟨g, 0, none⟩)), .rng _ (0) (21), .lit _ 2 (-1) (21), .eq _ (Value.pointer (some ⟨g, 0, none⟩)), .rng _ (0) (13), .rng _ (0) (1), .adr _ (-1) (21), .rng _ (-1) (21), .eq _ (Value.slice A' n' c'), .rng _ (-1) (21)] (by kernel_rfl) (by kernel_rfl) (by rfl) (hr2.more (by omega)) ?_ ?_
  · refine ⟨?_, ?_, ?_, ?_, ?_, ?_, ?_, ?_, ?_, ?_, ?_, trivial⟩
    · intro t a_ vs wt ht hI hD hA K hK
      have a5 : a_.tmps[5]?.getD undef = Value.slice A' n' c' := hA 5
      clear hA hD
      go_simp
      exact hK _ _ rfl (Tch.refl _ _) hI.stay
    · intro t a_ vs wt ht hI hD hA K hK
      have a4 : a_.tmps[4]?.getD undef = Value.pointer (some ⟨g, 0, none⟩) := hA 4
      clear hA hD
      go_simp
      exact hK _ _ rfl (Tch.refl _ _) hI.stay
    · intro t a_ vs wt ht hI hD hA K hK
      have d1 : vs 1 = Value.pointer (some ⟨g, 0, none⟩) := hD 1 rfl
      have a11 : a_.tmps[11]?.getD undef = vs 1 := hA 11
      rw [d1] at a11
      clear hA hD
      go_simp
      refine (pickT _ _ _ _ _ hI.rd (by omega) (by omega) (by have : t < 11 := ht; omega)).mono ?_; rintro e w2 ⟨k, hk, rfl, hr, hT⟩
      exact hK _ _ ⟨_, rfl, by omega, by omega⟩ hT (hI.call hr (by omega) hT)
    · intro t a_ vs wt ht hI hD hA K hK
      obtain ⟨x2, d2, l2, u2⟩ := hD 2 rfl
      have a12 : a_.tmps[12]?.getD undef = vs 2 := hA 12
      rw [d2] at a12
      clear hA hD
      have hc := fun e => lit_all (w := wt) (e := e) (lo := -1) (hi := 21) [(x2), (-1)] (by simp only [List.mem_cons, List.not_mem_nil, or_false]; omega) rfl
      go_simp
      exact hK _ _ ⟨_, rfl, hI.ne, hc _⟩ (tch_alloc _ _ _) (hI.alloc _)
    · intro t a_ vs wt ht hI hD hA K hK
      have a4 : a_.tmps[4]?.getD undef = Value.pointer (some ⟨g, 0, none⟩) := hA 4
      clear hA hD
      go_simp
      exact hK _ _ rfl (Tch.refl _ _) hI.stay
    · intro t a_ vs wt ht hI hD hA K hK
      have d4 : vs 4 = Value.pointer (some ⟨g, 0, none⟩) := hD 4 rfl
      have a14 : a_.tmps[14]?.getD undef = vs 4 := hA 14
      rw [d4] at a14
      clear hA hD
      go_simp
      refine (pickT _ _ _ _ _ hI.rd (by omega) (by omega) (by have : t < 11 := ht; omega)).mono ?_; rintro e w2 ⟨k, hk, rfl, hr, hT⟩
      exact hK _ _ ⟨_, rfl, by omega, by omega⟩ hT (hI.call hr (by omega) hT)
    · intro t a_ vs wt ht hI hD hA K hK
      obtain ⟨x5, d5, l5, u5⟩ := hD 5 rfl
      have a15 : a_.tmps[15]?.getD undef = vs 5 := hA 15
      rw [d5] at a15
      clear hA hD
      have ew : IntKind.i64.wrap (x5.tdiv 13) = x5 / 13 := by rw [Int.tdiv_eq_ediv_of_nonneg (by omega), IntKind.wrap_i64]; omega
      go_simp
      exact hK _ _ ⟨_, rfl, by omega, by omega⟩ (Tch.refl _ _) hI.stay
    · intro t a_ vs wt ht hI hD hA K hK
      obtain ⟨b3, d3, n3, c3⟩ := hD 3 rfl
      have a13 : a_.tmps[13]?.getD undef = vs 3 := hA 13
      rw [d3] at a13
      obtain ⟨x6, d6, l6, u6⟩ := hD 6 rfl
      have a16 : a_.tmps[16]?.getD undef = vs 6 := hA 16
      rw [d6] at a16
      clear hA hD
      have z0 : 0 ≤ x6 := by omega
      have z1 : x6 < 2 := by omega
      obtain ⟨y, hy, cy⟩ := c3 (x6).toNat (by omega)
      go_simp
      exact hK _ _ ⟨_, _, rfl, n3, y, hy, cy⟩ (Tch.refl _ _) hI.stay
    · intro t a_ vs wt ht hI hD hA K hK
      obtain ⟨b7, i7, d7, n7, y7, q7, c7⟩ := hD 7 rfl
      have a17 : a_.tmps[17]?.getD undef = vs 7 := hA 17
      rw [d7] at a17
      clear hA hD
      go_simp
      exact hK _ _ ⟨_, rfl, q7.1, q7.2⟩ (Tch.refl _ _) hI.stay
    · intro t a_ vs wt ht hI hD hA K hK
      have d := hD 0 rfl
      have a10 : a_.tmps[10]?.getD undef = vs 0 := hA 10
      clear hA hD
      go_simp
      exact hK _ _ d (Tch.refl _ _) hI.stay
    · intro t a_ vs wt ht hI hD hA K hK
      have d := hD 8 rfl
      have a18 : a_.tmps[18]?.getD undef = vs 8 := hA 18
      clear hA hD
      go_simp
      exact hK _ _ d (Tch.refl _ _) hI.stay
  · intro vs wz hrz hTz hF
    obtain ⟨f0, f1, f2, f3, f4, f5, f6, f7, f8, f9, f10, -⟩ := hF
    simp only [putAll, Act.put, List.setIfInBounds_toArray, List.set_cons_zero, List.set_cons_succ]
    obtain ⟨x, hx, hx0, hx1⟩ := f10
    rw [show vs 9 = _ from f9, hx]
    go_wp2
    go_ret2
    exact ⟨_, _, _, _, _, rfl, (hA.pastT hTz (fun k e => by omega)).rd'.2, h9, ⟨by omega, by omega⟩, ext_tch hb2 hTz (fun k e => by subst e; omega)⟩
end Go.Proofs.Ythjbafafkaoomaa
