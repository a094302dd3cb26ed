/-
  What the reference draws for lending along calls.
-/
import Derived.Test.YtbpkclhpjelelaaTiD
import Derived.Test.YtbpkclhpjelelaaTiE
import Derived.Deep.Cut
namespace Go.Proofs.Ytbpkclhpjelelaa
open Go.RowKit

set_option maxHeartbeats 1000000 in
theorem specPushCall_any (A : Option Addr) (n c : Nat) (cs : List Int) (v : Int) (w : World) (h : Rd w 1 A n c (cI cs)) (hn : n ≤ 1000) :
    Calls Try.prog 41 #[.slice A n c, .int .i64 v] w fun e w' => ∃ A' n' c' ys t, e = .returned (.tuple #[.slice A' n' c', .bool t]) ∧ Fr w' w.heap.size 3 1 (.slice A' n' c') n' (cI ys) ∧ n' ≤ n + 1 ∧ Ext w w' := by
  have hle := h.le
  have htop := h.top
  obtain ⟨i0, hi0, hz0, hz1, hz2⟩ := info_parts Try.infoInt
  have new : ∀ w' : World, Ext w w' → Fr (w'.alloc (.cells #[] 3)) w.heap.size 3 1 (.slice (some ⟨w'.heap.size, 0, none⟩) 0 0) 0 (cI []) ∧ Ext w (w'.alloc (.cells #[] 3)) := fun w' he =>
    ⟨.inr (Row.lit (n := 0) #[] (by simp) (by unfold maxLen; omega) he.size), he.alloc he.size _⟩
  have NEW := Lib.hid new
  clear new
  obtain ⟨t1, e1⟩ : ∃ t, cValid cs = t := ⟨_, rfl⟩
  obtain ⟨t2, e2⟩ : ∃ t, inB v 0 15 = t := ⟨_, rfl⟩
  have E1 := Lib.hid e1
  have E2 := Lib.hid e2
  clear e1 e2
  go_enter Try.func41, Try.ntmps41
  go_wp2_with fail
  refine (specCallsValid_any _ _ _ _ _ h).mono ?_; rintro e w2 ⟨rfl, hb2⟩; rw [E1.out]
  obtain ⟨hF1, hal1⟩ := NEW.out w2 hb2
  have hR1 := h.below hal1
  have hl1 := hal1.size
  cases t1
  · clear h hR1
    go_wp2
    go_ret2
    exact ⟨_, _, _, [], _, rfl, hF1, by omega, hal1⟩
  go_wp2_with fail
  refine (l1In_any _ _ _ _).mono ?_; rintro e w' ⟨rfl, rfl⟩; rw [E2.out]
  cases t2
  · clear h hR1
    go_wp2
    go_ret2
    exact ⟨_, _, _, [], _, rfl, hF1, by omega, hal1⟩
  go_upto_region 4 with (at_builtin; refine wpList_append_fr _ rfl _ _ 23 rfl w.heap.size 3 i0 _ 1 8 Try.underlying23 hi0 hz0 hz1 hz2 rfl (by omega) _ 0 _ rfl hF1 _ n c _ rfl hR1 (one_cI _) (by unfold maxLen; omega) (by omega) hl1 ?_; intro Ao co w3 rowx hFx hgx hrowx)
  have hbb := ext_grown hal1 hgx (fun k hk => (hrowx k hk).1)
  rw [Nat.zero_add, show cI [] ++ cI cs = cI cs from rfl] at hFx
  clear hF1 hal1 hR1 hl1 hgx hrowx E1 E2 hb2
  go_wp2
  go_loopw [7] (fun i wr => ∃ k : Nat, k ≤ n ∧ i = .int .i64 k ∧ w3 = wr) (fun i _ => n - (intOf i).toNat)
  case atStart => exact ⟨0, Nat.zero_le _, rfl, rfl⟩
  case round =>
    obtain ⟨k, hk, rfl, rfl⟩ := hrel
    by_cases hlt : k < n
    · obtain ⟨b, off, z, hAA, X, g0⟩ := (h.below hbb).atI hlt
      subst hAA
      clear h X
      by_cases hz : z = v
      · subst hz
        go_wp2
        go_ret2
        exact ⟨_, _, _, _, _, rfl, hFx, by omega, hbb⟩
      · have hz' : (z == v) = false := by rw [beq_eq_false_iff_ne]; exact hz
        go_wp2
        go_roundw
        case rel => exact ⟨k + 1, by omega, by go_num, by first | rfl | trivial⟩
        case measure => simp [intOf]; omega
    · have hal : Ext w3 (w3.alloc (.cells #[.int .i64 v] 3)) := (Below.refl _ _).alloc (Nat.le_refl _) _
      have hF2 := hFx.below hal
      have hR2 : Rd (w3.alloc (.cells #[.int .i64 v] 3)) 1 (some ⟨w3.heap.size, 0, none⟩) 1 1 (cI [v]) := Rd.lit (sz := 1) (n := 1) #[.int .i64 v] rfl (by omega)
      have hl2 := Nat.le_trans hbb.size hal.size
      have hb2 := hbb.trans hal
      clear h hFx hal
      go_wp2_with (at_builtin; refine wpList_append_fr _ rfl _ _ 23 rfl w.heap.size 3 i0 _ 1 8 Try.underlying23 hi0 hz0 hz1 hz2 rfl (by omega) _ n _ rfl hF2 _ 1 1 _ rfl hR2 (one_cI _) (by unfold maxLen; omega) (by omega) hl2 ?_; intro Ax cx wx rowy hFy hgy hrowy)
      rw [← cI_append] at hFy
      go_ret2
      exact ⟨_, _, _, _, _, rfl, hFy, by omega, ext_grown hb2 hgy (fun k hk => (hrowy k hk).1)⟩

set_option maxHeartbeats 2000000 in
theorem l20Calls_any (B g p : Nat) (k : Int) (w : World) (h : Rdr w B g p) (hB : B ≤ w.heap.size) (hk : 0 ≤ k) (hk' : k ≤ 1000) (hp : p ≤ 10000) :
    Calls Try.prog 43 #[.pointer (some ⟨g, 0, none⟩), .int .i64 k] w fun e w' => ∃ A n c xs, e = .returned (.slice A n c) ∧ Fr w' w.heap.size 3 1 (.slice A n c) n (cI xs) ∧ n ≤ 10 ∧ Rdr w' B g (p + 100) ∧ Tch w w' (· = g) := by
  obtain ⟨i0, hi0, hz0, hz1, hz2⟩ := info_parts Try.infoInt
  have hgB := h.low
  have hgw : g < w.heap.size := Nat.lt_of_lt_of_le hgB hB
  have hal0 : Ext w (w.alloc (.cells #[] 3)) := (Below.refl _ _).alloc (Nat.le_refl _) _
  have h1 := h.keep hal0
  have hF0 : Fr (w.alloc (.cells #[] 3)) w.heap.size 3 1 (.slice (some ⟨w.heap.size, 0, none⟩) 0 0) 0 (cI []) := fr_empty w
  have hT0 : Tch w (w.alloc (.cells #[] 3)) (· = g) := Tch.ext hal0
  clear h hal0
  go_enter Try.func43, Try.ntmps43
  go_wp2_with fail
  refine (pickT _ _ _ _ _ h1 (by omega) (by omega) (by omega)).mono ?_; rintro e w1 ⟨n, hn, rfl, hr1, ht1⟩
  have hF1 := hF0.pastT ht1 (fun k e => by subst e; exact hgw)
  have hT1 := hT0.trans ht1
  clear h1 hF0 hT0 ht1
  go_wp2
  go_loopw [5, 6] (fun out ii wr => ∃ (i j m : Nat) (Ao : Option Addr) (co : Nat) (xs : List Int), i + j = n ∧ m ≤ j ∧ ii = .int .i64 i ∧ out = .slice Ao m co ∧ Fr wr w.heap.size 3 1 (.slice Ao m co) m (cI xs) ∧ Tch w wr (· = g) ∧ Rdr wr B g (p + 1 + j)) (fun _ ii _ => (intOf ii).toNat)
  case atStart => exact ⟨n, 0, 0, _, _, [], by omega, by omega, rfl, rfl, hF1, hT1, hr1⟩
  case round =>
    clear hF1 hT1 hr1
    obtain ⟨i, j, m, Ao, co, xs, hij, hmj, rfl, rfl, hG, hT, hr⟩ := hrel
    by_cases hlt : 0 < i
    · go_wp2_with fail
      refine (pickT _ _ _ _ _ hr (by omega) (by omega) (by omega)).mono ?_; rintro e w5 ⟨z0, hz0', rfl, hR5, hT5⟩
      have hG5 := hG.pastT hT5 (fun k e => by subst e; exact hgw)
      have hT5' := hT.trans hT5
      clear hG hT hr hT5
      go_wp2_with fail
      refine (specPushCall_any _ _ _ _ _ _ hG5.rd'.2 (by omega)).mono ?_; rintro e w6 ⟨A6, n6, c6, ys, t, rfl, hF6, hn6, hb6⟩
      have hT6 := hT5'.trans (Tch.ext (S := (· = g)) hb6)
      have hR6 := hR5.keep hb6
      have hG6 := hF6.mono hT5'.size
      clear hG5 hT5' hR5 hF6 hb6
      go_wp2
      go_roundw
      case rel => exact ⟨i - 1, j + 1, n6, A6, c6, ys, by omega, by omega, by go_num, rfl, hG6, hT6, hR6⟩
      case measure => simp [intOf]; omega
    · go_wp2_with fail
      refine (oddT _ _ _ _ _ hr hk (by omega) (by omega)).mono ?_; rintro e w4 ⟨t, rfl, _, hr4, ht4⟩
      have hG4 := hG.pastT ht4 (fun k e => by subst e; exact hgw)
      have hT4 := hT.trans ht4
      clear hG hT hr ht4
      cases t
      · go_wp2
        go_ret
        exact ⟨_, _, _, _, rfl, hG4, by omega, hr4.more (by omega), hT4⟩
      · have hg4 := hr4.lt
        have ha5 : Ext w4 (w4.alloc (.cells #[.int .i64 (-1), .int .i64 16, .int .i64 4] 3)) := (Below.refl _ _).alloc (Nat.le_refl _) _
        have hR5 := hr4.keep ha5
        have hG5 := hG4.below ha5
        have hT5 := hT4.trans (Tch.ext (S := (· = g)) ha5)
        have hL3 : ∀ k, k ≤ 2 → ∃ x : Int, (x = -1 ∨ x = 16 ∨ x = 4) ∧ (w4.alloc (.cells #[.int .i64 (-1), .int .i64 16, .int .i64 4] 3)).cell? ⟨w4.heap.size, k, none⟩ = some (.int .i64 x) := fun k hk => lit3_cell w4 _ _ _ _ hk
        clear hr4 hG4 hT4 ha5
        go_wp2_with fail
        refine (pickT _ _ _ _ _ hR5 (by omega) (by omega) (by omega)).mono ?_; rintro e w6 ⟨z1, hz1', rfl, hR6, hT6⟩
        obtain ⟨x, _, q0⟩ := hL3 z1 (by omega)
        have Q1 := hT6.cell q0 (show ¬ _ = g by omega)
        have hG6 := hG5.pastT hT6 (fun k e => by subst e; exact hgw)
        have hT6' := hT5.trans hT6
        have hal : Ext w6 (w6.alloc (.cells #[.int .i64 x, .int .i64 4] 3)) := (Below.refl _ _).alloc (Nat.le_refl _) _
        have hRl : Rd (w6.alloc (.cells #[.int .i64 x, .int .i64 4] 3)) 1 (some ⟨w6.heap.size, 0, none⟩) 2 2 (cI [x, 4]) := Rd.lit (sz := 1) (n := 2) #[.int .i64 x, .int .i64 4] rfl (by omega)
        have hG2 := hG6.below hal
        have hR2 := hR6.keep hal
        have hT2 := hT6'.trans (Tch.ext (S := (· = g)) hal)
        have hle2 := hT2.size
        clear hR5 hG5 hT5 hT6 hL3 q0 hG6 hR6 hT6' hal
        go_wp2_with (at_builtin; refine wpList_append_fr _ rfl _ _ 23 rfl w.heap.size 3 i0 _ 1 8 Try.underlying23 hi0 hz0 hz1 hz2 rfl (by omega) _ m _ rfl hG2 _ 2 2 _ rfl hRl (one_cI _) (by unfold maxLen; omega) (by omega) hle2 ?_; intro Ab cb wc rowb hFb hgb hrowb)
        rw [← cI_append] at hFb
        go_ret
        exact ⟨_, _, _, _, rfl, hFb, by omega, (hR2.past hgb (fun k hk => Nat.le_trans hB (hrowb k hk).1)).more (by omega), hT2.new hgb (fun k hk => (hrowb k hk).1)⟩

set_option maxHeartbeats 2000000 in
theorem DrawLendAlong_any (A : Option Addr) (n c : Nat) (bs : List UInt8) (w : World) (h : Rd w 1 A n c (cU bs)) :
    Calls Try.prog 27 #[.slice A n c] w fun e w' => ∃ A' n' c' xs B m d cs, e = .returned (.tuple #[.slice A' n' c', .slice B m d]) ∧ Rd w' 1 A' n' c' (cI xs) ∧ Rd w' 1 B m d (cI cs) ∧ 1 ≤ n' ∧ n' ≤ 9 ∧ m ≤ 10 ∧ Ext w w' := by
  go_enter Try.func27, Try.ntmps27
  go_wp2_with fail
  refine (l20Open_any _ _ _ _ _ h).mono ?_; rintro e w1 ⟨rfl, hr, hb⟩
  have hs := hr.lt
  go_wp2_with fail
  refine (l20Times_any _ _ _ _ _ hr (by omega) (by omega) (by omega) (by omega)).mono ?_; rintro e w2 ⟨A', n', c', xs, rfl, hA, hf, h1, h9, hr2, ht⟩
  have hb2 := ext_tch hb ht (fun k e => by subst e; exact Nat.le_refl _)
  obtain ⟨g, hg⟩ : ∃ g, w.heap.size = g := ⟨_, rfl⟩
  rw [hg] at hr hr2 ht ⊢
  have hf' : From (g + 1) A' n' := hf.mono (by omega)
  have hs2 := ht.size
  have hal0 : Ext w2 (w2.alloc (.cells #[] 3)) := (Below.refl _ _).alloc (Nat.le_refl _) _
  have hF0 := (fr_empty w2).mono (B' := g + 1) (show g + 1 ≤ w2.heap.size by omega)
  have hr0 := hr2.keep hal0
  have hA0 := hA.below hal0
  have hE0 := hb2.trans hal0
  have hsz0 := hal0.size
  clear hr2 hA hb2 hal0 hf ht hr hb
  go_wp2_with fail
  refine (pickT _ _ _ _ _ hr0 (by omega) (by omega) (by omega)).mono ?_; rintro e w3 ⟨k0, hk0, rfl, hr3, ht3⟩
  have hF3 := hF0.pastT ht3 (fun k e => by omega)
  have hA3 := hA0.only hf' ht3 (fun k e => by omega)
  have hE3 := ext_tch hE0 ht3 (fun k e => by subst e; omega)
  have hsz3 := ht3.size
  clear hF0 hA0 hE0 ht3 hr0
  go_wp2
  go_loopw [6, 7] (fun out ii wr => ∃ (i j m : Nat) (Ao : Option Addr) (co : Nat) (ys : List Int), i + j = k0 ∧ m ≤ j ∧ ii = .int .i64 i ∧ out = .slice Ao m co ∧ Fr wr (g + 1) 3 1 (.slice Ao m co) m (cI ys) ∧ Rd wr 1 A' n' c' (cI xs) ∧ Ext w wr ∧ w1.heap.size ≤ wr.heap.size ∧ Rdr wr (g + 1) g (101 + j)) (fun _ ii _ => (intOf ii).toNat)
  case atStart => exact ⟨k0, 0, 0, _, _, [], by omega, by omega, rfl, rfl, hF3, hA3, hE3, by omega, hr3⟩
  case round =>
    clear hF3 hA3 hE3 hr3
    obtain ⟨i, j, m, Ao, co, ys, hij, hmj, rfl, rfl, hG, hA, hE, hz, hr⟩ := hrel
    rename World => wo
    by_cases hlt : 0 < i
    · go_wp2_with fail
      refine (pickT _ _ _ _ _ hr (by omega) (by omega) (by omega)).mono ?_; rintro e w5 ⟨z0, hz0', rfl, hR5, hT5⟩
      have hG5 := hG.pastT hT5 (fun k e => by omega)
      have hA5 := hA.only hf' hT5 (fun k e => by omega)
      have hE5 := ext_tch hE hT5 (fun k e => by subst e; omega)
      have hz5 := Nat.le_trans hz hT5.size
      clear hG hA hE hr hT5 hz
      go_wp2_with fail
      refine (specPushCall_any _ _ _ _ _ _ hG5.rd'.2 (by omega)).mono ?_; rintro e w6 ⟨A6, n6, c6, zs, t, rfl, hF6, hn6, hb6⟩
      have hA6 := hA5.below hb6
      have hE6 := hE5.trans hb6
      have hR6 := hR5.keep hb6
      have hz6 := Nat.le_trans hz5 hb6.size
      have hG6 := hF6.mono (B' := g + 1) (by omega)
      clear hG5 hA5 hE5 hR5 hF6 hb6
      go_wp2
      go_roundw
      case rel => exact ⟨i - 1, j + 1, n6, A6, c6, zs, by omega, by omega, by go_num, rfl, hG6, hA6, hE6, hz6, hR6⟩
      case measure => simp [intOf]; omega
    · go_wp2_with fail
      refine (oddT _ _ _ _ _ hr (by omega) (by omega) (by omega)).mono ?_; rintro e w4 ⟨t, rfl, _, hr4, hT4⟩
      have hG4 := hG.pastT hT4 (fun k e => by omega)
      have hA4 := hA.only hf' hT4 (fun k e => by omega)
      have hE4 := ext_tch hE hT4 (fun k e => by subst e; omega)
      have hz4 := Nat.le_trans hz hT4.size
      clear hG hA hE hr hT4
      cases t
      · go_wp2
        go_ret2
        exact ⟨_, _, _, _, _, _, _, _, rfl, hA4, hG4.rd'.2, h1, h9, by omega, hE4⟩
      · go_wp2_with fail
        refine (l20Calls_any _ _ _ _ _ hr4 (by omega) (by omega) (by omega) (by omega)).mono ?_; rintro e w6 ⟨A6, n6, c6, zs, rfl, hF6, hn6, _, hT6⟩
        have hA6 := hA4.only hf' hT6 (fun k e => by omega)
        have hE6 := ext_tch hE4 hT6 (fun k e => by subst e; omega)
        go_wp2
        go_ret2
        exact ⟨_, _, _, _, _, _, _, _, rfl, hA6, hF6.rd'.2, h1, h9, hn6, hE6⟩
end Go.Proofs.Ytbpkclhpjelelaa
