/-
  The amounts of time that the reference draws.
-/
import Derived.Test.YtbpkclhpjelelaaDrv
import Derived.Test.YtbpkclhpjelelaaInts
import Derived.Deep.Cut
namespace Go.Proofs.Ytbpkclhpjelelaa
open Go.RowKit

theorem lit6_cell (w : World) (e : Nat) {k : Nat} (hk : k < 6) : ∃ v : Nat, v ≤ 2 ∧ (w.alloc (.cells #[.int .i64 0, .int .i64 0, .int .i64 0, .int .i64 0, .int .i64 1, .int .i64 2] e)).cell? ⟨w.heap.size, k, none⟩ = some (.int .i64 v) := by
  rw [cell_of_row _ _ k _ _ _ (heap_alloc_new w _)]
  obtain rfl | rfl | rfl | rfl | rfl | rfl : k = 0 ∨ k = 1 ∨ k = 2 ∨ k = 3 ∨ k = 4 ∨ k = 5 := by omega
  · exact ⟨0, by omega, rfl⟩
  · exact ⟨0, by omega, rfl⟩
  · exact ⟨0, by omega, rfl⟩
  · exact ⟨0, by omega, rfl⟩
  · exact ⟨1, by omega, rfl⟩
  · exact ⟨2, by omega, rfl⟩
theorem lit3_cell (w : World) (e : Nat) (a b c : Int) {k : Nat} (hk : k ≤ 2) : ∃ x : Int, (x = a ∨ x = b ∨ x = c) ∧ (w.alloc (.cells #[.int .i64 a, .int .i64 b, .int .i64 c] e)).cell? ⟨w.heap.size, k, none⟩ = some (.int .i64 x) := by
  rw [cell_of_row _ _ k _ _ _ (heap_alloc_new w _)]
  obtain rfl | rfl | rfl : k = 0 ∨ k = 1 ∨ k = 2 := by omega
  · exact ⟨a, .inl rfl, rfl⟩
  · exact ⟨b, .inr (.inl rfl), rfl⟩
  · exact ⟨c, .inr (.inr rfl), rfl⟩

set_option maxHeartbeats 2000000 in
theorem l20Times_any (B g p : Nat) (k : Int) (w : World) (h : Rdr w B g p) (hB : B ≤ w.heap.size) (hk : 0 ≤ k) (hk' : k ≤ 1000) (hp : p ≤ 10000) :
    Calls Try.prog 28 #[.pointer (some ⟨g, 0, none⟩), .int .i64 k] w fun e w' => ∃ A n c xs, e = .returned (.slice A n c) ∧ Rd w' 1 A n c (cI xs) ∧ From w.heap.size A n ∧ 1 ≤ n ∧ n ≤ 9 ∧ Rdr w' B g (p + 100) ∧ Tch w w' (· = g) := by
  obtain ⟨i0, hi, hz0, hz1, hz2⟩ := info_parts Try.infoInt
  have hgB := h.low
  have hgw : g < w.heap.size := Nat.lt_of_lt_of_le hgB hB
  have hal0 : Ext w (w.alloc (.cells #[] 3)) := (Below.refl _ _).alloc (Nat.le_refl _) _
  have h1 := h.keep hal0
  have hF0 : Row (w.alloc (.cells #[] 3)) w.heap.size 3 1 (.slice (some ⟨w.heap.size, 0, none⟩) 0 0) 0 (cI []) := Row.lit (w := w) (n := 0) #[] (by simp) (by unfold maxLen; omega) (Nat.le_refl _)
  have hT0 : Tch w (w.alloc (.cells #[] 3)) (· = g) := Tch.ext hal0
  clear h hal0
  go_enter Try.func28, Try.ntmps28
  go_wp2_with fail
  refine (pickT _ _ _ _ _ h1 (by omega) (by omega) (by omega)).mono ?_; rintro e w1 ⟨a, ha, rfl, hr1, ht1⟩
  obtain ⟨n, hn⟩ : ∃ n : Nat, 1 + (a : Int) = n := ⟨1 + a, by omega⟩
  have hn1 : 1 ≤ n := by omega
  have hn9 : n ≤ 9 := by omega
  have hF1 := hF0.only ht1 (fun k e => by subst e; exact hgw)
  have hT1 := hT0.trans ht1
  clear h1 hF0 hT0 ht1 ha
  go_wp2
  go_loopw [5, 6] (fun out ii wr => ∃ (i j : Nat) (Ao : Option Addr) (co : Nat) (xs : List Int), i + j = n ∧ ii = .int .i64 i ∧ out = .slice Ao j co ∧ Hid (xs.length = j) ∧ Row wr w.heap.size 3 1 (.slice Ao j co) j (cI xs) ∧ Tch w wr (· = g) ∧ Rdr wr B g (p + 1 + 2 * j)) (fun _ ii _ => (intOf ii).toNat)
  case atStart => exact ⟨n, 0, _, _, [], by omega, rfl, rfl, rfl, hF1, hT1, hr1⟩
  case round =>
    clear hF1 hT1 hr1
    obtain ⟨i, j, Ao, co, xs, hij, rfl, rfl, HX, hG, hT, hr⟩ := hrel
    by_cases hlt : 0 < i
    · go_wp2_with fail
      refine (pickT _ _ _ _ _ hr (by omega) (by omega) (by omega)).mono ?_; rintro e w5 ⟨z0, hz0', rfl, hR5, hT5⟩
      have hG5 := hG.only hT5 (fun k e => by subst e; exact hgw)
      have hT5' := hT.trans hT5
      have hg5 := hR5.lt
      clear hG hT hr hT5
      obtain ⟨wa, hwa⟩ : ∃ wa, w5.alloc (.cells #[.int .i64 z0, .int .i64 0, .int .i64 10000] 3) = wa := ⟨_, rfl⟩
      have ha5 : Ext w5 wa := hwa ▸ (Below.refl _ _).alloc (Nat.le_refl _) _
      have has : wa.heap.size = w5.heap.size + 1 := by rw [← hwa]; simp
      have hcel : ∀ v, v ≤ 2 → ∃ x : Int, (x = z0 ∨ x = 0 ∨ x = 10000) ∧ wa.cell? ⟨w5.heap.size, v, none⟩ = some (.int .i64 x) := fun v hv => hwa ▸ lit3_cell w5 _ _ _ _ hv
      obtain ⟨wb, hwb⟩ : ∃ wb, wa.alloc (.cells #[.int .i64 0, .int .i64 0, .int .i64 0, .int .i64 0, .int .i64 1, .int .i64 2] 3) = wb := ⟨_, rfl⟩
      have hb5 : Ext wa wb := hwb ▸ (Below.refl _ _).alloc (Nat.le_refl _) _
      have hcel6 : ∀ k, k < 6 → ∃ v : Nat, v ≤ 2 ∧ wb.cell? ⟨w5.heap.size + 1, k, none⟩ = some (.int .i64 v) := fun k hk => by
        have := lit6_cell wa 3 hk
        rw [hwb, has] at this
        exact this
      have hRb := (hR5.keep ha5).keep hb5
      have hGb := (hG5.below ha5).below hb5
      have hTb := (hT5'.trans (Tch.ext (S := (· = g)) ha5)).trans (Tch.ext (S := (· = g)) hb5)
      have hbs : w5.heap.size + 1 ≤ wb.heap.size := has ▸ hb5.size
      clear hR5 hG5 hT5' ha5
      go_wp2_with fail
      refine (pickT _ _ _ _ _ hRb (by omega) (by omega) (by omega)).mono ?_; rintro e w6 ⟨z1, hz1', rfl, hR6, hT6⟩
      obtain ⟨v, hv, q1⟩ := hcel6 z1 (by omega)
      obtain ⟨x, hx, q2⟩ := hcel v hv
      have Q1 := hT6.cell q1 (show ¬ _ = g by omega)
      have Q2 := hT6.cell (kept_of_below hb5 _ _ q2) (show ¬ _ = g by omega)
      have hG6 := hGb.only hT6 (fun k e => by subst e; exact hgw)
      have hT6' := hTb.trans hT6
      have hal : Ext w6 (w6.alloc (.cells #[.int .i64 x] 3)) := (Below.refl _ _).alloc (Nat.le_refl _) _
      have hRl : Rd (w6.alloc (.cells #[.int .i64 x] 3)) 1 (some ⟨w6.heap.size, 0, none⟩) 1 1 (cI [x]) := Rd.lit (sz := 1) (n := 1) #[.int .i64 x] rfl (by omega)
      have hG2 := hG6.below hal
      have hR2 := hR6.keep hal
      have hT2 := hT6'.trans (Tch.ext (S := (· = g)) hal)
      have hle2 := hT2.size
      clear hGb hTb hRb hT6 hR6 hG6 hT6' hal hcel hcel6 q1 q2 hb5 hwb hwa
      go_wp2_with (at_builtin; refine wpList_append_fr _ rfl _ _ 23 rfl w.heap.size 3 i0 _ 1 8 Try.underlying23 hi hz0 hz1 hz2 rfl (by omega) _ j _ rfl (.inr hG2) _ 1 1 _ rfl hRl (one_cI _) (by unfold maxLen; omega) (by omega) hle2 ?_; intro Ab cb wc rowb hFb hgb hrowb)
      rw [show cI xs ++ cI [x] = cI (xs ++ [x]) from (List.map_append ..).symm] at hFb
      have hGb := hFb.row (by omega)
      have hTb := hT2.new hgb (fun k hk => (hrowb k hk).1)
      have hRb := hR2.past hgb (fun k hk => Nat.le_trans hB (hrowb k hk).1)
      clear hFb hgb hrowb hG2 hR2 hT2
      go_roundw
      case rel => exact ⟨i - 1, j + 1, Ab, cb, xs ++ [x], by omega, by go_num, rfl, Lib.hid (by rw [List.length_append, HX.out]; rfl), hGb, hTb, hRb.more (by omega)⟩
      case measure => simp [intOf]; omega
    · obtain rfl : j = n := by omega
      go_wp2_with fail
      refine (oddT _ _ _ _ _ hr hk (by omega) (by omega)).mono ?_; rintro e w4 ⟨t, rfl, _, hr4, ht4⟩
      have hG4 := hG.only ht4 (fun k e => by subst e; exact hgw)
      have hT4 := hT.trans ht4
      clear hG hT hr ht4
      cases t
      · go_wp2
        go_ret
        exact ⟨_, _, _, _, rfl, Rd.of_row hG4, Fr.from (.inr hG4), hn1, hn9, hr4.more (by omega), hT4⟩
      · have hg4 := hr4.lt
        have ha5 : Ext w4 (w4.alloc (.cells #[.int .i64 (-1), .int .i64 10001] 3)) := (Below.refl _ _).alloc (Nat.le_refl _) _
        have hR5 := hr4.keep ha5
        have hG5 := hG4.below ha5
        have hT5 := hT4.trans (Tch.ext (S := (· = g)) ha5)
        clear hr4 hG4 hT4 ha5
        go_wp2_with fail
        refine (pickT _ _ _ _ _ hR5 (by omega) (by omega) (by omega)).mono ?_; rintro e w6 ⟨z1, hz1', rfl, hR6, hT6⟩
        have Q1 := hT6.cell (lit2_cell w4 3 (-1) 10001 (show z1 < 2 by omega)) (show ¬ _ = g by omega)
        have hG6 := hG5.only hT6 (fun k e => by subst e; exact hgw)
        have hT6' := hT5.trans hT6
        obtain ⟨bo, co', hsh⟩ := hG6.shape
        simp only [Value.slice.injEq, true_and] at hsh
        obtain ⟨rfl, rfl⟩ := hsh
        obtain ⟨y, _, qy⟩ := ownI_at hG6 (show 0 < j by omega)
        have fy := hG6.frozenAt 0
        have hB0 := hG6.inv.1
        clear hR5 hG5 hT5 hT6
        go_wp2
        go_ret
        exact ⟨_, _, _, _, rfl, Rd.of_row (ownI_set (k := 0) hG6 _), Fr.from (.inr (ownI_set (k := 0) hG6 (lit2 (-1) 10001 z1))), hn1, hn9, (hR6.past (grown_set (p := ⟨bo, 0, none⟩) (g := bo) (World.grownBy.refl w6 _) rfl _) (fun k e => by cases e; exact Nat.le_trans hB hB0)).more (by omega), hT6'.set (p := ⟨bo, 0, none⟩) hB0 _⟩
end Go.Proofs.Ytbpkclhpjelelaa
