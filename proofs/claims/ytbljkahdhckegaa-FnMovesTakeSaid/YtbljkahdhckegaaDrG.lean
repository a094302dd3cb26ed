/-
  The graph that the reference draws: rows in new memory, the reader a few steps on.
-/
import Derived.Test.YtbljkahdhckegaaDrw
import Derived.Deep.Cut
import Derived.Deep.RegionWith
namespace Go.Proofs.Ytbljkahdhckegaa
open Go.RowKit

set_option maxHeartbeats 4000000 in
theorem l20Graph_bd (B g p : Nat) (k : Int) (w : World) (h : Rdr w B g p) (hB : B ≤ w.heap.size) (hk : 0 ≤ k) (hk' : k ≤ 1000) (hp : p ≤ 10000) :
    Calls Try.prog 42 #[.pointer (some ⟨g, 0, none⟩), .int .i64 k] w fun e w' => ∃ A n c xss, e = .returned (.slice A n c) ∧ RdA w' w.heap.size A n c xss ∧ Rdr w' B g (p + 100) ∧ Tch w w' (· = g) ∧ 1 ≤ n ∧ n ≤ 8 ∧ ∀ r ∈ xss, r.length ≤ 8 := by
  obtain ⟨i0, hi, hz0, hz1, hz2⟩ := info_parts Try.infoInt
  obtain ⟨i1, ki, kz0, kz1, kz2⟩ := info_parts Try.infoRow
  have hgB := h.low
  have hgw : g < w.heap.size := Nat.lt_of_lt_of_le hgB hB
  go_enter Try.func42, Try.ntmps42
  go_wp2_with fail
  refine (pickT _ _ _ _ _ h (by omega) (by omega) (by omega)).mono ?_; rintro e w1 ⟨a, ha, rfl, hr1, ht1⟩
  obtain ⟨n, hn⟩ : ∃ n : Nat, 1 + (a : Int) = n := ⟨1 + a, by omega⟩
  have hn4 : n ≤ 4 := by omega
  have hn1 : 1 ≤ n := by omega
  clear h
  go_wp2_with fail
  refine (pickT _ _ _ _ _ hr1 (by omega) (by omega) (by omega)).mono ?_; rintro e w2 ⟨b, hb, rfl, hr2, ht2⟩
  obtain ⟨m, hm⟩ : ∃ m : Nat, (n : Int) + (b : Int) = m := ⟨n + b, by omega⟩
  have hm6 : m ≤ 6 := by omega
  have hT2 := ht1.trans ht2
  have hal0 : Ext w2 (w2.alloc (.cells #[] 40)) := (Below.refl _ _).alloc (Nat.le_refl _) _
  have hr2' := hr2.keep hal0
  have hT2' := hT2.trans (Tch.ext (S := (· = g)) hal0)
  have hF0 : Row (w2.alloc (.cells #[] 40)) w.heap.size 40 1 (.slice (some ⟨w2.heap.size, 0, none⟩) 0 0) 0 (([] : List Hd).map hv) := Row.lit (w := w2) (n := 0) #[] (by simp) (by unfold maxLen; omega) hT2.size
  clear hr1 ht1 hr2 ht2 hT2 hal0
  go_wp2_with fail
  refine (pickT _ _ _ _ _ hr2' (by omega) (by omega) (by omega)).mono ?_; rintro e w3 ⟨d0, hd, rfl, hr3, ht3⟩
  obtain ⟨d, hd'⟩ : ∃ d : Nat, 2 + (d0 : Int) = d := ⟨2 + d0, by omega⟩
  have hd6 : d ≤ 6 := by omega
  have hd2 : 2 ≤ d := by omega
  have hT3 := hT2'.trans ht3
  have hF3 := hF0.only ht3 (fun k e => by subst e; exact hgw)
  clear hr2' hT2' hF0 ht3 ha hb hd
  go_wp2
  go_loopw [7, 9] (fun out ii wr => ∃ (i : Nat) (Ao : Option Addr) (co : Nat) (hs : List Hd) (xss : List (List Int)), i ≤ n ∧ ii = .int .i64 i ∧ out = .slice Ao i co ∧ Hid (hs.length = i) ∧ Hid (∀ x ∈ xss, x.length = m) ∧ Row wr w.heap.size 40 1 (.slice Ao i co) i (hs.map hv) ∧ Rws wr w.heap.size hs xss ∧ Tch w wr (· = g) ∧ Rdr wr B g (p + 3 + 12 * i)) (fun _ ii _ => n - (intOf ii).toNat)
  case atStart => exact ⟨0, _, _, [], [], Nat.zero_le _, rfl, rfl, rfl, Lib.hid (by simp), hF3, Rws.nil, hT3, hr3⟩
  case round =>
    clear hF3 hT3 hr3
    obtain ⟨i, Ao, co, hs, xss, hi', rfl, rfl, HH, HM, hO, hR, hT, hr⟩ := hrel
    rename World => wo
    by_cases hlt : i < n
    · have hala : Ext wo (wo.alloc (.cells #[] 3)) := (Below.refl _ _).alloc (Nat.le_refl _) _
      have hGl : Row (wo.alloc (.cells #[] 3)) wo.heap.size 3 1 (.slice (some ⟨wo.heap.size, 0, none⟩) 0 0) 0 (cI []) := Row.lit (n := 0) #[] (by simp) (by unfold maxLen; omega) (Nat.le_refl _)
      have hra := hr.keep hala
      have hTa := Tch.ext (S := (· = g)) hala
      have hgo : g < wo.heap.size := hr.lt
      have hBo : B ≤ wo.heap.size := Nat.le_trans hB hT.size
      clear hala hr
      go_wp2
      go_loopw [10, 11] (fun row jj wr => ∃ (j : Nat) (Ar : Option Addr) (cr : Nat) (xs : List Int), j ≤ m ∧ jj = .int .i64 j ∧ row = .slice Ar j cr ∧ Hid (xs.length = j) ∧ Row wr wo.heap.size 3 1 (.slice Ar j cr) j (cI xs) ∧ Tch wo wr (· = g) ∧ Rdr wr B g (p + 3 + 12 * i + 2 * j)) (fun _ jj _ => m - (intOf jj).toNat)
      case atStart => exact ⟨0, _, _, [], Nat.zero_le _, rfl, rfl, rfl, hGl, hTa, hra⟩
      case round =>
        clear hGl hTa hra
        obtain ⟨j, Ar, cr, xs, hj, rfl, rfl, HX, hG, hTj, hrj⟩ := hrel
        by_cases hjt : j < m
        · go_wp2_with fail
          refine (pickT _ _ _ _ _ hrj (by omega) (by omega) (by omega)).mono ?_; rintro e w5 ⟨z0, hz0', rfl, hR5, hT5⟩
          have hG5 := hG.only hT5 (fun k e => by subst e; exact hgo)
          have hT5' := hTj.trans hT5
          clear hG hTj hrj hT5
          by_cases hz : (z0 : Int) = 0
          · go_wp2_with fail
            refine (pickT _ _ _ _ _ hR5 (by omega) (by omega) (by omega)).mono ?_; rintro e w6 ⟨z1, hz1', rfl, hR6, hT6⟩
            have hG6 := hG5.only hT6 (fun k e => by subst e; exact hgo)
            have hT6' := hT5'.trans hT6
            clear hG5 hT5' hR5 hT6
            have hal : Ext w6 (w6.alloc (.cells #[.int .i64 (z1 : Int)] 3)) := (Below.refl _ _).alloc (Nat.le_refl _) _
            have hRl : Rd (w6.alloc (.cells #[.int .i64 (z1 : Int)] 3)) 1 (some ⟨w6.heap.size, 0, none⟩) 1 1 (cI [((z1 : Int) : Int)]) := Rd.lit (sz := 1) (n := 1) #[.int .i64 (z1 : Int)] rfl (by omega)
            have hG2 := (hG6).below hal
            have hR2 := (hR6).keep hal
            have hT2 := (hT6').trans (Tch.ext (S := (· = g)) hal)
            have hle2 := hT2.size
            clear hG6 hal hR6 hT6'
            go_wp2_with (at_builtin; refine wpList_append_fr _ rfl _ _ 40 rfl wo.heap.size 3 i0 _ 1 8 Try.underlying40 hi hz0 hz1 hz2 rfl (by omega) _ j _ rfl (.inr hG2) _ 1 1 _ rfl hRl (one_cI _) (by unfold maxLen; omega) (by omega) hle2 ?_; intro Ab cb wb rowb hFb hgb hrowb)
            rw [show cI xs ++ cI [((z1 : Int) : Int)] = cI (xs ++ [((z1 : Int) : Int)]) from (List.map_append ..).symm] at hFb
            have hGb := hFb.row (by omega)
            have hTb := hT2.new hgb (fun k hk => (hrowb k hk).1)
            have hRb := hR2.past hgb (fun k hk => Nat.le_trans hBo (hrowb k hk).1)
            clear hFb hgb hrowb hG2 hR2 hT2
            go_roundw
            case rel => exact ⟨j + 1, Ab, cb, xs ++ [((z1 : Int) : Int)], by omega, by go_num, rfl, by show (xs ++ [_]).length = j + 1; rw [List.length_append, HX.out]; rfl, hGb, hTb, hRb.more (by omega)⟩
            case measure => simp [intOf]; omega
          · have hzb : ((z0 : Int) == 0) = false := by rw [beq_eq_false_iff_ne]; exact hz
            have hal : Ext w5 (w5.alloc (.cells #[.int .i64 0] 3)) := (Below.refl _ _).alloc (Nat.le_refl _) _
            have hRl : Rd (w5.alloc (.cells #[.int .i64 0] 3)) 1 (some ⟨w5.heap.size, 0, none⟩) 1 1 (cI [(0 : Int)]) := Rd.lit (sz := 1) (n := 1) #[.int .i64 0] rfl (by omega)
            have hG2 := (hG5).below hal
            have hR2 := (hR5).keep hal
            have hT2 := (hT5').trans (Tch.ext (S := (· = g)) hal)
            have hle2 := hT2.size
            clear hG5 hal hR5 hT5'
            go_wp2_with (at_builtin; refine wpList_append_fr _ rfl _ _ 40 rfl wo.heap.size 3 i0 _ 1 8 Try.underlying40 hi hz0 hz1 hz2 rfl (by omega) _ j _ rfl (.inr hG2) _ 1 1 _ rfl hRl (one_cI _) (by unfold maxLen; omega) (by omega) hle2 ?_; intro Ab cb wb rowb hFb hgb hrowb)
            rw [show cI xs ++ cI [(0 : Int)] = cI (xs ++ [(0 : Int)]) from (List.map_append ..).symm] at hFb
            have hGb := hFb.row (by omega)
            have hTb := hT2.new hgb (fun k hk => (hrowb k hk).1)
            have hRb := hR2.past hgb (fun k hk => Nat.le_trans hBo (hrowb k hk).1)
            clear hFb hgb hrowb hG2 hR2 hT2
            go_roundw
            case rel => exact ⟨j + 1, Ab, cb, xs ++ [(0 : Int)], by omega, by go_num, rfl, by show (xs ++ [_]).length = j + 1; rw [List.length_append, HX.out]; rfl, hGb, hTb, hRb.more (by omega)⟩
            case measure => simp [intOf]; omega
        · have e : j = m := by omega
          subst e
          have hal : Ext wr (wr.alloc (.cells #[.slice Ar j cr] 40)) := (Below.refl _ _).alloc (Nat.le_refl _) _
          have hR2 := hR.snocT hTj (fun k e => by subst e; exact hgw) hT.size (.inr hG)
          have hO3 := (hO.only hTj (fun k e => by subst e; exact hgw)).below hal
          have hR3 := hR2.below hal
          have hr3 := hrj.keep hal
          have hT3 := (hT.trans hTj).trans (Tch.ext (S := (· = g)) hal)
          have hRl : Rd (wr.alloc (.cells #[.slice Ar j cr] 40)) 1 (some ⟨wr.heap.size, 0, none⟩) 1 1 (([(Ar, j, cr)] : List Hd).map hv) := Rd.lit (sz := 1) (n := 1) #[.slice Ar j cr] rfl (by omega)
          have hbs := hT3.size
          clear hR2 hO hR hG hTj hrj hT hal
          go_wp2_with (at_builtin; refine wpList_append_fr _ rfl _ _ 22 rfl w.heap.size 40 i1 _ 1 24 Try.underlying22 ki kz0 kz1 kz2 rfl (by omega) _ i _ rfl (.inr hO3) _ 1 1 _ rfl hRl (one_hv _) (by unfold maxLen; omega) (by omega) hbs ?_; intro A3 c3 w3 row3 hF4 hg3 hrow3)
          rw [← List.map_append] at hF4
          have hO4 := hF4.row (by omega)
          have hR4 := hR3.asideRow hO3 hg3 (fun k hk => (hrow3 k hk).2.2)
          have hT4 := hT3.new hg3 (fun k hk => (hrow3 k hk).1)
          have hr4 := hr3.past hg3 (fun k hk => Nat.le_trans hB (hrow3 k hk).1)
          clear hF4 hR3 hO3 hT3 hr3
          go_roundw
          case rel => exact ⟨i + 1, A3, c3, _, _, by omega, by go_num, rfl, (by show (hs ++ [_]).length = i + 1; rw [List.length_append, HH.out]; rfl), Lib.hid (by intro x hx; rcases List.mem_append.1 hx with h | h; exact HM.out x h; rw [List.mem_singleton.1 h, HX.out]), hO4, hR4, hT4, hr4.more (by omega)⟩
          case measure => simp [intOf]; omega
    · have e : i = n := by omega
      subst e
      go_wp2_with fail
      refine (oddT _ _ _ _ _ hr hk (by omega) (by omega)).mono ?_; rintro e w4 ⟨t, rfl, _, hr4, ht4⟩
      have hO4 := hO.only ht4 (fun k e => by subst e; exact hgw)
      have hR4 := hR.only ht4 (fun k e => by subst e; exact hgw)
      have hT4 := hT.trans ht4
      clear hO hR hT hr ht4
      cases t
      · go_wp2
        go_ret
        exact ⟨_, _, _, _, rfl, RdA.of hs (.inr hO4) hR4, hr4.more (by omega), hT4, hn1, by omega, fun r hr => by rw [HM.out r hr]; omega⟩
      · go_wp2_with fail
        refine (pickT _ _ _ _ _ hr4 (by omega) (by omega) (by omega)).mono ?_; rintro e w5 ⟨z, hz, rfl, hr5, ht5⟩
        have hO5 := hO4.only ht5 (fun k e => by subst e; exact hgw)
        have hR5 := hR4.only ht5 (fun k e => by subst e; exact hgw)
        have hT5 := hT4.trans ht5
        clear hO4 hR4 hT4 hr4 ht5
        have hm1 : 1 ≤ m := by omega
        obtain ⟨⟨A0, m0, c0⟩, hx0⟩ := get_of_lt HH.out (show 0 < i by omega)
        obtain ⟨xs0, hxs0, F0⟩ := hR5.get hx0
        have R0 : Rd w5 1 A0 m0 c0 (cI xs0) := (Fr.rd' (A := A0) (m := m0) (c := c0) F0).2
        have hm0 : m0 = m := by rw [← R0.lenI]; exact HM.out _ (List.mem_of_getElem? hxs0)
        subst hm0
        have hc0 := R0.le
        have hct0 := R0.top
        obtain ⟨bo, co', hsh⟩ := hO5.shape
        simp only [Value.slice.injEq, true_and] at hsh
        obtain ⟨rfl, rfl⟩ := hsh
        have g0 : w5.cell? ⟨bo, 0, none⟩ = some (.slice A0 m0 c0) := by rw [hO5.cellAt 0 (by omega), List.getElem?_map, hx0]; rfl
        have f0 := hO5.frozenAt 0
        have hco := (Rd.of_row hO5).le
        have hcot := (Rd.of_row hO5).top
        have hxl : xs0.length = m0 := R0.lenI
        have HB0 : Hid (∀ z : Int, ∀ r ∈ xss.set 0 (xs0.set 0 z), r.length ≤ 8) := Lib.hid (fun z r hr => by
          rcases List.mem_or_eq_of_mem_set hr with h | h
          · rw [HM.out r h]; omega
          · rw [h, List.length_set, hxl]; omega)
        have HB1 : Hid (∀ r ∈ xss.set 0 (xs0 ++ [(1 : Int)]) ++ [[(1 : Int)]], r.length ≤ 8) := Lib.hid (fun r hr => by
          rcases List.mem_append.1 hr with h | h
          · rcases List.mem_or_eq_of_mem_set h with h | h
            · rw [HM.out r h]; omega
            · rw [h, List.length_append, hxl]; show m0 + 1 ≤ 8; omega
          · rw [List.mem_singleton.1 h]; show 1 ≤ 8; omega)
        clear hxl
        obtain rfl | rfl | rfl : z = 0 ∨ z = 1 ∨ z = 2 := by omega
        -- CASE0
        · have hm0l : 0 < xs0.length := by rw [R0.lenI]; omega
          obtain ⟨b1, o1, b0, m1, c1, y, hA1, gh1, hm1', hmc1, hct1, hhd1, _, qy, fy, hB0, hW⟩ := rws_at (.inr hO5) HH.out hR5 (show 0 < i by omega) hxs0 hm0l
          rw [hx0] at hhd1
          simp only [Option.some.injEq, Prod.mk.injEq] at hhd1
          obtain ⟨rfl, rfl, rfl⟩ := hhd1
          have hgb0 : b0 ≠ g := by omega
          have hgbo : bo ≠ g := by have := hO5.inv.1; omega
          have hS : ∀ w', Tch w5 w' (· = g) → w'.cell? ⟨bo, 0, none⟩ = some (.slice (some ⟨b0, 0, none⟩) m0 c0) := fun w' ht => ht.cell g0 hgbo
          have hQ : ∀ w', Tch w5 w' (· = g) → w'.cell? ⟨b0, 0, none⟩ = some (.int .i64 y) ∧ w'.frozen? ⟨b0, 0, none⟩ = false := fun w' ht => by
            have hc := ht.cell qy hgb0
            have hl := World.block_lt_of_cell? w5 _ qy
            exact ⟨hc, by have := fy; unfold World.frozen? at this ⊢; rw [ht.block b0 hl hgb0]; exact this⟩
          have hfin : ∀ w7 q (z : Int), Tch w5 w7 (· = g) → Rdr w7 B g q → q ≤ p + 100 → RdA (w7.setCell ⟨b0, 0, none⟩ (.int .i64 z)) w.heap.size (some ⟨bo, 0, none⟩) i co (xss.set 0 (xs0.set 0 z)) ∧ Rdr (w7.setCell ⟨b0, 0, none⟩ (.int .i64 z)) B g (p + 100) ∧ Tch w (w7.setCell ⟨b0, 0, none⟩ (.int .i64 z)) (· = g) := fun w7 q z ht hr hq => by
            have hO7 := hO5.only ht (fun k e => by subst e; exact hgw)
            have hR7 := hR5.only ht (fun k e => by subst e; exact hgw)
            obtain ⟨b1', o1', b0', m1', c1', y', hA1', gh1', hm1'', _, _, hhd1', _, _, _, _, hW'⟩ := rws_at (.inr hO7) HH.out hR7 (show 0 < i by omega) hxs0 hm0l
            rw [hx0] at hhd1'
            simp only [Option.some.injEq, Prod.mk.injEq, Addr.mk.injEq, and_true] at hhd1'
            obtain ⟨rfl, rfl, rfl⟩ := hhd1'
            obtain ⟨hW1, hW2, hW3⟩ := hW' z
            exact ⟨RdA.of hs hW2 hW1, (hr.past hW3 (fun k e => by cases e; omega)).more hq, (hT5.trans ht).new hW3 (fun k e => by cases e; exact hB0)⟩
          have hi0 : 0 < i := by omega
          have hbb : bo ≠ b0 := fun e => by rw [e, qy] at g0; cases g0
          have hS2 : ∀ w' (z : Value), Tch w5 w' (· = g) → (w'.setCell ⟨b0, 0, none⟩ z).cell? ⟨bo, 0, none⟩ = some (.slice (some ⟨b0, 0, none⟩) m0 c0) := fun w' z ht => by
            have h1 := hS w' ht
            rw [← h1]; unfold World.cell?; rw [Below.heap_setCell w' ⟨b0, 0, none⟩ z bo hbb]
          have hg5 : w5.heap.size ≠ g := by have := hr5.lt; omega
          have hdr : Tch w5 w5.drew (· = g) := (Tch.refl _ _).drew
          have hrd : Rdr w5.drew B g (p + 3 + 12 * i + 1 + 1) := hr5.keep ((Below.refl _ _).drew)
          have hral : Rdr (w5.drew.alloc (.cells #[.int .i64 (-1), .int .i64 16] 3)) B g (p + 3 + 12 * i + 1 + 1) := hrd.keep ((Below.refl _ _).alloc (Nat.le_refl _) _)
          clear hW hR5 hO5 gh1 qy fy F0 hA1 hr5 g0
          go_upto_region 21 with (fail)
          have G1 := hS _ (Tch.refl _ _)
          have G2 := hS _ ((Tch.refl w5 _).alloc (.cells #[.int .i64 (-1), .int .i64 16] 3))
          have N1 : bo ≠ w5.heap.size := Nat.ne_of_lt (World.block_lt_of_cell? w5 _ (hS _ (Tch.refl _ _)))
          have B1 : (0 : Int) < (i : Int) := by omega
          have B2 : (0 : Int) < (m0 : Int) := by omega
          go_region_with (first | (go_at_call 56; refine (pickS _ _ _ _ w5 _ (hdr.alloc _) hral (by omega) (by omega) (by omega)).mono ?_; rintro e w6 ⟨z6, hz6, rfl, hR6, hT6, hc6⟩; have q6 : w6.cell? ⟨w5.heap.size, z6, none⟩ = some (.int .i64 (lit2 (-1) 16 z6)) := hc6 _ _ _ (lit2_cell _ _ _ _ (show z6 < 2 by omega)) hg5; have q7 := (hQ _ hT6).1; have q8 := (hQ _ hT6).2; have q9 := hS _ hT6) | (go_at_call 56; refine (pickS _ _ _ _ w5 _ hdr hrd (by omega) (by omega) (by omega)).mono ?_; rintro e w6 ⟨z6, hz6, rfl, hR6, hT6, hc6⟩; have q6 := lit2_cell w6 3 (-1) 16 (show z6 < 2 by omega); have q7 := (hQ _ (hT6.alloc (.cells #[.int .i64 (-1), .int .i64 16] 3))).1; have q8 := (hQ _ (hT6.alloc (.cells #[.int .i64 (-1), .int .i64 16] 3))).2; have q9 := hS _ hT6; have N2 : bo ≠ w6.heap.size := Nat.ne_of_lt (World.block_lt_of_cell? w6 _ q9); have N3 : b0 ≠ w6.heap.size := Nat.ne_of_lt (World.block_lt_of_cell? w6 _ (hQ _ hT6).1); have q11 := (hQ _ hT6).1; have q12 := (hQ _ hT6).2; have q10 := hS _ (hT6.alloc (.cells #[.int .i64 (-1), .int .i64 16] 3))))
          all_goals (go_wp2; go_ret; first | exact ⟨_, _, _, _, rfl, (hfin _ _ _ hT6 hR6 (by omega)).1, (hfin _ _ _ hT6 hR6 (by omega)).2.1, (hfin _ _ _ hT6 hR6 (by omega)).2.2, hn1, by omega, HB0.out _⟩ | exact ⟨_, _, _, _, rfl, (hfin _ _ _ (hT6.alloc _) (hR6.keep ((Below.refl _ _).alloc (Nat.le_refl _) _)) (by omega)).1, (hfin _ _ _ (hT6.alloc _) (hR6.keep ((Below.refl _ _).alloc (Nat.le_refl _) _)) (by omega)).2.1, (hfin _ _ _ (hT6.alloc _) (hR6.keep ((Below.refl _ _).alloc (Nat.le_refl _) _)) (by omega)).2.2, hn1, by omega, HB0.out _⟩)
        -- CASE1
        · have hal : Ext w5 (w5.alloc (.cells #[.int .i64 1] 3)) := (Below.refl _ _).alloc (Nat.le_refl _) _
          have hRl : Rd (w5.alloc (.cells #[.int .i64 1] 3)) 1 (some ⟨w5.heap.size, 0, none⟩) 1 1 (cI [(1 : Int)]) := Rd.lit (sz := 1) (n := 1) #[.int .i64 1] rfl (by omega)
          have F1 : Fr (w5.alloc (.cells #[.int .i64 1] 3)) w.heap.size 3 1 (.slice A0 m0 c0) m0 (cI xs0) := Fr.below F0 hal
          have hR6 := hR5.below hal
          have hO6 := hO5.below hal
          have hr6 := hr5.keep hal
          have hT6 := hT5.trans (Tch.ext (S := (· = g)) hal)
          have hle6 := hT6.size
          have g6 := kept_of_below hal _ _ g0
          clear hR5 hO5 hr5 hT5 hal F0 R0
          go_upto_region 24 with (at_builtin; refine wpList_append_fr _ rfl _ _ 40 rfl w.heap.size 3 i0 _ 1 8 Try.underlying40 hi hz0 hz1 hz2 rfl (by omega) _ m0 _ rfl F1 _ 1 1 _ rfl hRl (one_cI _) (by unfold maxLen; omega) (by omega) hle6 ?_; intro Aa ca wa rowa hFa hga hrowa; have hOa := hO6.aside (Fr.row F1 hm1) (by decide) hga (fun k e => (hrowa k e).2.2); have ga : wa.cell? ⟨bo, 0, none⟩ = some (.slice A0 m0 c0) := (by rw [hOa.cellAt 0 (by omega), List.getElem?_map, hx0]; rfl); have fa := hOa.frozenAt 0)
          rw [show cI xs0 ++ cI [(1 : Int)] = cI (xs0 ++ [1]) from (List.map_append ..).symm] at hFa
          have hRa : RwF wa w.heap.size (hs.set 0 (Aa, m0 + 1, ca)) (xss.set 0 (xs0 ++ [1])) := hR6.swap hx0 hga (fun k e => by unfold blkC; rw [if_neg (by show ¬ c0 = 0; omega)]; exact (hrowa k e).2.2) hFa
          have hra := hr6.past hga (fun k hk => Nat.le_trans hB (hrowa k hk).1)
          have hTa := hT6.new hga (fun k hk => (hrowa k hk).1)
          have hOb := hOa.stored 0 (.slice Aa (m0 + 1) ca)
          rw [show (hs.map hv).set 0 (.slice Aa (m0 + 1) ca) = (hs.set 0 (Aa, m0 + 1, ca)).map hv from by rw [List.map_set]; rfl] at hOb
          have hRb := hRa.aside hOa (grown_set (p := ⟨bo, 0, none⟩) (g := bo) (World.grownBy.refl wa _) rfl (.slice Aa (m0 + 1) ca)) (fun k e => by cases e; rfl)
          have hrb := hra.past (grown_set (p := ⟨bo, 0, none⟩) (g := bo) (World.grownBy.refl wa _) rfl (.slice Aa (m0 + 1) ca)) (fun k e => by cases e; exact Nat.le_trans hB hOa.inv.1)
          have hTb := hTa.set (p := ⟨bo, 0, none⟩) hOa.inv.1 (.slice Aa (m0 + 1) ca)
          clear hRa hra hTa hOa ga fa hR6 hO6 hr6 hT6 hFa hga hrowa g6 F1 hRl
          obtain ⟨wb, hwb⟩ : ∃ wb, wa.setCell ⟨bo, 0, none⟩ (.slice Aa (m0 + 1) ca) = wb := ⟨_, rfl⟩
          rw [hwb] at hOb hRb hrb hTb ⊢
          clear hwb
          have hal1 : Ext wb (wb.alloc (.cells #[.int .i64 1] 3)) := (Below.refl _ _).alloc (Nat.le_refl _) _
          obtain ⟨wc, hwc⟩ : ∃ wc, wb.alloc (.cells #[.int .i64 1] 3) = wc := ⟨_, rfl⟩
          have hwcs : wc.heap.size = wb.heap.size + 1 := by rw [← hwc]; simp
          have hFn : Fr wc w.heap.size 3 1 (.slice (some ⟨wb.heap.size, 0, none⟩) 1 1) 1 (cI [(1 : Int)]) := by rw [← hwc]; exact (.inr (Row.lit (n := 1) #[.int .i64 1] rfl (by unfold maxLen; omega) hTb.size))
          rw [hwc] at hal1
          have hR7 := (hRb.below hal1).snoc (x := (some ⟨wb.heap.size, 0, none⟩, 1, 1)) hFn
          have hO7 := hOb.below hal1
          have hr7 := hrb.keep hal1
          have hT7 := hTb.trans (Tch.ext (S := (· = g)) hal1)
          have hal2 : Ext wc (wc.alloc (.cells #[.slice (some ⟨wb.heap.size, 0, none⟩) 1 1] 40)) := (Below.refl _ _).alloc (Nat.le_refl _) _
          have hR8 := hR7.below hal2
          have hO8 := hO7.below hal2
          have hr8 := hr7.keep hal2
          have hT8 := hT7.trans (Tch.ext (S := (· = g)) hal2)
          have hRl : Rd (wc.alloc (.cells #[.slice (some ⟨wb.heap.size, 0, none⟩) 1 1] 40)) 1 (some ⟨wc.heap.size, 0, none⟩) 1 1 (([(some ⟨wb.heap.size, 0, none⟩, 1, 1)] : List Hd).map hv) := Rd.lit (sz := 1) (n := 1) #[.slice (some ⟨wb.heap.size, 0, none⟩) 1 1] rfl (by omega)
          have hbs := hT8.size
          rw [hwcs] at hRl
          rw [← hwc] at hRl hR8 hO8 hr8 hT8 hbs
          clear hal1 hwcs hFn hR7 hO7 hr7 hT7 hal2 hRb hOb hrb hTb hwc
          go_wp2_with (at_builtin; refine wpList_append_fr _ rfl _ _ 22 rfl w.heap.size 40 i1 _ 1 24 Try.underlying22 ki kz0 kz1 kz2 rfl (by omega) _ i _ rfl (.inr hO8) _ 1 1 _ rfl hRl (one_hv _) (by unfold maxLen; omega) (by omega) hbs ?_; intro A3 c3 w3 row3 hF4 hg3 hrow3)
          go_ret
          rw [← List.map_append] at hF4
          exact ⟨_, _, _, _, rfl, RdA.ofF _ hF4 (hR8.aside hO8 hg3 (fun k hk => (hrow3 k hk).2.2)), (hr8.past hg3 (fun k hk => Nat.le_trans hB (hrow3 k hk).1)).more (by omega), hT8.new hg3 (fun k hk => (hrow3 k hk).1), by omega, by omega, HB1.out⟩
        -- CASE2
        · have hsz5 := hT5.size
          have e0 : (madeCells (Value.slice none 0 0).cells (7 * 1)).toList = (List.replicate 7 ((none, 0, 0) : Hd)).map hv := by rw [made_nil, List.map_replicate]; rfl
          have hRw : ∀ w' : World, RwF w' w.heap.size (List.replicate 7 ((none, 0, 0) : Hd)) (List.replicate 7 []) := fun w' => by
            refine ⟨rfl, fun i x xs hx hxs => ?_⟩
            rw [List.getElem?_replicate] at hx hxs
            split at hx
            · cases hx
              rename_i h7
              rw [if_pos h7] at hxs
              cases hxs
              exact .inl ⟨none, rfl, rfl, rfl⟩
            · cases hx
          clear F0 R0 hR5 hO5 g0 f0 hxs0 hx0
          go_wp2_with (at_make; refine wpList_make_full _ rfl _ _ 22 rfl w.heap.size 40 i1 _ 1 Try.underlying22 ki kz0 kz1 .i64 .i64 _ _ 7 rfl rfl rfl rfl (by rw [kz2]; omega) (by unfold maxLen; omega) hsz5 ?_; intro w6 hown hg)
          go_ret
          rw [e0] at hown
          exact ⟨_, _, _, _, rfl, RdA.ofF _ (.inr (Row.of_own hown)) (hRw _), (hr5.past hg (fun k e => (by simp at e))).more (by omega), hT5.new hg (fun k e => (by simp at e)), by omega, by omega, fun r hr => by rw [(List.mem_replicate.1 hr).2]; show 0 ≤ 8; omega⟩
theorem l20Graph_any (B g p : Nat) (k : Int) (w : World) (h : Rdr w B g p) (hB : B ≤ w.heap.size) (hk : 0 ≤ k) (hk' : k ≤ 1000) (hp : p ≤ 10000) :
    Calls Try.prog 42 #[.pointer (some ⟨g, 0, none⟩), .int .i64 k] w fun e w' => ∃ A n c xss, e = .returned (.slice A n c) ∧ RdA w' w.heap.size A n c xss ∧ Rdr w' B g (p + 100) ∧ Tch w w' (· = g) :=
  (l20Graph_bd B g p k w h hB hk hk' hp).mono fun _ _ ⟨A, n, c, xss, he, h1, h2, h3, _⟩ => ⟨A, n, c, xss, he, h1, h2, h3⟩
end Go.Proofs.Ytbljkahdhckegaa
