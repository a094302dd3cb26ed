/-
  What the reference draws for moves: a graph and one move; a graph and several.
-/
import Derived.Test.YtbljkahdhckegaaDrM
import Derived.Test.YtbljkahdhckegaaAg5
namespace Go.Proofs.Ytbljkahdhckegaa
open Go.RowKit

set_option maxHeartbeats 1000000 in
theorem DrawMoveAllowed_any (A : Option Addr) (n c : Nat) (bs : List UInt8) (w : World) (h : Rd w 1 A n c (cU bs)) :
    Calls Try.prog 16 #[.slice A n c] w fun e w' => ∃ A' n' c' g, ∃ kd who oth thg rts : Int, e = .returned (.tuple #[.slice A' n' c', .agg #[.int .i64 kd, .int .i64 who, .int .i64 oth, .int .i64 thg, .int .i64 rts]]) ∧ RdA w' w.heap.size A' n' c' g ∧ 1 ≤ n' ∧ n' ≤ 8 ∧ Ext w w' := by
  have hx : Ext w (w.alloc (.cells #[.int .i64 0, .int .i64 0, .int .i64 0, .int .i64 0, .int .i64 0] 28)) := (Below.refl _ _).alloc (Nat.le_refl _) _
  have HZ0 : (w.alloc (.cells #[.int .i64 0, .int .i64 0, .int .i64 0, .int .i64 0, .int .i64 0] 28)).heap[w.heap.size]? = some (.cells #[.int .i64 0, .int .i64 0, .int .i64 0, .int .i64 0, .int .i64 0] 28 (0, 0)) := heap_alloc_new _ _
  have h1 := h.below hx
  have hsx : (w.alloc (.cells #[.int .i64 0, .int .i64 0, .int .i64 0, .int .i64 0, .int .i64 0] 28)).heap.size = w.heap.size + 1 := by simp
  go_enter Try.func16, Try.ntmps16
  go_wp2_with fail
  refine (l20Open_any _ _ _ _ _ h1).mono ?_; rintro e w1 ⟨rfl, hr, hb1⟩
  have hs := hr.lt
  rw [hsx] at hr hs ⊢
  obtain ⟨g, hg⟩ : ∃ g, w.heap.size + 1 = g := ⟨_, rfl⟩
  rw [hg] at hr hs ⊢
  go_wp2_with fail
  refine (l20Graph_bd (g + 1) g _ _ _ hr (by omega) (by omega) (by omega) (by omega)).mono ?_; rintro e w2 ⟨A', n', c', xss, rfl, hA, hr2, hT2, hn1, hn8, hr8⟩
  go_wp2_with fail
  refine (l20Move_any (g + 1) g _ _ _ _ _ _ _ hr2 (by have := hT2.size; omega) (hA.mono (by omega)) hn1 hn8 hr8 (by omega) (by omega) (by omega)).mono ?_; rintro e w3 ⟨kd, who, oth, thg, rts, rfl, hr3, hT3⟩
  have hT := hT2.trans hT3
  have hng : ¬ w.heap.size = g := by omega
  have HZ1 := (hb1.block w.heap.size (blt HZ0)).trans HZ0
  have HZ3 := (hT.block w.heap.size (blt HZ1) hng).trans HZ1
  obtain ⟨⟨z0_, z1_, z2_, z3_, z4_⟩, fz⟩ := mv_cells HZ3
  obtain ⟨⟨r0, r1, r2, r3, r4⟩, _⟩ := mv_cells (set5_same (kd := kd) (who := who) (oth := oth) (thg := thg) (rts := rts) HZ3)
  unfold Go.Proofs.Ytbljkahdhckegaa.set5 at r0 r1 r2 r3 r4
  have hbg : ∀ k, k = g → w.heap.size ≤ k := fun k e => by omega
  have hE3 := ext_tch (hx.trans hb1) hT hbg
  have hT5 : Tch w3 (Go.Proofs.Ytbljkahdhckegaa.set5 w3 w.heap.size kd who oth thg rts) (· = w.heap.size) := Tch.of_grown (grown_set5 _ _ _ _ _ _ _) (fun k e => by cases e; rfl)
  have hA3 := hA.only hT3 (fun k e => by omega)
  have hw3 : w.heap.size < w3.heap.size := by have := hT.size; omega
  clear HZ0 HZ1 HZ3 hx h1 hb1 hr hr2 hr3 hT2 hT3 hA h hT
  go_wp2
  refine bodyPost_ret (v := .tuple #[.slice A' n' c', .agg #[.int .i64 kd, .int .i64 who, .int .i64 oth, .int .i64 thg, .int .i64 rts]]) (by simp [results, Try.results16, go_sem, r0, r1, r2, r3, r4]) rfl ?_
  exact ⟨_, _, _, _, _, _, _, _, _, rfl, (hA3.only hT5 (fun k e => by omega)).mono (by omega), hn1, hn8, ext_tch hE3 hT5 (fun k e => by omega)⟩

set_option maxHeartbeats 1000000 in
theorem DrawDoMove_any (A : Option Addr) (n c : Nat) (bs : List UInt8) (w : World) (h : Rd w 1 A n c (cU bs)) :
    Calls Try.prog 22 #[.slice A n c] w fun e w' => ∃ A' n' c' g, ∃ kd who oth thg rts : Int, e = .returned (.tuple #[.slice A' n' c', .agg #[.int .i64 kd, .int .i64 who, .int .i64 oth, .int .i64 thg, .int .i64 rts]]) ∧ RdR w' A' n' c' g ∧ 1 ≤ n' ∧ n' ≤ 8 ∧ Ext w w' := by
  have hx : Ext w (w.alloc (.cells #[.int .i64 0, .int .i64 0, .int .i64 0, .int .i64 0, .int .i64 0] 28)) := (Below.refl _ _).alloc (Nat.le_refl _) _
  have HZ0 : (w.alloc (.cells #[.int .i64 0, .int .i64 0, .int .i64 0, .int .i64 0, .int .i64 0] 28)).heap[w.heap.size]? = some (.cells #[.int .i64 0, .int .i64 0, .int .i64 0, .int .i64 0, .int .i64 0] 28 (0, 0)) := heap_alloc_new _ _
  have h1 := h.below hx
  have hsx : (w.alloc (.cells #[.int .i64 0, .int .i64 0, .int .i64 0, .int .i64 0, .int .i64 0] 28)).heap.size = w.heap.size + 1 := by simp
  go_enter Try.func22, Try.ntmps22
  go_wp2_with fail
  refine (DrawMoveAllowed_any _ _ _ _ _ h1).mono ?_; rintro e w3 ⟨A', n', c', g, kd, who, oth, thg, rts, rfl, hA3, hn1, hn8, hb1⟩
  have HZ3 := (hb1.block w.heap.size (blt HZ0)).trans HZ0
  have hs3 := hb1.size
  rw [hsx] at hs3
  obtain ⟨⟨z0_, z1_, z2_, z3_, z4_⟩, fz⟩ := mv_cells HZ3
  obtain ⟨⟨r0, r1, r2, r3, r4⟩, _⟩ := mv_cells (set5_same (kd := kd) (who := who) (oth := oth) (thg := thg) (rts := rts) HZ3)
  unfold Go.Proofs.Ytbljkahdhckegaa.set5 at r0 r1 r2 r3 r4
  have hT5 : Tch w3 (Go.Proofs.Ytbljkahdhckegaa.set5 w3 w.heap.size kd who oth thg rts) (· = w.heap.size) := Tch.of_grown (grown_set5 _ _ _ _ _ _ _) (fun k e => by cases e; rfl)
  have hE3 := hx.trans hb1
  clear HZ0 HZ3 hx h1 hb1 h
  go_wp2
  refine bodyPost_ret (v := .tuple #[.slice A' n' c', .agg #[.int .i64 kd, .int .i64 who, .int .i64 oth, .int .i64 thg, .int .i64 rts]]) (by simp [results, Try.results22, go_sem, r0, r1, r2, r3, r4]) rfl ?_
  exact ⟨_, _, _, _, _, _, _, _, _, rfl, (hA3.only hT5 (fun k e => by omega)).rdR, hn1, hn8, ext_tch hE3 hT5 (fun k e => by omega)⟩

theorem Fr.nilc {w : World} {B e sz m c n : Nat} {A : Option Addr} {xs : List Value} (h : Fr w B e sz (.slice A m c) n xs) : A = none → c = 0 := by
  rintro rfl
  rcases h with ⟨A', h1, _⟩ | hr
  · simp only [Value.slice.injEq] at h1; omega
  · obtain ⟨g, c', hv⟩ := hr.shape
    simp at hv
set_option maxHeartbeats 2000000 in
theorem DrawRunMoves_any (A : Option Addr) (n c : Nat) (bs : List UInt8) (w : World) (h : Rd w 1 A n c (cU bs)) :
    Calls Try.prog 33 #[.slice A n c] w fun e w' => ∃ A' n' c' g A2 n2 c2 l, e = .returned (.tuple #[.slice A' n' c', .slice A2 n2 c2]) ∧ RdR w' A' n' c' g ∧ Rd w' 5 A2 n2 c2 (c5 l) ∧ (A2 = none → c2 = 0) ∧ 1 ≤ n' ∧ n' ≤ 8 ∧ Ext w w' := by
  obtain ⟨i1, ki, kz0, kz1, kz2⟩ := info_parts Try.infoMv
  go_enter Try.func33, Try.ntmps33
  go_wp2_with fail
  refine (l20Open_any _ _ _ _ _ h).mono ?_; rintro e w1 ⟨rfl, hr, hb1⟩
  have hs := hr.lt
  obtain ⟨g, hg⟩ : ∃ g, w.heap.size = g := ⟨_, rfl⟩
  rw [hg] at hr hs ⊢
  go_wp2_with fail
  refine (l20Graph_bd (g + 1) g _ _ _ hr (by omega) (by omega) (by omega) (by omega)).mono ?_; rintro e w2 ⟨A', n', c', xss, rfl, hA, hr2, hT2, hn1, hn8, hr8⟩
  have hal : Ext w2 (w2.alloc (.cells #[] 28)) := (Below.refl _ _).alloc (Nat.le_refl _) _
  have hG0 : Fr (w2.alloc (.cells #[] 28)) w2.heap.size 28 5 (.slice (some ⟨w2.heap.size, 0, none⟩) 0 0) 0 (c5 []) := .inr (Row.lit (w := w2) (n := 0) #[] (by simp) (by unfold maxLen; omega) (Nat.le_refl _))
  have hr3 := hr2.keep hal
  have hT3 : Tch w2 (w2.alloc (.cells #[] 28)) (· = g) := Tch.ext (S := (· = g)) hal
  have hs2 := hT2.size
  have hg2 : g < w2.heap.size := by omega
  clear hal hr2 hr
  go_wp2_with fail
  refine (pickT _ _ _ _ _ hr3 (by omega) (by omega) (by omega)).mono ?_; rintro e w3 ⟨kk, hkk, rfl, hr4, hT4_⟩
  have hG1 := hG0.pastT hT4_ (fun k e => by omega)
  have hT4 := hT3.trans hT4_
  clear hG0 hr3 hT3 hT4_ h
  go_wp2
  go_loopw [6, 7] (fun out ii wr => ∃ (i j : Nat) (Ao : Option Addr) (co : Nat) (ms : List Mv), i + j = kk ∧ ii = .int .i64 i ∧ out = .slice Ao j co ∧ Fr wr w2.heap.size 28 5 (.slice Ao j co) j (c5 ms) ∧ Tch w2 wr (· = g) ∧ Rdr wr (g + 1) g (101 + 400 * j)) (fun _ ii _ => (intOf ii).toNat)
  case atStart => exact ⟨kk, 0, _, _, [], by omega, rfl, rfl, hG1, hT4, hr4.more (by omega)⟩
  case round =>
    clear hG1 hT4 hr4
    obtain ⟨i, j, Ao, co, ms, hij, rfl, rfl, hG, hT, hr⟩ := hrel
    by_cases hlt : 0 < i
    · have hAo := hA.only hT (fun k e => by omega)
      go_wp2_with fail
      refine (l20Move_any (g + 1) g _ _ _ _ _ _ _ hr (by have := hT.size; omega) (hAo.mono (by omega)) hn1 hn8 hr8 (by omega) (by omega) (by omega)).mono ?_; rintro e w5 ⟨kd, who, oth, thg, rts, rfl, hR5, hT5⟩
      have hG5 := hG.pastT hT5 (fun k e => by omega)
      have hT5' := hT.trans hT5
      have hal : Ext w5 (w5.alloc (.cells #[.int .i64 kd, .int .i64 who, .int .i64 oth, .int .i64 thg, .int .i64 rts] 28)) := (Below.refl _ _).alloc (Nat.le_refl _) _
      have hRl : Rd (w5.alloc (.cells #[.int .i64 kd, .int .i64 who, .int .i64 oth, .int .i64 thg, .int .i64 rts] 28)) 5 (some ⟨w5.heap.size, 0, none⟩) 1 1 (c5 [(kd, who, oth, thg, rts)]) := Rd.lit (sz := 5) (n := 1) #[.int .i64 kd, .int .i64 who, .int .i64 oth, .int .i64 thg, .int .i64 rts] rfl (by omega)
      have hG2 := hG5.below hal
      have hR2 := hR5.keep hal
      have hT6 := hT5'.trans (Tch.ext (S := (· = g)) hal)
      have hle2 := hT6.size
      clear hG hT hr hT5 hG5 hR5 hT5' hal hAo
      go_wp2_with (at_builtin; refine wpList_append_fr _ rfl _ _ 43 rfl w2.heap.size 28 i1 _ 5 40 Try.underlying43 ki kz0 kz1 kz2 rfl (by omega) _ j _ rfl hG2 _ 1 1 _ rfl hRl (one_c5 _) (by unfold maxLen; omega) (by omega) hle2 ?_; intro Ab cb wc rowb hFb hgb hrowb)
      rw [← c5_append] at hFb
      have hT7 := hT6.new hgb (fun k hk => (hrowb k hk).1)
      have hR7 := hR2.past hgb (fun k hk => by have := (hrowb k hk).1; omega)
      clear hG2 hR2 hT6 hRl hgb hrowb
      go_roundw
      case rel => exact ⟨i - 1, j + 1, Ab, cb, _, by omega, by go_num, rfl, hFb, hT7, hR7.more (by omega)⟩
      case measure => simp [intOf]; omega
    · go_wp2_with fail
      refine (oddT _ _ _ _ _ hr (by omega) (by omega) (by omega)).mono ?_; rintro e w4 ⟨t, rfl, _, hr4, ht4⟩
      have hG4 := hG.pastT ht4 (fun k e => by omega)
      have hT4 := hT.trans ht4
      have hA4 := hA.only hT4 (fun k e => by omega)
      have hE4 := ext_tch (ext_tch hb1 hT2 (fun k e => by omega)) hT4 (fun k e => by omega)
      clear hG hT hr ht4 hr4
      cases t
      · go_wp2
        go_ret2
        exact ⟨_, _, _, _, _, _, _, _, rfl, hA4.rdR, hG4.rd'.2, hG4.nilc, hn1, hn8, hE4⟩
      · go_wp2_with (at_make; refine wpList_make_full _ rfl _ _ 43 rfl w4.heap.size 28 i1 _ 5 Try.underlying43 ki kz0 kz1 .i64 .i64 _ _ 41 rfl rfl rfl rfl (by rw [kz2]; omega) (by unfold maxLen; omega) (Nat.le_refl _) ?_; intro w9 hown hg9)
        have hb9 : Ext w4 w9 := (Below.refl _ _).grown hg9 (Nat.le_refl _) (by simp)
        rw [show (Value.agg #[.int .i64 0, .int .i64 0, .int .i64 0, .int .i64 0, .int .i64 0]).cells = #[.int .i64 0, .int .i64 0, .int .i64 0, .int .i64 0, .int .i64 0] from rfl, c5_replicate] at hown
        have hO := Row.of_own hown
        clear hown hg9
        go_ret2
        exact ⟨_, _, _, _, _, _, _, _, rfl, (hA4.below hb9).rdR, (Fr.rd' (.inr hO)).2, (fun e => by cases e), hn1, hn8, hE4.trans hb9⟩
end Go.Proofs.Ytbljkahdhckegaa
