/-
  The spaces, faults and capabilities that the reference draws for a repair.
-/
import Derived.Test.YteahiiflgiimnaaDrF
import Derived.Test.YteahiiflgiimnaaDrC
namespace Go.Proofs.Yteahiiflgiimnaa
open Go.RowKit

theorem Rd.tchH {w w' : World} {A : Option Addr} {sz n c lo hi g : Nat} {xs : List Value} (h : Rd w sz A n c xs) (hAb : ∀ b off, A = some ⟨b, off, none⟩ → 0 < n → lo ≤ b ∧ b < hi) (ht : Tch w w' (· = g)) (hg : g < lo ∨ hi ≤ g) : Rd w' sz A n c xs :=
  h.keepB (fun b off e hpos hlt => ht.block b hlt (fun e2 => by have := hAb b off e hpos; omega))
theorem Rd.setH {w : World} {A : Option Addr} {sz n c lo hi : Nat} {xs : List Value} (h : Rd w sz A n c xs) (hAb : ∀ b off, A = some ⟨b, off, none⟩ → 0 < n → lo ≤ b ∧ b < hi) (q : Addr) (hq : q.block < lo ∨ hi ≤ q.block) (u : Value) : Rd (w.setCell q u) sz A n c xs :=
  h.keepB (fun b off e hpos hlt => (grown_set (p := q) (g := q.block) (World.grownBy.refl w _) rfl u).block b hlt (fun e2 => by cases e2; have := hAb _ off e hpos; omega))
theorem Rd.sets7 {w : World} {A : Option Addr} {sz n c lo hi p q : Nat} {xs : List Value} (h : Rd w sz A n c xs) (hAb : ∀ b off, A = some ⟨b, off, none⟩ → 0 < n → lo ≤ b ∧ b < hi) (hp : p < lo) (hq : q < lo) (x0 x1 x2 y0 y1 y2 y3 : Value) :
    Rd ((((((((w.setCell ⟨p, 0, none⟩ x0).setCell ⟨p, 1, none⟩ x1).setCell ⟨p, 2, none⟩ x2).setCell ⟨q, 0, none⟩ y0).setCell ⟨q, 1, none⟩ y1).setCell ⟨q, 2, none⟩ y2).setCell ⟨q, 3, none⟩ y3).drew) sz A n c xs :=
  Rd.below (((((((h.setH hAb _ (.inl hp) _).setH hAb _ (.inl hp) _).setH hAb _ (.inl hp) _).setH hAb _ (.inl hq) _).setH hAb _ (.inl hq) _).setH hAb _ (.inl hq) _).setH hAb _ (.inl hq) _) ((Below.refl _ _).drew)
theorem Rd.sets7b {w : World} {A : Option Addr} {sz n c lo hi p q : Nat} {xs : List Value} (h : Rd w sz A n c xs) (hAb : ∀ b off, A = some ⟨b, off, none⟩ → 0 < n → lo ≤ b ∧ b < hi) (hp : p < lo) (hq : q < lo) (x0 x1 x2 y0 y1 y2 y3 : Value) :
    Rd ((((((((w.setCell ⟨q, 0, none⟩ y0).setCell ⟨q, 1, none⟩ y1).setCell ⟨q, 2, none⟩ y2).setCell ⟨q, 3, none⟩ y3).setCell ⟨p, 0, none⟩ x0).setCell ⟨p, 1, none⟩ x1).setCell ⟨p, 2, none⟩ x2).drew) sz A n c xs :=
  Rd.below (((((((h.setH hAb _ (.inl hq) _).setH hAb _ (.inl hq) _).setH hAb _ (.inl hq) _).setH hAb _ (.inl hq) _).setH hAb _ (.inl hp) _).setH hAb _ (.inl hp) _).setH hAb _ (.inl hp) _) ((Below.refl _ _).drew)
theorem Ext.sets7 {a w : World} {p q : Nat} (h : Ext a w) (hp : a.heap.size ≤ p) (hq : a.heap.size ≤ q) (x0 x1 x2 y0 y1 y2 y3 : Value) :
    Ext a ((((((((w.setCell ⟨p, 0, none⟩ x0).setCell ⟨p, 1, none⟩ x1).setCell ⟨p, 2, none⟩ x2).setCell ⟨q, 0, none⟩ y0).setCell ⟨q, 1, none⟩ y1).setCell ⟨q, 2, none⟩ y2).setCell ⟨q, 3, none⟩ y3).drew) :=
  Below.drew (((((((h.setCell (by exact hp) _).setCell (by exact hp) _).setCell (by exact hp) _).setCell (by exact hq) _).setCell (by exact hq) _).setCell (by exact hq) _).setCell (by exact hq) _)
theorem Ext.sets7b {a w : World} {p q : Nat} (h : Ext a w) (hp : a.heap.size ≤ p) (hq : a.heap.size ≤ q) (x0 x1 x2 y0 y1 y2 y3 : Value) :
    Ext a ((((((((w.setCell ⟨q, 0, none⟩ y0).setCell ⟨q, 1, none⟩ y1).setCell ⟨q, 2, none⟩ y2).setCell ⟨q, 3, none⟩ y3).setCell ⟨p, 0, none⟩ x0).setCell ⟨p, 1, none⟩ x1).setCell ⟨p, 2, none⟩ x2).drew) :=
  Below.drew (((((((h.setCell (by exact hq) _).setCell (by exact hq) _).setCell (by exact hq) _).setCell (by exact hq) _).setCell (by exact hp) _).setCell (by exact hp) _).setCell (by exact hp) _)

set_option maxHeartbeats 3000000 in
set_option maxRecDepth 100000 in
theorem DrawRepairFault_any (A : Option Addr) (n c : Nat) (bs : List UInt8) (w : World) (h : Rd w 1 A n c (cU bs)) :
    Calls Try.prog 36 #[.slice A n c] w fun e w' => ∃ A' n' c' ms, ∃ f0 f1 f2 v0 v1 v2 v3 : Int, e = .returned (.tuple #[.slice A' n' c', .agg #[.int .i64 f0, .int .i64 f1, .int .i64 f2], .agg #[.int .i64 v0, .int .i64 v1, .int .i64 v2, .int .i64 v3]]) ∧ Rd w' 3 A' n' c' (c3 ms) ∧ n' ≤ 22 ∧ Ext w w' := by
  obtain ⟨W0, hW0⟩ : ∃ W0, W0 = ((w.alloc (.cells #[.int .i64 0, .int .i64 0, .int .i64 0] 32)).alloc (.cells #[.int .i64 0, .int .i64 0, .int .i64 0, .int .i64 0] 34)) := ⟨_, rfl⟩
  have hb0 : Ext w W0 := by rw [hW0]; exact ((Below.refl _ _).alloc (Nat.le_refl _) _).alloc (by simp) _
  have PF0 : W0.heap[w.heap.size]? = some (.cells #[.int .i64 0, .int .i64 0, .int .i64 0] 32 (0, 0)) := by
    have e0 : Ext (w.alloc (.cells #[.int .i64 0, .int .i64 0, .int .i64 0] 32)) ((w.alloc (.cells #[.int .i64 0, .int .i64 0, .int .i64 0] 32)).alloc (.cells #[.int .i64 0, .int .i64 0, .int .i64 0, .int .i64 0] 34)) := (Below.refl _ _).alloc (Nat.le_refl _) _
    rw [hW0]; exact (e0.block _ (by simp)).trans (heap_alloc_new w _)
  have PC0 : W0.heap[w.heap.size + 1]? = some (.cells #[.int .i64 0, .int .i64 0, .int .i64 0, .int .i64 0] 34 (0, 0)) := by
    have := heap_alloc_new (w.alloc (.cells #[.int .i64 0, .int .i64 0, .int .i64 0] 32)) (.cells #[.int .i64 0, .int .i64 0, .int .i64 0, .int .i64 0] 34)
    rw [hW0]
    simpa using this
  have h0 := h.below hb0
  have hs0 : W0.heap.size = w.heap.size + 2 := by rw [hW0]; simp
  clear h
  go_enter Try.func36, Try.ntmps36
  go_wp2_with fail
  rw [← hW0]
  refine (l20Open_any _ _ _ _ _ h0).mono ?_; rintro e w1 ⟨rfl, hr1, hb1⟩
  obtain ⟨g, hg⟩ : ∃ g, W0.heap.size = g := ⟨_, rfl⟩
  rw [hg] at hr1 ⊢
  have hgp : w.heap.size ≠ g := by omega
  have hgp2 : w.heap.size + 1 ≠ g := by omega
  have PF1 := (hb1.block _ (Array.getElem?_eq_some_iff.1 PF0).1).trans PF0
  have PC1 := (hb1.block _ (Array.getElem?_eq_some_iff.1 PC0).1).trans PC0
  have hbb1 := hb0.trans hb1
  have hsz1 : g + 1 ≤ w1.heap.size := by have := hr1.lt; omega
  clear hW0 h0 PF0 PC0 hb0 hb1
  go_wp2_with fail
  refine (l20Space_any _ _ _ _ _ hr1 hsz1 (by omega) (by omega) (by omega)).mono ?_; rintro e w2 ⟨A', n', c', ms, rfl, hF2, h9, hr2, ht2⟩
  have hgw1 : g < w1.heap.size := hr1.lt
  have PF2 := (ht2.block _ (Array.getElem?_eq_some_iff.1 PF1).1 hgp).trans PF1
  have PC2 := (ht2.block _ (Array.getElem?_eq_some_iff.1 PC1).1 hgp2).trans PC1
  have hbb2 := ext_tch hbb1 ht2 (fun k e => by omega)
  clear PF1 PC1 hbb1 hr1 ht2
  have hgw2 : g < w2.heap.size := hr2.lt
  have hAb : ∀ b off, A' = some ⟨b, off, none⟩ → 0 < n' → w1.heap.size ≤ b ∧ b < w2.heap.size := fun b off e hpos => by
    obtain ⟨g', e', hB', hlt', _⟩ := hF2.form hpos
    rw [e'] at e
    cases e
    exact ⟨hB', hlt'⟩
  have hA2 := hF2.rd'.2
  clear hF2
  go_wp2_with fail
  refine (l20Address_any _ _ _ _ _ hr2 (by omega) (by omega) (by omega)).mono ?_; rintro e w3 ⟨a, rfl, _, _, _, hr3, ht3⟩
  have hsz23 := ht3.size
  have PF3 := (ht3.block _ (Array.getElem?_eq_some_iff.1 PF2).1 hgp).trans PF2
  have PC3 := (ht3.block _ (Array.getElem?_eq_some_iff.1 PC2).1 hgp2).trans PC2
  have hA3 := hA2.tchH hAb ht3 (.inl (by omega))
  have hbb3 := ext_tch hbb2 ht3 (fun k e => by omega)
  clear PF2 PC2 hA2 hbb2 hr2 ht3
  go_wp2_with fail
  refine (pickT _ _ _ _ _ hr3 (by omega) (by omega) (by omega)).mono ?_; rintro e w4 ⟨z4, hz4, rfl, hr4, ht4⟩
  have hsz24 := Nat.le_trans hsz23 ht4.size
  have PF4 := (ht4.block _ (Array.getElem?_eq_some_iff.1 PF3).1 hgp).trans PF3
  have PC4 := (ht4.block _ (Array.getElem?_eq_some_iff.1 PC3).1 hgp2).trans PC3
  have hA4 := hA3.tchH hAb ht4 (.inl (by omega))
  have hbb4 := ext_tch hbb3 ht4 (fun k e => by omega)
  clear PF3 PC3 hA3 hbb3 hr3 ht4
  obtain ⟨x, y, z, hf⟩ : ∃ x y z, foR ms a (1 + (z4 : Int)) = (x, y, z) := ⟨_, _, _, rfl⟩
  have HF := Lib.hid hf
  clear hf
  go_wp2_with fail
  refine (specFaultOf_any _ _ _ _ _ _ _ hA4).mono ?_; rintro e w5 ⟨rfl, hb5⟩; rw [HF.out]
  simp only
  have hsz25 := Nat.le_trans hsz24 hb5.size
  have PF5 := (hb5.block _ (Array.getElem?_eq_some_iff.1 PF4).1).trans PF4
  have PC5 := (hb5.block _ (Array.getElem?_eq_some_iff.1 PC4).1).trans PC4
  have hA5 := hA4.below hb5
  have hbb5 := hbb4.trans hb5
  have hr5 := hr4.keep hb5
  clear PF4 PC4 hA4 hbb4 hr4 hb5
  have sz5 := hr5.lt
  have ha : Ext w5 (w5.alloc (.cells #[.int .i64 x, .int .i64 y, .int .i64 z] 32)) := (Below.refl _ _).alloc (Nat.le_refl _) _
  have PT6 : (w5.alloc (.cells #[.int .i64 x, .int .i64 y, .int .i64 z] 32)).heap[w5.heap.size]? = some (.cells #[.int .i64 x, .int .i64 y, .int .i64 z] 32 (0, 0)) := heap_alloc_new _ _
  have PF6 := (ha.block _ (Array.getElem?_eq_some_iff.1 PF5).1).trans PF5
  have PC6 := (ha.block _ (Array.getElem?_eq_some_iff.1 PC5).1).trans PC5
  have hA6 := hA5.below ha
  have hbb6 := hbb5.trans ha
  have hr6 := hr5.keep ha
  clear PF5 PC5 hA5 hbb5 hr5 ha
  obtain ⟨cc, hcc⟩ : ∃ cc, w5.heap.size = cc := ⟨_, rfl⟩
  rw [hcc] at PT6
  have hgc : cc ≠ g := by omega
  have hcA : w2.heap.size ≤ cc := by rw [← hcc]; exact hsz25
  have hcp : w.heap.size + 1 < cc := by omega
  go_wp2_with fail
  refine (oddT _ _ _ _ _ hr6 (by omega) (by omega) (by omega)).mono ?_; rintro e w7 ⟨t, rfl, _, hr7, ht7⟩
  have PF7 := (ht7.block _ (Array.getElem?_eq_some_iff.1 PF6).1 hgp).trans PF6
  have PC7 := (ht7.block _ (Array.getElem?_eq_some_iff.1 PC6).1 hgp2).trans PC6
  have PT7 := (ht7.block _ (Array.getElem?_eq_some_iff.1 PT6).1 hgc).trans PT6
  have hA7 := hA6.tchH hAb ht7 (.inl (by omega))
  have hbb7 := ext_tch hbb6 ht7 (fun k e => by omega)
  clear PF6 PC6 PT6 hA6 hbb6 hr6 ht7
  cases t
  · go_wp2_with fail
    refine (pickT _ _ _ _ _ hr7 (by omega) (by omega) (by omega)).mono ?_; rintro e w10 ⟨zp, hzp, rfl, hr10, ht10⟩
    have PF10 := (ht10.block _ (Array.getElem?_eq_some_iff.1 PF7).1 hgp).trans PF7
    have PC10 := (ht10.block _ (Array.getElem?_eq_some_iff.1 PC7).1 hgp2).trans PC7
    have PT10 := (ht10.block _ (Array.getElem?_eq_some_iff.1 PT7).1 hgc).trans PT7
    have hA10 := hA7.tchH hAb ht10 (.inl (by omega))
    have hbb10 := ext_tch hbb7 ht10 (fun k e => by omega)
    clear PF7 PC7 PT7 hA7 hbb7 hr7 ht10
    go_wp2_with fail
    refine (pickT _ _ _ _ _ hr10 (by omega) (by omega) (by omega)).mono ?_; rintro e w11 ⟨zq, hzq, rfl, hr11, ht11⟩
    have PF11 := (ht11.block _ (Array.getElem?_eq_some_iff.1 PF10).1 hgp).trans PF10
    have PC11 := (ht11.block _ (Array.getElem?_eq_some_iff.1 PC10).1 hgp2).trans PC10
    have PT11 := (ht11.block _ (Array.getElem?_eq_some_iff.1 PT10).1 hgc).trans PT10
    have hA11 := hA10.tchH hAb ht11 (.inl (by omega))
    have hbb11 := ext_tch hbb10 ht11 (fun k e => by omega)
    clear PF10 PC10 PT10 hA10 hbb10 hr10 ht11
    have szk := hr11.lt
    have szl := (Array.getElem?_eq_some_iff.1 PT11).1
    have ha : Ext w11 (w11.alloc (.cells #[.int .i64 6, .int .i64 zp, .int .i64 (1 + (zq : Int)), .int .i64 0] 34)) := (Below.refl _ _).alloc (Nat.le_refl _) _
    have PU12 : (w11.alloc (.cells #[.int .i64 6, .int .i64 zp, .int .i64 (1 + (zq : Int)), .int .i64 0] 34)).heap[w11.heap.size]? = some (.cells #[.int .i64 6, .int .i64 zp, .int .i64 (1 + (zq : Int)), .int .i64 0] 34 (0, 0)) := heap_alloc_new _ _
    have PF12 := (ha.block _ (Array.getElem?_eq_some_iff.1 PF11).1).trans PF11
    have PC12 := (ha.block _ (Array.getElem?_eq_some_iff.1 PC11).1).trans PC11
    have PT12 := (ha.block _ (Array.getElem?_eq_some_iff.1 PT11).1).trans PT11
    have hA12 := hA11.below ha
    have hbb12 := hbb11.trans ha
    have hr12 := hr11.keep ha
    clear PF11 PC11 PT11 hA11 hbb11 hr11 ha
    obtain ⟨dd, hdd⟩ : ∃ dd, w11.heap.size = dd := ⟨_, rfl⟩
    rw [hdd] at PU12
    have hgd : dd ≠ g := by omega
    have hdc : cc < dd := by omega
    go_wp2_with fail
    refine (oddT _ _ _ _ _ hr12 (by omega) (by omega) (by omega)).mono ?_; rintro e w13 ⟨t2, rfl, _, hr13, ht13⟩
    have PF13 := (ht13.block _ (Array.getElem?_eq_some_iff.1 PF12).1 hgp).trans PF12
    have PC13 := (ht13.block _ (Array.getElem?_eq_some_iff.1 PC12).1 hgp2).trans PC12
    have PT13 := (ht13.block _ (Array.getElem?_eq_some_iff.1 PT12).1 hgc).trans PT12
    have PU13 := (ht13.block _ (Array.getElem?_eq_some_iff.1 PU12).1 hgd).trans PU12
    have hA13 := hA12.tchH hAb ht13 (.inl (by omega))
    have hbb13 := ext_tch hbb12 ht13 (fun k e => by omega)
    clear PF12 PC12 PT12 PU12 hA12 hbb12 hr12 ht13
    cases t2
    · have aq0 : w13.cell? ⟨w.heap.size, 0, none⟩ = some (.int .i64 0) := by rw [cell_of_row w13 _ _ _ _ _ PF13]; rfl
      have af0 := frozen_of_row w13 w.heap.size 0 _ _ PF13
      have aq1 : w13.cell? ⟨w.heap.size, 1, none⟩ = some (.int .i64 0) := by rw [cell_of_row w13 _ _ _ _ _ PF13]; rfl
      have af1 := frozen_of_row w13 w.heap.size 1 _ _ PF13
      have aq2 : w13.cell? ⟨w.heap.size, 2, none⟩ = some (.int .i64 0) := by rw [cell_of_row w13 _ _ _ _ _ PF13]; rfl
      have af2 := frozen_of_row w13 w.heap.size 2 _ _ PF13
      have bq0 : w13.cell? ⟨(w.heap.size + 1), 0, none⟩ = some (.int .i64 0) := by rw [cell_of_row w13 _ _ _ _ _ PC13]; rfl
      have bf0 := frozen_of_row w13 (w.heap.size + 1) 0 _ _ PC13
      have bq1 : w13.cell? ⟨(w.heap.size + 1), 1, none⟩ = some (.int .i64 0) := by rw [cell_of_row w13 _ _ _ _ _ PC13]; rfl
      have bf1 := frozen_of_row w13 (w.heap.size + 1) 1 _ _ PC13
      have bq2 : w13.cell? ⟨(w.heap.size + 1), 2, none⟩ = some (.int .i64 0) := by rw [cell_of_row w13 _ _ _ _ _ PC13]; rfl
      have bf2 := frozen_of_row w13 (w.heap.size + 1) 2 _ _ PC13
      have bq3 : w13.cell? ⟨(w.heap.size + 1), 3, none⟩ = some (.int .i64 0) := by rw [cell_of_row w13 _ _ _ _ _ PC13]; rfl
      have bf3 := frozen_of_row w13 (w.heap.size + 1) 3 _ _ PC13
      have cq0 : w13.cell? ⟨cc, 0, none⟩ = some (.int .i64 x) := by rw [cell_of_row w13 _ _ _ _ _ PT13]; rfl
      have cf0 := frozen_of_row w13 cc 0 _ _ PT13
      have cq1 : w13.cell? ⟨cc, 1, none⟩ = some (.int .i64 y) := by rw [cell_of_row w13 _ _ _ _ _ PT13]; rfl
      have cf1 := frozen_of_row w13 cc 1 _ _ PT13
      have cq2 : w13.cell? ⟨cc, 2, none⟩ = some (.int .i64 z) := by rw [cell_of_row w13 _ _ _ _ _ PT13]; rfl
      have cf2 := frozen_of_row w13 cc 2 _ _ PT13
      have dq0 : w13.cell? ⟨dd, 0, none⟩ = some (.int .i64 6) := by rw [cell_of_row w13 _ _ _ _ _ PU13]; rfl
      have df0 := frozen_of_row w13 dd 0 _ _ PU13
      have dq1 : w13.cell? ⟨dd, 1, none⟩ = some (.int .i64 zp) := by rw [cell_of_row w13 _ _ _ _ _ PU13]; rfl
      have df1 := frozen_of_row w13 dd 1 _ _ PU13
      have dq2 : w13.cell? ⟨dd, 2, none⟩ = some (.int .i64 (1 + (zq : Int))) := by rw [cell_of_row w13 _ _ _ _ _ PU13]; rfl
      have df2 := frozen_of_row w13 dd 2 _ _ PU13
      have dq3 : w13.cell? ⟨dd, 3, none⟩ = some (.int .i64 0) := by rw [cell_of_row w13 _ _ _ _ _ PU13]; rfl
      have df3 := frozen_of_row w13 dd 3 _ _ PU13
      clear PF13 PC13 PT13 PU13 hr13
      go_wp2
      go_region
      all_goals go_wp2
      all_goals refine bodyPost_ret (v := .tuple #[.slice A' n' c', .agg #[.int .i64 x, .int .i64 y, .int .i64 z], .agg #[.int .i64 6, .int .i64 zp, .int .i64 (1 + (zq : Int)), .int .i64 0]]) (by simp [results, Try.results36, go_sem, aq0, aq1, aq2, bq0, bq1, bq2, bq3]) rfl ⟨A', n', c', ms, x, y, z, 6, zp, (1 + (zq : Int)), 0, rfl, ?_, h9, ?_⟩
      all_goals with_reducible first
        | exact Rd.sets7 hA13 hAb (by omega) (by omega) _ _ _ _ _ _ _
        | exact Rd.sets7b hA13 hAb (by omega) (by omega) _ _ _ _ _ _ _
        | exact Ext.sets7 hbb13 (by omega) (by omega) _ _ _ _ _ _ _
        | exact Ext.sets7b hbb13 (by omega) (by omega) _ _ _ _ _ _ _
    · have szm := hr13.lt
      go_wp2_with fail
      refine (l20Cap_any _ _ _ _ _ hr13 (by omega) (by omega) (by omega) (by omega)).mono ?_; rintro e w14 ⟨v0, v1, v2, v3, rfl, hr14, ht14⟩
      have PF14 := (ht14.block _ (Array.getElem?_eq_some_iff.1 PF13).1 hgp).trans PF13
      have PC14 := (ht14.block _ (Array.getElem?_eq_some_iff.1 PC13).1 hgp2).trans PC13
      have PT14 := (ht14.block _ (Array.getElem?_eq_some_iff.1 PT13).1 hgc).trans PT13
      have PU14 := (ht14.block _ (Array.getElem?_eq_some_iff.1 PU13).1 hgd).trans PU13
      have hA14 := hA13.tchH hAb ht14 (.inl (by omega))
      have hbb14 := ext_tch hbb13 ht14 (fun k e => by omega)
      clear PF13 PC13 PT13 PU13 hA13 hbb13 hr13 ht14
      have sq0 : w14.cell? ⟨dd, 0, none⟩ = some (.int .i64 6) := by rw [cell_of_row w14 _ _ _ _ _ PU14]; rfl
      have sf0 := frozen_of_row w14 dd 0 _ _ PU14
      have sq1 : w14.cell? ⟨dd, 1, none⟩ = some (.int .i64 zp) := by rw [cell_of_row w14 _ _ _ _ _ PU14]; rfl
      have sf1 := frozen_of_row w14 dd 1 _ _ PU14
      have sq2 : w14.cell? ⟨dd, 2, none⟩ = some (.int .i64 (1 + (zq : Int))) := by rw [cell_of_row w14 _ _ _ _ _ PU14]; rfl
      have sf2 := frozen_of_row w14 dd 2 _ _ PU14
      have sq3 : w14.cell? ⟨dd, 3, none⟩ = some (.int .i64 0) := by rw [cell_of_row w14 _ _ _ _ _ PU14]; rfl
      have sf3 := frozen_of_row w14 dd 3 _ _ PU14
      have hgs := (grown_set (p := ⟨dd, 3, none⟩) (g := dd) (grown_set (p := ⟨dd, 2, none⟩) (g := dd) (grown_set (p := ⟨dd, 1, none⟩) (g := dd) (grown_set (p := ⟨dd, 0, none⟩) (g := dd) (World.grownBy.refl w14 _) rfl (.int .i64 v0)) rfl (.int .i64 v1)) rfl (.int .i64 v2)) rfl (.int .i64 v3))
      have PU15 : ((((w14.setCell ⟨dd, 0, none⟩ (.int .i64 v0)).setCell ⟨dd, 1, none⟩ (.int .i64 v1)).setCell ⟨dd, 2, none⟩ (.int .i64 v2)).setCell ⟨dd, 3, none⟩ (.int .i64 v3)).heap[dd]? = some (.cells #[.int .i64 v0, .int .i64 v1, .int .i64 v2, .int .i64 v3] 34 (0, 0)) := (heap_setCell_same _ _ 3 _ _ (.int .i64 v3) (heap_setCell_same _ _ 2 _ _ (.int .i64 v2) (heap_setCell_same _ _ 1 _ _ (.int .i64 v1) (heap_setCell_same _ _ 0 _ _ (.int .i64 v0) PU14))))
      have PF15 : ((((w14.setCell ⟨dd, 0, none⟩ (.int .i64 v0)).setCell ⟨dd, 1, none⟩ (.int .i64 v1)).setCell ⟨dd, 2, none⟩ (.int .i64 v2)).setCell ⟨dd, 3, none⟩ (.int .i64 v3)).heap[w.heap.size]? = some (.cells #[.int .i64 0, .int .i64 0, .int .i64 0] 32 (0, 0)) := (hgs.block _ (Array.getElem?_eq_some_iff.1 PF14).1 (fun e => by cases e; omega)).trans PF14
      have PC15 : ((((w14.setCell ⟨dd, 0, none⟩ (.int .i64 v0)).setCell ⟨dd, 1, none⟩ (.int .i64 v1)).setCell ⟨dd, 2, none⟩ (.int .i64 v2)).setCell ⟨dd, 3, none⟩ (.int .i64 v3)).heap[(w.heap.size + 1)]? = some (.cells #[.int .i64 0, .int .i64 0, .int .i64 0, .int .i64 0] 34 (0, 0)) := (hgs.block _ (Array.getElem?_eq_some_iff.1 PC14).1 (fun e => by cases e; omega)).trans PC14
      have PT15 : ((((w14.setCell ⟨dd, 0, none⟩ (.int .i64 v0)).setCell ⟨dd, 1, none⟩ (.int .i64 v1)).setCell ⟨dd, 2, none⟩ (.int .i64 v2)).setCell ⟨dd, 3, none⟩ (.int .i64 v3)).heap[cc]? = some (.cells #[.int .i64 x, .int .i64 y, .int .i64 z] 32 (0, 0)) := (hgs.block _ (Array.getElem?_eq_some_iff.1 PT14).1 (fun e => by cases e; omega)).trans PT14
      have hA15 : Rd ((((w14.setCell ⟨dd, 0, none⟩ (.int .i64 v0)).setCell ⟨dd, 1, none⟩ (.int .i64 v1)).setCell ⟨dd, 2, none⟩ (.int .i64 v2)).setCell ⟨dd, 3, none⟩ (.int .i64 v3)) 3 A' n' c' (c3 ms) := hA14.keepB (fun b off e hpos hlt => hgs.block b hlt (fun e2 => by cases e2; have := hAb _ off e hpos; omega))
      have hbb15 : Ext w ((((w14.setCell ⟨dd, 0, none⟩ (.int .i64 v0)).setCell ⟨dd, 1, none⟩ (.int .i64 v1)).setCell ⟨dd, 2, none⟩ (.int .i64 v2)).setCell ⟨dd, 3, none⟩ (.int .i64 v3)) := ext_grown hbb14 hgs (fun k e => by cases e; omega)
      have hr15 : Rdr ((((w14.setCell ⟨dd, 0, none⟩ (.int .i64 v0)).setCell ⟨dd, 1, none⟩ (.int .i64 v1)).setCell ⟨dd, 2, none⟩ (.int .i64 v2)).setCell ⟨dd, 3, none⟩ (.int .i64 v3)) (g + 1) g _ := hr14.past hgs (fun k e => by cases e; omega)
      clear hgs PF14 PC14 PT14 PU14 hA14 hbb14 hr14
      have aq0 : ((((w14.setCell ⟨dd, 0, none⟩ (.int .i64 v0)).setCell ⟨dd, 1, none⟩ (.int .i64 v1)).setCell ⟨dd, 2, none⟩ (.int .i64 v2)).setCell ⟨dd, 3, none⟩ (.int .i64 v3)).cell? ⟨w.heap.size, 0, none⟩ = some (.int .i64 0) := by rw [cell_of_row ((((w14.setCell ⟨dd, 0, none⟩ (.int .i64 v0)).setCell ⟨dd, 1, none⟩ (.int .i64 v1)).setCell ⟨dd, 2, none⟩ (.int .i64 v2)).setCell ⟨dd, 3, none⟩ (.int .i64 v3)) _ _ _ _ _ PF15]; rfl
      have af0 := frozen_of_row ((((w14.setCell ⟨dd, 0, none⟩ (.int .i64 v0)).setCell ⟨dd, 1, none⟩ (.int .i64 v1)).setCell ⟨dd, 2, none⟩ (.int .i64 v2)).setCell ⟨dd, 3, none⟩ (.int .i64 v3)) w.heap.size 0 _ _ PF15
      have aq1 : ((((w14.setCell ⟨dd, 0, none⟩ (.int .i64 v0)).setCell ⟨dd, 1, none⟩ (.int .i64 v1)).setCell ⟨dd, 2, none⟩ (.int .i64 v2)).setCell ⟨dd, 3, none⟩ (.int .i64 v3)).cell? ⟨w.heap.size, 1, none⟩ = some (.int .i64 0) := by rw [cell_of_row ((((w14.setCell ⟨dd, 0, none⟩ (.int .i64 v0)).setCell ⟨dd, 1, none⟩ (.int .i64 v1)).setCell ⟨dd, 2, none⟩ (.int .i64 v2)).setCell ⟨dd, 3, none⟩ (.int .i64 v3)) _ _ _ _ _ PF15]; rfl
      have af1 := frozen_of_row ((((w14.setCell ⟨dd, 0, none⟩ (.int .i64 v0)).setCell ⟨dd, 1, none⟩ (.int .i64 v1)).setCell ⟨dd, 2, none⟩ (.int .i64 v2)).setCell ⟨dd, 3, none⟩ (.int .i64 v3)) w.heap.size 1 _ _ PF15
      have aq2 : ((((w14.setCell ⟨dd, 0, none⟩ (.int .i64 v0)).setCell ⟨dd, 1, none⟩ (.int .i64 v1)).setCell ⟨dd, 2, none⟩ (.int .i64 v2)).setCell ⟨dd, 3, none⟩ (.int .i64 v3)).cell? ⟨w.heap.size, 2, none⟩ = some (.int .i64 0) := by rw [cell_of_row ((((w14.setCell ⟨dd, 0, none⟩ (.int .i64 v0)).setCell ⟨dd, 1, none⟩ (.int .i64 v1)).setCell ⟨dd, 2, none⟩ (.int .i64 v2)).setCell ⟨dd, 3, none⟩ (.int .i64 v3)) _ _ _ _ _ PF15]; rfl
      have af2 := frozen_of_row ((((w14.setCell ⟨dd, 0, none⟩ (.int .i64 v0)).setCell ⟨dd, 1, none⟩ (.int .i64 v1)).setCell ⟨dd, 2, none⟩ (.int .i64 v2)).setCell ⟨dd, 3, none⟩ (.int .i64 v3)) w.heap.size 2 _ _ PF15
      have bq0 : ((((w14.setCell ⟨dd, 0, none⟩ (.int .i64 v0)).setCell ⟨dd, 1, none⟩ (.int .i64 v1)).setCell ⟨dd, 2, none⟩ (.int .i64 v2)).setCell ⟨dd, 3, none⟩ (.int .i64 v3)).cell? ⟨(w.heap.size + 1), 0, none⟩ = some (.int .i64 0) := by rw [cell_of_row ((((w14.setCell ⟨dd, 0, none⟩ (.int .i64 v0)).setCell ⟨dd, 1, none⟩ (.int .i64 v1)).setCell ⟨dd, 2, none⟩ (.int .i64 v2)).setCell ⟨dd, 3, none⟩ (.int .i64 v3)) _ _ _ _ _ PC15]; rfl
      have bf0 := frozen_of_row ((((w14.setCell ⟨dd, 0, none⟩ (.int .i64 v0)).setCell ⟨dd, 1, none⟩ (.int .i64 v1)).setCell ⟨dd, 2, none⟩ (.int .i64 v2)).setCell ⟨dd, 3, none⟩ (.int .i64 v3)) (w.heap.size + 1) 0 _ _ PC15
      have bq1 : ((((w14.setCell ⟨dd, 0, none⟩ (.int .i64 v0)).setCell ⟨dd, 1, none⟩ (.int .i64 v1)).setCell ⟨dd, 2, none⟩ (.int .i64 v2)).setCell ⟨dd, 3, none⟩ (.int .i64 v3)).cell? ⟨(w.heap.size + 1), 1, none⟩ = some (.int .i64 0) := by rw [cell_of_row ((((w14.setCell ⟨dd, 0, none⟩ (.int .i64 v0)).setCell ⟨dd, 1, none⟩ (.int .i64 v1)).setCell ⟨dd, 2, none⟩ (.int .i64 v2)).setCell ⟨dd, 3, none⟩ (.int .i64 v3)) _ _ _ _ _ PC15]; rfl
      have bf1 := frozen_of_row ((((w14.setCell ⟨dd, 0, none⟩ (.int .i64 v0)).setCell ⟨dd, 1, none⟩ (.int .i64 v1)).setCell ⟨dd, 2, none⟩ (.int .i64 v2)).setCell ⟨dd, 3, none⟩ (.int .i64 v3)) (w.heap.size + 1) 1 _ _ PC15
      have bq2 : ((((w14.setCell ⟨dd, 0, none⟩ (.int .i64 v0)).setCell ⟨dd, 1, none⟩ (.int .i64 v1)).setCell ⟨dd, 2, none⟩ (.int .i64 v2)).setCell ⟨dd, 3, none⟩ (.int .i64 v3)).cell? ⟨(w.heap.size + 1), 2, none⟩ = some (.int .i64 0) := by rw [cell_of_row ((((w14.setCell ⟨dd, 0, none⟩ (.int .i64 v0)).setCell ⟨dd, 1, none⟩ (.int .i64 v1)).setCell ⟨dd, 2, none⟩ (.int .i64 v2)).setCell ⟨dd, 3, none⟩ (.int .i64 v3)) _ _ _ _ _ PC15]; rfl
      have bf2 := frozen_of_row ((((w14.setCell ⟨dd, 0, none⟩ (.int .i64 v0)).setCell ⟨dd, 1, none⟩ (.int .i64 v1)).setCell ⟨dd, 2, none⟩ (.int .i64 v2)).setCell ⟨dd, 3, none⟩ (.int .i64 v3)) (w.heap.size + 1) 2 _ _ PC15
      have bq3 : ((((w14.setCell ⟨dd, 0, none⟩ (.int .i64 v0)).setCell ⟨dd, 1, none⟩ (.int .i64 v1)).setCell ⟨dd, 2, none⟩ (.int .i64 v2)).setCell ⟨dd, 3, none⟩ (.int .i64 v3)).cell? ⟨(w.heap.size + 1), 3, none⟩ = some (.int .i64 0) := by rw [cell_of_row ((((w14.setCell ⟨dd, 0, none⟩ (.int .i64 v0)).setCell ⟨dd, 1, none⟩ (.int .i64 v1)).setCell ⟨dd, 2, none⟩ (.int .i64 v2)).setCell ⟨dd, 3, none⟩ (.int .i64 v3)) _ _ _ _ _ PC15]; rfl
      have bf3 := frozen_of_row ((((w14.setCell ⟨dd, 0, none⟩ (.int .i64 v0)).setCell ⟨dd, 1, none⟩ (.int .i64 v1)).setCell ⟨dd, 2, none⟩ (.int .i64 v2)).setCell ⟨dd, 3, none⟩ (.int .i64 v3)) (w.heap.size + 1) 3 _ _ PC15
      have cq0 : ((((w14.setCell ⟨dd, 0, none⟩ (.int .i64 v0)).setCell ⟨dd, 1, none⟩ (.int .i64 v1)).setCell ⟨dd, 2, none⟩ (.int .i64 v2)).setCell ⟨dd, 3, none⟩ (.int .i64 v3)).cell? ⟨cc, 0, none⟩ = some (.int .i64 x) := by rw [cell_of_row ((((w14.setCell ⟨dd, 0, none⟩ (.int .i64 v0)).setCell ⟨dd, 1, none⟩ (.int .i64 v1)).setCell ⟨dd, 2, none⟩ (.int .i64 v2)).setCell ⟨dd, 3, none⟩ (.int .i64 v3)) _ _ _ _ _ PT15]; rfl
      have cf0 := frozen_of_row ((((w14.setCell ⟨dd, 0, none⟩ (.int .i64 v0)).setCell ⟨dd, 1, none⟩ (.int .i64 v1)).setCell ⟨dd, 2, none⟩ (.int .i64 v2)).setCell ⟨dd, 3, none⟩ (.int .i64 v3)) cc 0 _ _ PT15
      have cq1 : ((((w14.setCell ⟨dd, 0, none⟩ (.int .i64 v0)).setCell ⟨dd, 1, none⟩ (.int .i64 v1)).setCell ⟨dd, 2, none⟩ (.int .i64 v2)).setCell ⟨dd, 3, none⟩ (.int .i64 v3)).cell? ⟨cc, 1, none⟩ = some (.int .i64 y) := by rw [cell_of_row ((((w14.setCell ⟨dd, 0, none⟩ (.int .i64 v0)).setCell ⟨dd, 1, none⟩ (.int .i64 v1)).setCell ⟨dd, 2, none⟩ (.int .i64 v2)).setCell ⟨dd, 3, none⟩ (.int .i64 v3)) _ _ _ _ _ PT15]; rfl
      have cf1 := frozen_of_row ((((w14.setCell ⟨dd, 0, none⟩ (.int .i64 v0)).setCell ⟨dd, 1, none⟩ (.int .i64 v1)).setCell ⟨dd, 2, none⟩ (.int .i64 v2)).setCell ⟨dd, 3, none⟩ (.int .i64 v3)) cc 1 _ _ PT15
      have cq2 : ((((w14.setCell ⟨dd, 0, none⟩ (.int .i64 v0)).setCell ⟨dd, 1, none⟩ (.int .i64 v1)).setCell ⟨dd, 2, none⟩ (.int .i64 v2)).setCell ⟨dd, 3, none⟩ (.int .i64 v3)).cell? ⟨cc, 2, none⟩ = some (.int .i64 z) := by rw [cell_of_row ((((w14.setCell ⟨dd, 0, none⟩ (.int .i64 v0)).setCell ⟨dd, 1, none⟩ (.int .i64 v1)).setCell ⟨dd, 2, none⟩ (.int .i64 v2)).setCell ⟨dd, 3, none⟩ (.int .i64 v3)) _ _ _ _ _ PT15]; rfl
      have cf2 := frozen_of_row ((((w14.setCell ⟨dd, 0, none⟩ (.int .i64 v0)).setCell ⟨dd, 1, none⟩ (.int .i64 v1)).setCell ⟨dd, 2, none⟩ (.int .i64 v2)).setCell ⟨dd, 3, none⟩ (.int .i64 v3)) cc 2 _ _ PT15
      have dq0 : ((((w14.setCell ⟨dd, 0, none⟩ (.int .i64 v0)).setCell ⟨dd, 1, none⟩ (.int .i64 v1)).setCell ⟨dd, 2, none⟩ (.int .i64 v2)).setCell ⟨dd, 3, none⟩ (.int .i64 v3)).cell? ⟨dd, 0, none⟩ = some (.int .i64 v0) := by rw [cell_of_row ((((w14.setCell ⟨dd, 0, none⟩ (.int .i64 v0)).setCell ⟨dd, 1, none⟩ (.int .i64 v1)).setCell ⟨dd, 2, none⟩ (.int .i64 v2)).setCell ⟨dd, 3, none⟩ (.int .i64 v3)) _ _ _ _ _ PU15]; rfl
      have df0 := frozen_of_row ((((w14.setCell ⟨dd, 0, none⟩ (.int .i64 v0)).setCell ⟨dd, 1, none⟩ (.int .i64 v1)).setCell ⟨dd, 2, none⟩ (.int .i64 v2)).setCell ⟨dd, 3, none⟩ (.int .i64 v3)) dd 0 _ _ PU15
      have dq1 : ((((w14.setCell ⟨dd, 0, none⟩ (.int .i64 v0)).setCell ⟨dd, 1, none⟩ (.int .i64 v1)).setCell ⟨dd, 2, none⟩ (.int .i64 v2)).setCell ⟨dd, 3, none⟩ (.int .i64 v3)).cell? ⟨dd, 1, none⟩ = some (.int .i64 v1) := by rw [cell_of_row ((((w14.setCell ⟨dd, 0, none⟩ (.int .i64 v0)).setCell ⟨dd, 1, none⟩ (.int .i64 v1)).setCell ⟨dd, 2, none⟩ (.int .i64 v2)).setCell ⟨dd, 3, none⟩ (.int .i64 v3)) _ _ _ _ _ PU15]; rfl
      have df1 := frozen_of_row ((((w14.setCell ⟨dd, 0, none⟩ (.int .i64 v0)).setCell ⟨dd, 1, none⟩ (.int .i64 v1)).setCell ⟨dd, 2, none⟩ (.int .i64 v2)).setCell ⟨dd, 3, none⟩ (.int .i64 v3)) dd 1 _ _ PU15
      have dq2 : ((((w14.setCell ⟨dd, 0, none⟩ (.int .i64 v0)).setCell ⟨dd, 1, none⟩ (.int .i64 v1)).setCell ⟨dd, 2, none⟩ (.int .i64 v2)).setCell ⟨dd, 3, none⟩ (.int .i64 v3)).cell? ⟨dd, 2, none⟩ = some (.int .i64 v2) := by rw [cell_of_row ((((w14.setCell ⟨dd, 0, none⟩ (.int .i64 v0)).setCell ⟨dd, 1, none⟩ (.int .i64 v1)).setCell ⟨dd, 2, none⟩ (.int .i64 v2)).setCell ⟨dd, 3, none⟩ (.int .i64 v3)) _ _ _ _ _ PU15]; rfl
      have df2 := frozen_of_row ((((w14.setCell ⟨dd, 0, none⟩ (.int .i64 v0)).setCell ⟨dd, 1, none⟩ (.int .i64 v1)).setCell ⟨dd, 2, none⟩ (.int .i64 v2)).setCell ⟨dd, 3, none⟩ (.int .i64 v3)) dd 2 _ _ PU15
      have dq3 : ((((w14.setCell ⟨dd, 0, none⟩ (.int .i64 v0)).setCell ⟨dd, 1, none⟩ (.int .i64 v1)).setCell ⟨dd, 2, none⟩ (.int .i64 v2)).setCell ⟨dd, 3, none⟩ (.int .i64 v3)).cell? ⟨dd, 3, none⟩ = some (.int .i64 v3) := by rw [cell_of_row ((((w14.setCell ⟨dd, 0, none⟩ (.int .i64 v0)).setCell ⟨dd, 1, none⟩ (.int .i64 v1)).setCell ⟨dd, 2, none⟩ (.int .i64 v2)).setCell ⟨dd, 3, none⟩ (.int .i64 v3)) _ _ _ _ _ PU15]; rfl
      have df3 := frozen_of_row ((((w14.setCell ⟨dd, 0, none⟩ (.int .i64 v0)).setCell ⟨dd, 1, none⟩ (.int .i64 v1)).setCell ⟨dd, 2, none⟩ (.int .i64 v2)).setCell ⟨dd, 3, none⟩ (.int .i64 v3)) dd 3 _ _ PU15
      clear PF15 PC15 PT15 PU15 hr15
      go_wp2
      go_region
      all_goals go_wp2
      all_goals refine bodyPost_ret (v := .tuple #[.slice A' n' c', .agg #[.int .i64 x, .int .i64 y, .int .i64 z], .agg #[.int .i64 v0, .int .i64 v1, .int .i64 v2, .int .i64 v3]]) (by simp [results, Try.results36, go_sem, aq0, aq1, aq2, bq0, bq1, bq2, bq3]) rfl ⟨A', n', c', ms, x, y, z, v0, v1, v2, v3, rfl, ?_, h9, ?_⟩
      all_goals with_reducible first
        | exact Rd.sets7 hA15 hAb (by omega) (by omega) _ _ _ _ _ _ _
        | exact Rd.sets7b hA15 hAb (by omega) (by omega) _ _ _ _ _ _ _
        | exact Ext.sets7 hbb15 (by omega) (by omega) _ _ _ _ _ _ _
        | exact Ext.sets7b hbb15 (by omega) (by omega) _ _ _ _ _ _ _
  · have szf := hr7.lt
    have szg := (Array.getElem?_eq_some_iff.1 PT7).1
    go_wp2_with fail
    refine (l20Fault_any _ _ _ _ _ hr7 (by omega) (by omega) (by omega) (by omega)).mono ?_; rintro e w8 ⟨f0, f1, f2, rfl, hr8, ht8⟩
    have PF8 := (ht8.block _ (Array.getElem?_eq_some_iff.1 PF7).1 hgp).trans PF7
    have PC8 := (ht8.block _ (Array.getElem?_eq_some_iff.1 PC7).1 hgp2).trans PC7
    have PT8 := (ht8.block _ (Array.getElem?_eq_some_iff.1 PT7).1 hgc).trans PT7
    have hA8 := hA7.tchH hAb ht8 (.inl (by omega))
    have hbb8 := ext_tch hbb7 ht8 (fun k e => by omega)
    clear PF7 PC7 PT7 hA7 hbb7 hr7 ht8
    have sq0 : w8.cell? ⟨cc, 0, none⟩ = some (.int .i64 x) := by rw [cell_of_row w8 _ _ _ _ _ PT8]; rfl
    have sf0 := frozen_of_row w8 cc 0 _ _ PT8
    have sq1 : w8.cell? ⟨cc, 1, none⟩ = some (.int .i64 y) := by rw [cell_of_row w8 _ _ _ _ _ PT8]; rfl
    have sf1 := frozen_of_row w8 cc 1 _ _ PT8
    have sq2 : w8.cell? ⟨cc, 2, none⟩ = some (.int .i64 z) := by rw [cell_of_row w8 _ _ _ _ _ PT8]; rfl
    have sf2 := frozen_of_row w8 cc 2 _ _ PT8
    have hgs := (grown_set (p := ⟨cc, 2, none⟩) (g := cc) (grown_set (p := ⟨cc, 1, none⟩) (g := cc) (grown_set (p := ⟨cc, 0, none⟩) (g := cc) (World.grownBy.refl w8 _) rfl (.int .i64 f0)) rfl (.int .i64 f1)) rfl (.int .i64 f2))
    have PT9 : (((w8.setCell ⟨cc, 0, none⟩ (.int .i64 f0)).setCell ⟨cc, 1, none⟩ (.int .i64 f1)).setCell ⟨cc, 2, none⟩ (.int .i64 f2)).heap[cc]? = some (.cells #[.int .i64 f0, .int .i64 f1, .int .i64 f2] 32 (0, 0)) := (heap_setCell_same _ _ 2 _ _ (.int .i64 f2) (heap_setCell_same _ _ 1 _ _ (.int .i64 f1) (heap_setCell_same _ _ 0 _ _ (.int .i64 f0) PT8)))
    have PF9 : (((w8.setCell ⟨cc, 0, none⟩ (.int .i64 f0)).setCell ⟨cc, 1, none⟩ (.int .i64 f1)).setCell ⟨cc, 2, none⟩ (.int .i64 f2)).heap[w.heap.size]? = some (.cells #[.int .i64 0, .int .i64 0, .int .i64 0] 32 (0, 0)) := (hgs.block _ (Array.getElem?_eq_some_iff.1 PF8).1 (fun e => by cases e; omega)).trans PF8
    have PC9 : (((w8.setCell ⟨cc, 0, none⟩ (.int .i64 f0)).setCell ⟨cc, 1, none⟩ (.int .i64 f1)).setCell ⟨cc, 2, none⟩ (.int .i64 f2)).heap[(w.heap.size + 1)]? = some (.cells #[.int .i64 0, .int .i64 0, .int .i64 0, .int .i64 0] 34 (0, 0)) := (hgs.block _ (Array.getElem?_eq_some_iff.1 PC8).1 (fun e => by cases e; omega)).trans PC8
    have hA9 : Rd (((w8.setCell ⟨cc, 0, none⟩ (.int .i64 f0)).setCell ⟨cc, 1, none⟩ (.int .i64 f1)).setCell ⟨cc, 2, none⟩ (.int .i64 f2)) 3 A' n' c' (c3 ms) := hA8.keepB (fun b off e hpos hlt => hgs.block b hlt (fun e2 => by cases e2; have := hAb _ off e hpos; omega))
    have hbb9 : Ext w (((w8.setCell ⟨cc, 0, none⟩ (.int .i64 f0)).setCell ⟨cc, 1, none⟩ (.int .i64 f1)).setCell ⟨cc, 2, none⟩ (.int .i64 f2)) := ext_grown hbb8 hgs (fun k e => by cases e; omega)
    have hr9 : Rdr (((w8.setCell ⟨cc, 0, none⟩ (.int .i64 f0)).setCell ⟨cc, 1, none⟩ (.int .i64 f1)).setCell ⟨cc, 2, none⟩ (.int .i64 f2)) (g + 1) g _ := hr8.past hgs (fun k e => by cases e; omega)
    clear hgs PF8 PC8 PT8 hA8 hbb8 hr8
    go_wp2_with fail
    refine (pickT _ _ _ _ _ hr9 (by omega) (by omega) (by omega)).mono ?_; rintro e w20 ⟨zp, hzp, rfl, hr20, ht20⟩
    have PF20 := (ht20.block _ (Array.getElem?_eq_some_iff.1 PF9).1 hgp).trans PF9
    have PC20 := (ht20.block _ (Array.getElem?_eq_some_iff.1 PC9).1 hgp2).trans PC9
    have PT20 := (ht20.block _ (Array.getElem?_eq_some_iff.1 PT9).1 hgc).trans PT9
    have hA20 := hA9.tchH hAb ht20 (.inl (by omega))
    have hbb20 := ext_tch hbb9 ht20 (fun k e => by omega)
    clear PF9 PC9 PT9 hA9 hbb9 hr9 ht20
    go_wp2_with fail
    refine (pickT _ _ _ _ _ hr20 (by omega) (by omega) (by omega)).mono ?_; rintro e w21 ⟨zq, hzq, rfl, hr21, ht21⟩
    have PF21 := (ht21.block _ (Array.getElem?_eq_some_iff.1 PF20).1 hgp).trans PF20
    have PC21 := (ht21.block _ (Array.getElem?_eq_some_iff.1 PC20).1 hgp2).trans PC20
    have PT21 := (ht21.block _ (Array.getElem?_eq_some_iff.1 PT20).1 hgc).trans PT20
    have hA21 := hA20.tchH hAb ht21 (.inl (by omega))
    have hbb21 := ext_tch hbb20 ht21 (fun k e => by omega)
    clear PF20 PC20 PT20 hA20 hbb20 hr20 ht21
    have szk := hr21.lt
    have szl := (Array.getElem?_eq_some_iff.1 PT21).1
    have ha : Ext w21 (w21.alloc (.cells #[.int .i64 6, .int .i64 zp, .int .i64 (1 + (zq : Int)), .int .i64 0] 34)) := (Below.refl _ _).alloc (Nat.le_refl _) _
    have PU22 : (w21.alloc (.cells #[.int .i64 6, .int .i64 zp, .int .i64 (1 + (zq : Int)), .int .i64 0] 34)).heap[w21.heap.size]? = some (.cells #[.int .i64 6, .int .i64 zp, .int .i64 (1 + (zq : Int)), .int .i64 0] 34 (0, 0)) := heap_alloc_new _ _
    have PF22 := (ha.block _ (Array.getElem?_eq_some_iff.1 PF21).1).trans PF21
    have PC22 := (ha.block _ (Array.getElem?_eq_some_iff.1 PC21).1).trans PC21
    have PT22 := (ha.block _ (Array.getElem?_eq_some_iff.1 PT21).1).trans PT21
    have hA22 := hA21.below ha
    have hbb22 := hbb21.trans ha
    have hr22 := hr21.keep ha
    clear PF21 PC21 PT21 hA21 hbb21 hr21 ha
    obtain ⟨dd, hdd⟩ : ∃ dd, w21.heap.size = dd := ⟨_, rfl⟩
    rw [hdd] at PU22
    have hgd : dd ≠ g := by omega
    have hdc : cc < dd := by omega
    go_wp2_with fail
    refine (oddT _ _ _ _ _ hr22 (by omega) (by omega) (by omega)).mono ?_; rintro e w23 ⟨t2, rfl, _, hr23, ht23⟩
    have PF23 := (ht23.block _ (Array.getElem?_eq_some_iff.1 PF22).1 hgp).trans PF22
    have PC23 := (ht23.block _ (Array.getElem?_eq_some_iff.1 PC22).1 hgp2).trans PC22
    have PT23 := (ht23.block _ (Array.getElem?_eq_some_iff.1 PT22).1 hgc).trans PT22
    have PU23 := (ht23.block _ (Array.getElem?_eq_some_iff.1 PU22).1 hgd).trans PU22
    have hA23 := hA22.tchH hAb ht23 (.inl (by omega))
    have hbb23 := ext_tch hbb22 ht23 (fun k e => by omega)
    clear PF22 PC22 PT22 PU22 hA22 hbb22 hr22 ht23
    cases t2
    · have aq0 : w23.cell? ⟨w.heap.size, 0, none⟩ = some (.int .i64 0) := by rw [cell_of_row w23 _ _ _ _ _ PF23]; rfl
      have af0 := frozen_of_row w23 w.heap.size 0 _ _ PF23
      have aq1 : w23.cell? ⟨w.heap.size, 1, none⟩ = some (.int .i64 0) := by rw [cell_of_row w23 _ _ _ _ _ PF23]; rfl
      have af1 := frozen_of_row w23 w.heap.size 1 _ _ PF23
      have aq2 : w23.cell? ⟨w.heap.size, 2, none⟩ = some (.int .i64 0) := by rw [cell_of_row w23 _ _ _ _ _ PF23]; rfl
      have af2 := frozen_of_row w23 w.heap.size 2 _ _ PF23
      have bq0 : w23.cell? ⟨(w.heap.size + 1), 0, none⟩ = some (.int .i64 0) := by rw [cell_of_row w23 _ _ _ _ _ PC23]; rfl
      have bf0 := frozen_of_row w23 (w.heap.size + 1) 0 _ _ PC23
      have bq1 : w23.cell? ⟨(w.heap.size + 1), 1, none⟩ = some (.int .i64 0) := by rw [cell_of_row w23 _ _ _ _ _ PC23]; rfl
      have bf1 := frozen_of_row w23 (w.heap.size + 1) 1 _ _ PC23
      have bq2 : w23.cell? ⟨(w.heap.size + 1), 2, none⟩ = some (.int .i64 0) := by rw [cell_of_row w23 _ _ _ _ _ PC23]; rfl
      have bf2 := frozen_of_row w23 (w.heap.size + 1) 2 _ _ PC23
      have bq3 : w23.cell? ⟨(w.heap.size + 1), 3, none⟩ = some (.int .i64 0) := by rw [cell_of_row w23 _ _ _ _ _ PC23]; rfl
      have bf3 := frozen_of_row w23 (w.heap.size + 1) 3 _ _ PC23
      have cq0 : w23.cell? ⟨cc, 0, none⟩ = some (.int .i64 f0) := by rw [cell_of_row w23 _ _ _ _ _ PT23]; rfl
      have cf0 := frozen_of_row w23 cc 0 _ _ PT23
      have cq1 : w23.cell? ⟨cc, 1, none⟩ = some (.int .i64 f1) := by rw [cell_of_row w23 _ _ _ _ _ PT23]; rfl
      have cf1 := frozen_of_row w23 cc 1 _ _ PT23
      have cq2 : w23.cell? ⟨cc, 2, none⟩ = some (.int .i64 f2) := by rw [cell_of_row w23 _ _ _ _ _ PT23]; rfl
      have cf2 := frozen_of_row w23 cc 2 _ _ PT23
      have dq0 : w23.cell? ⟨dd, 0, none⟩ = some (.int .i64 6) := by rw [cell_of_row w23 _ _ _ _ _ PU23]; rfl
      have df0 := frozen_of_row w23 dd 0 _ _ PU23
      have dq1 : w23.cell? ⟨dd, 1, none⟩ = some (.int .i64 zp) := by rw [cell_of_row w23 _ _ _ _ _ PU23]; rfl
      have df1 := frozen_of_row w23 dd 1 _ _ PU23
      have dq2 : w23.cell? ⟨dd, 2, none⟩ = some (.int .i64 (1 + (zq : Int))) := by rw [cell_of_row w23 _ _ _ _ _ PU23]; rfl
      have df2 := frozen_of_row w23 dd 2 _ _ PU23
      have dq3 : w23.cell? ⟨dd, 3, none⟩ = some (.int .i64 0) := by rw [cell_of_row w23 _ _ _ _ _ PU23]; rfl
      have df3 := frozen_of_row w23 dd 3 _ _ PU23
      clear PF23 PC23 PT23 PU23 hr23
      go_wp2
      go_region
      all_goals go_wp2
      all_goals refine bodyPost_ret (v := .tuple #[.slice A' n' c', .agg #[.int .i64 f0, .int .i64 f1, .int .i64 f2], .agg #[.int .i64 6, .int .i64 zp, .int .i64 (1 + (zq : Int)), .int .i64 0]]) (by simp [results, Try.results36, go_sem, aq0, aq1, aq2, bq0, bq1, bq2, bq3]) rfl ⟨A', n', c', ms, f0, f1, f2, 6, zp, (1 + (zq : Int)), 0, rfl, ?_, h9, ?_⟩
      all_goals with_reducible first
        | exact Rd.sets7 hA23 hAb (by omega) (by omega) _ _ _ _ _ _ _
        | exact Rd.sets7b hA23 hAb (by omega) (by omega) _ _ _ _ _ _ _
        | exact Ext.sets7 hbb23 (by omega) (by omega) _ _ _ _ _ _ _
        | exact Ext.sets7b hbb23 (by omega) (by omega) _ _ _ _ _ _ _
    · have szm := hr23.lt
      go_wp2_with fail
      refine (l20Cap_any _ _ _ _ _ hr23 (by omega) (by omega) (by omega) (by omega)).mono ?_; rintro e w24 ⟨v0, v1, v2, v3, rfl, hr24, ht24⟩
      have PF24 := (ht24.block _ (Array.getElem?_eq_some_iff.1 PF23).1 hgp).trans PF23
      have PC24 := (ht24.block _ (Array.getElem?_eq_some_iff.1 PC23).1 hgp2).trans PC23
      have PT24 := (ht24.block _ (Array.getElem?_eq_some_iff.1 PT23).1 hgc).trans PT23
      have PU24 := (ht24.block _ (Array.getElem?_eq_some_iff.1 PU23).1 hgd).trans PU23
      have hA24 := hA23.tchH hAb ht24 (.inl (by omega))
      have hbb24 := ext_tch hbb23 ht24 (fun k e => by omega)
      clear PF23 PC23 PT23 PU23 hA23 hbb23 hr23 ht24
      have sq0 : w24.cell? ⟨dd, 0, none⟩ = some (.int .i64 6) := by rw [cell_of_row w24 _ _ _ _ _ PU24]; rfl
      have sf0 := frozen_of_row w24 dd 0 _ _ PU24
      have sq1 : w24.cell? ⟨dd, 1, none⟩ = some (.int .i64 zp) := by rw [cell_of_row w24 _ _ _ _ _ PU24]; rfl
      have sf1 := frozen_of_row w24 dd 1 _ _ PU24
      have sq2 : w24.cell? ⟨dd, 2, none⟩ = some (.int .i64 (1 + (zq : Int))) := by rw [cell_of_row w24 _ _ _ _ _ PU24]; rfl
      have sf2 := frozen_of_row w24 dd 2 _ _ PU24
      have sq3 : w24.cell? ⟨dd, 3, none⟩ = some (.int .i64 0) := by rw [cell_of_row w24 _ _ _ _ _ PU24]; rfl
      have sf3 := frozen_of_row w24 dd 3 _ _ PU24
      have hgs := (grown_set (p := ⟨dd, 3, none⟩) (g := dd) (grown_set (p := ⟨dd, 2, none⟩) (g := dd) (grown_set (p := ⟨dd, 1, none⟩) (g := dd) (grown_set (p := ⟨dd, 0, none⟩) (g := dd) (World.grownBy.refl w24 _) rfl (.int .i64 v0)) rfl (.int .i64 v1)) rfl (.int .i64 v2)) rfl (.int .i64 v3))
      have PU25 : ((((w24.setCell ⟨dd, 0, none⟩ (.int .i64 v0)).setCell ⟨dd, 1, none⟩ (.int .i64 v1)).setCell ⟨dd, 2, none⟩ (.int .i64 v2)).setCell ⟨dd, 3, none⟩ (.int .i64 v3)).heap[dd]? = some (.cells #[.int .i64 v0, .int .i64 v1, .int .i64 v2, .int .i64 v3] 34 (0, 0)) := (heap_setCell_same _ _ 3 _ _ (.int .i64 v3) (heap_setCell_same _ _ 2 _ _ (.int .i64 v2) (heap_setCell_same _ _ 1 _ _ (.int .i64 v1) (heap_setCell_same _ _ 0 _ _ (.int .i64 v0) PU24))))
      have PF25 : ((((w24.setCell ⟨dd, 0, none⟩ (.int .i64 v0)).setCell ⟨dd, 1, none⟩ (.int .i64 v1)).setCell ⟨dd, 2, none⟩ (.int .i64 v2)).setCell ⟨dd, 3, none⟩ (.int .i64 v3)).heap[w.heap.size]? = some (.cells #[.int .i64 0, .int .i64 0, .int .i64 0] 32 (0, 0)) := (hgs.block _ (Array.getElem?_eq_some_iff.1 PF24).1 (fun e => by cases e; omega)).trans PF24
      have PC25 : ((((w24.setCell ⟨dd, 0, none⟩ (.int .i64 v0)).setCell ⟨dd, 1, none⟩ (.int .i64 v1)).setCell ⟨dd, 2, none⟩ (.int .i64 v2)).setCell ⟨dd, 3, none⟩ (.int .i64 v3)).heap[(w.heap.size + 1)]? = some (.cells #[.int .i64 0, .int .i64 0, .int .i64 0, .int .i64 0] 34 (0, 0)) := (hgs.block _ (Array.getElem?_eq_some_iff.1 PC24).1 (fun e => by cases e; omega)).trans PC24
      have PT25 : ((((w24.setCell ⟨dd, 0, none⟩ (.int .i64 v0)).setCell ⟨dd, 1, none⟩ (.int .i64 v1)).setCell ⟨dd, 2, none⟩ (.int .i64 v2)).setCell ⟨dd, 3, none⟩ (.int .i64 v3)).heap[cc]? = some (.cells #[.int .i64 f0, .int .i64 f1, .int .i64 f2] 32 (0, 0)) := (hgs.block _ (Array.getElem?_eq_some_iff.1 PT24).1 (fun e => by cases e; omega)).trans PT24
      have hA25 : Rd ((((w24.setCell ⟨dd, 0, none⟩ (.int .i64 v0)).setCell ⟨dd, 1, none⟩ (.int .i64 v1)).setCell ⟨dd, 2, none⟩ (.int .i64 v2)).setCell ⟨dd, 3, none⟩ (.int .i64 v3)) 3 A' n' c' (c3 ms) := hA24.keepB (fun b off e hpos hlt => hgs.block b hlt (fun e2 => by cases e2; have := hAb _ off e hpos; omega))
      have hbb25 : Ext w ((((w24.setCell ⟨dd, 0, none⟩ (.int .i64 v0)).setCell ⟨dd, 1, none⟩ (.int .i64 v1)).setCell ⟨dd, 2, none⟩ (.int .i64 v2)).setCell ⟨dd, 3, none⟩ (.int .i64 v3)) := ext_grown hbb24 hgs (fun k e => by cases e; omega)
      have hr25 : Rdr ((((w24.setCell ⟨dd, 0, none⟩ (.int .i64 v0)).setCell ⟨dd, 1, none⟩ (.int .i64 v1)).setCell ⟨dd, 2, none⟩ (.int .i64 v2)).setCell ⟨dd, 3, none⟩ (.int .i64 v3)) (g + 1) g _ := hr24.past hgs (fun k e => by cases e; omega)
      clear hgs PF24 PC24 PT24 PU24 hA24 hbb24 hr24
      have aq0 : ((((w24.setCell ⟨dd, 0, none⟩ (.int .i64 v0)).setCell ⟨dd, 1, none⟩ (.int .i64 v1)).setCell ⟨dd, 2, none⟩ (.int .i64 v2)).setCell ⟨dd, 3, none⟩ (.int .i64 v3)).cell? ⟨w.heap.size, 0, none⟩ = some (.int .i64 0) := by rw [cell_of_row ((((w24.setCell ⟨dd, 0, none⟩ (.int .i64 v0)).setCell ⟨dd, 1, none⟩ (.int .i64 v1)).setCell ⟨dd, 2, none⟩ (.int .i64 v2)).setCell ⟨dd, 3, none⟩ (.int .i64 v3)) _ _ _ _ _ PF25]; rfl
      have af0 := frozen_of_row ((((w24.setCell ⟨dd, 0, none⟩ (.int .i64 v0)).setCell ⟨dd, 1, none⟩ (.int .i64 v1)).setCell ⟨dd, 2, none⟩ (.int .i64 v2)).setCell ⟨dd, 3, none⟩ (.int .i64 v3)) w.heap.size 0 _ _ PF25
      have aq1 : ((((w24.setCell ⟨dd, 0, none⟩ (.int .i64 v0)).setCell ⟨dd, 1, none⟩ (.int .i64 v1)).setCell ⟨dd, 2, none⟩ (.int .i64 v2)).setCell ⟨dd, 3, none⟩ (.int .i64 v3)).cell? ⟨w.heap.size, 1, none⟩ = some (.int .i64 0) := by rw [cell_of_row ((((w24.setCell ⟨dd, 0, none⟩ (.int .i64 v0)).setCell ⟨dd, 1, none⟩ (.int .i64 v1)).setCell ⟨dd, 2, none⟩ (.int .i64 v2)).setCell ⟨dd, 3, none⟩ (.int .i64 v3)) _ _ _ _ _ PF25]; rfl
      have af1 := frozen_of_row ((((w24.setCell ⟨dd, 0, none⟩ (.int .i64 v0)).setCell ⟨dd, 1, none⟩ (.int .i64 v1)).setCell ⟨dd, 2, none⟩ (.int .i64 v2)).setCell ⟨dd, 3, none⟩ (.int .i64 v3)) w.heap.size 1 _ _ PF25
      have aq2 : ((((w24.setCell ⟨dd, 0, none⟩ (.int .i64 v0)).setCell ⟨dd, 1, none⟩ (.int .i64 v1)).setCell ⟨dd, 2, none⟩ (.int .i64 v2)).setCell ⟨dd, 3, none⟩ (.int .i64 v3)).cell? ⟨w.heap.size, 2, none⟩ = some (.int .i64 0) := by rw [cell_of_row ((((w24.setCell ⟨dd, 0, none⟩ (.int .i64 v0)).setCell ⟨dd, 1, none⟩ (.int .i64 v1)).setCell ⟨dd, 2, none⟩ (.int .i64 v2)).setCell ⟨dd, 3, none⟩ (.int .i64 v3)) _ _ _ _ _ PF25]; rfl
      have af2 := frozen_of_row ((((w24.setCell ⟨dd, 0, none⟩ (.int .i64 v0)).setCell ⟨dd, 1, none⟩ (.int .i64 v1)).setCell ⟨dd, 2, none⟩ (.int .i64 v2)).setCell ⟨dd, 3, none⟩ (.int .i64 v3)) w.heap.size 2 _ _ PF25
      have bq0 : ((((w24.setCell ⟨dd, 0, none⟩ (.int .i64 v0)).setCell ⟨dd, 1, none⟩ (.int .i64 v1)).setCell ⟨dd, 2, none⟩ (.int .i64 v2)).setCell ⟨dd, 3, none⟩ (.int .i64 v3)).cell? ⟨(w.heap.size + 1), 0, none⟩ = some (.int .i64 0) := by rw [cell_of_row ((((w24.setCell ⟨dd, 0, none⟩ (.int .i64 v0)).setCell ⟨dd, 1, none⟩ (.int .i64 v1)).setCell ⟨dd, 2, none⟩ (.int .i64 v2)).setCell ⟨dd, 3, none⟩ (.int .i64 v3)) _ _ _ _ _ PC25]; rfl
      have bf0 := frozen_of_row ((((w24.setCell ⟨dd, 0, none⟩ (.int .i64 v0)).setCell ⟨dd, 1, none⟩ (.int .i64 v1)).setCell ⟨dd, 2, none⟩ (.int .i64 v2)).setCell ⟨dd, 3, none⟩ (.int .i64 v3)) (w.heap.size + 1) 0 _ _ PC25
      have bq1 : ((((w24.setCell ⟨dd, 0, none⟩ (.int .i64 v0)).setCell ⟨dd, 1, none⟩ (.int .i64 v1)).setCell ⟨dd, 2, none⟩ (.int .i64 v2)).setCell ⟨dd, 3, none⟩ (.int .i64 v3)).cell? ⟨(w.heap.size + 1), 1, none⟩ = some (.int .i64 0) := by rw [cell_of_row ((((w24.setCell ⟨dd, 0, none⟩ (.int .i64 v0)).setCell ⟨dd, 1, none⟩ (.int .i64 v1)).setCell ⟨dd, 2, none⟩ (.int .i64 v2)).setCell ⟨dd, 3, none⟩ (.int .i64 v3)) _ _ _ _ _ PC25]; rfl
      have bf1 := frozen_of_row ((((w24.setCell ⟨dd, 0, none⟩ (.int .i64 v0)).setCell ⟨dd, 1, none⟩ (.int .i64 v1)).setCell ⟨dd, 2, none⟩ (.int .i64 v2)).setCell ⟨dd, 3, none⟩ (.int .i64 v3)) (w.heap.size + 1) 1 _ _ PC25
      have bq2 : ((((w24.setCell ⟨dd, 0, none⟩ (.int .i64 v0)).setCell ⟨dd, 1, none⟩ (.int .i64 v1)).setCell ⟨dd, 2, none⟩ (.int .i64 v2)).setCell ⟨dd, 3, none⟩ (.int .i64 v3)).cell? ⟨(w.heap.size + 1), 2, none⟩ = some (.int .i64 0) := by rw [cell_of_row ((((w24.setCell ⟨dd, 0, none⟩ (.int .i64 v0)).setCell ⟨dd, 1, none⟩ (.int .i64 v1)).setCell ⟨dd, 2, none⟩ (.int .i64 v2)).setCell ⟨dd, 3, none⟩ (.int .i64 v3)) _ _ _ _ _ PC25]; rfl
      have bf2 := frozen_of_row ((((w24.setCell ⟨dd, 0, none⟩ (.int .i64 v0)).setCell ⟨dd, 1, none⟩ (.int .i64 v1)).setCell ⟨dd, 2, none⟩ (.int .i64 v2)).setCell ⟨dd, 3, none⟩ (.int .i64 v3)) (w.heap.size + 1) 2 _ _ PC25
      have bq3 : ((((w24.setCell ⟨dd, 0, none⟩ (.int .i64 v0)).setCell ⟨dd, 1, none⟩ (.int .i64 v1)).setCell ⟨dd, 2, none⟩ (.int .i64 v2)).setCell ⟨dd, 3, none⟩ (.int .i64 v3)).cell? ⟨(w.heap.size + 1), 3, none⟩ = some (.int .i64 0) := by rw [cell_of_row ((((w24.setCell ⟨dd, 0, none⟩ (.int .i64 v0)).setCell ⟨dd, 1, none⟩ (.int .i64 v1)).setCell ⟨dd, 2, none⟩ (.int .i64 v2)).setCell ⟨dd, 3, none⟩ (.int .i64 v3)) _ _ _ _ _ PC25]; rfl
      have bf3 := frozen_of_row ((((w24.setCell ⟨dd, 0, none⟩ (.int .i64 v0)).setCell ⟨dd, 1, none⟩ (.int .i64 v1)).setCell ⟨dd, 2, none⟩ (.int .i64 v2)).setCell ⟨dd, 3, none⟩ (.int .i64 v3)) (w.heap.size + 1) 3 _ _ PC25
      have cq0 : ((((w24.setCell ⟨dd, 0, none⟩ (.int .i64 v0)).setCell ⟨dd, 1, none⟩ (.int .i64 v1)).setCell ⟨dd, 2, none⟩ (.int .i64 v2)).setCell ⟨dd, 3, none⟩ (.int .i64 v3)).cell? ⟨cc, 0, none⟩ = some (.int .i64 f0) := by rw [cell_of_row ((((w24.setCell ⟨dd, 0, none⟩ (.int .i64 v0)).setCell ⟨dd, 1, none⟩ (.int .i64 v1)).setCell ⟨dd, 2, none⟩ (.int .i64 v2)).setCell ⟨dd, 3, none⟩ (.int .i64 v3)) _ _ _ _ _ PT25]; rfl
      have cf0 := frozen_of_row ((((w24.setCell ⟨dd, 0, none⟩ (.int .i64 v0)).setCell ⟨dd, 1, none⟩ (.int .i64 v1)).setCell ⟨dd, 2, none⟩ (.int .i64 v2)).setCell ⟨dd, 3, none⟩ (.int .i64 v3)) cc 0 _ _ PT25
      have cq1 : ((((w24.setCell ⟨dd, 0, none⟩ (.int .i64 v0)).setCell ⟨dd, 1, none⟩ (.int .i64 v1)).setCell ⟨dd, 2, none⟩ (.int .i64 v2)).setCell ⟨dd, 3, none⟩ (.int .i64 v3)).cell? ⟨cc, 1, none⟩ = some (.int .i64 f1) := by rw [cell_of_row ((((w24.setCell ⟨dd, 0, none⟩ (.int .i64 v0)).setCell ⟨dd, 1, none⟩ (.int .i64 v1)).setCell ⟨dd, 2, none⟩ (.int .i64 v2)).setCell ⟨dd, 3, none⟩ (.int .i64 v3)) _ _ _ _ _ PT25]; rfl
      have cf1 := frozen_of_row ((((w24.setCell ⟨dd, 0, none⟩ (.int .i64 v0)).setCell ⟨dd, 1, none⟩ (.int .i64 v1)).setCell ⟨dd, 2, none⟩ (.int .i64 v2)).setCell ⟨dd, 3, none⟩ (.int .i64 v3)) cc 1 _ _ PT25
      have cq2 : ((((w24.setCell ⟨dd, 0, none⟩ (.int .i64 v0)).setCell ⟨dd, 1, none⟩ (.int .i64 v1)).setCell ⟨dd, 2, none⟩ (.int .i64 v2)).setCell ⟨dd, 3, none⟩ (.int .i64 v3)).cell? ⟨cc, 2, none⟩ = some (.int .i64 f2) := by rw [cell_of_row ((((w24.setCell ⟨dd, 0, none⟩ (.int .i64 v0)).setCell ⟨dd, 1, none⟩ (.int .i64 v1)).setCell ⟨dd, 2, none⟩ (.int .i64 v2)).setCell ⟨dd, 3, none⟩ (.int .i64 v3)) _ _ _ _ _ PT25]; rfl
      have cf2 := frozen_of_row ((((w24.setCell ⟨dd, 0, none⟩ (.int .i64 v0)).setCell ⟨dd, 1, none⟩ (.int .i64 v1)).setCell ⟨dd, 2, none⟩ (.int .i64 v2)).setCell ⟨dd, 3, none⟩ (.int .i64 v3)) cc 2 _ _ PT25
      have dq0 : ((((w24.setCell ⟨dd, 0, none⟩ (.int .i64 v0)).setCell ⟨dd, 1, none⟩ (.int .i64 v1)).setCell ⟨dd, 2, none⟩ (.int .i64 v2)).setCell ⟨dd, 3, none⟩ (.int .i64 v3)).cell? ⟨dd, 0, none⟩ = some (.int .i64 v0) := by rw [cell_of_row ((((w24.setCell ⟨dd, 0, none⟩ (.int .i64 v0)).setCell ⟨dd, 1, none⟩ (.int .i64 v1)).setCell ⟨dd, 2, none⟩ (.int .i64 v2)).setCell ⟨dd, 3, none⟩ (.int .i64 v3)) _ _ _ _ _ PU25]; rfl
      have df0 := frozen_of_row ((((w24.setCell ⟨dd, 0, none⟩ (.int .i64 v0)).setCell ⟨dd, 1, none⟩ (.int .i64 v1)).setCell ⟨dd, 2, none⟩ (.int .i64 v2)).setCell ⟨dd, 3, none⟩ (.int .i64 v3)) dd 0 _ _ PU25
      have dq1 : ((((w24.setCell ⟨dd, 0, none⟩ (.int .i64 v0)).setCell ⟨dd, 1, none⟩ (.int .i64 v1)).setCell ⟨dd, 2, none⟩ (.int .i64 v2)).setCell ⟨dd, 3, none⟩ (.int .i64 v3)).cell? ⟨dd, 1, none⟩ = some (.int .i64 v1) := by rw [cell_of_row ((((w24.setCell ⟨dd, 0, none⟩ (.int .i64 v0)).setCell ⟨dd, 1, none⟩ (.int .i64 v1)).setCell ⟨dd, 2, none⟩ (.int .i64 v2)).setCell ⟨dd, 3, none⟩ (.int .i64 v3)) _ _ _ _ _ PU25]; rfl
      have df1 := frozen_of_row ((((w24.setCell ⟨dd, 0, none⟩ (.int .i64 v0)).setCell ⟨dd, 1, none⟩ (.int .i64 v1)).setCell ⟨dd, 2, none⟩ (.int .i64 v2)).setCell ⟨dd, 3, none⟩ (.int .i64 v3)) dd 1 _ _ PU25
      have dq2 : ((((w24.setCell ⟨dd, 0, none⟩ (.int .i64 v0)).setCell ⟨dd, 1, none⟩ (.int .i64 v1)).setCell ⟨dd, 2, none⟩ (.int .i64 v2)).setCell ⟨dd, 3, none⟩ (.int .i64 v3)).cell? ⟨dd, 2, none⟩ = some (.int .i64 v2) := by rw [cell_of_row ((((w24.setCell ⟨dd, 0, none⟩ (.int .i64 v0)).setCell ⟨dd, 1, none⟩ (.int .i64 v1)).setCell ⟨dd, 2, none⟩ (.int .i64 v2)).setCell ⟨dd, 3, none⟩ (.int .i64 v3)) _ _ _ _ _ PU25]; rfl
      have df2 := frozen_of_row ((((w24.setCell ⟨dd, 0, none⟩ (.int .i64 v0)).setCell ⟨dd, 1, none⟩ (.int .i64 v1)).setCell ⟨dd, 2, none⟩ (.int .i64 v2)).setCell ⟨dd, 3, none⟩ (.int .i64 v3)) dd 2 _ _ PU25
      have dq3 : ((((w24.setCell ⟨dd, 0, none⟩ (.int .i64 v0)).setCell ⟨dd, 1, none⟩ (.int .i64 v1)).setCell ⟨dd, 2, none⟩ (.int .i64 v2)).setCell ⟨dd, 3, none⟩ (.int .i64 v3)).cell? ⟨dd, 3, none⟩ = some (.int .i64 v3) := by rw [cell_of_row ((((w24.setCell ⟨dd, 0, none⟩ (.int .i64 v0)).setCell ⟨dd, 1, none⟩ (.int .i64 v1)).setCell ⟨dd, 2, none⟩ (.int .i64 v2)).setCell ⟨dd, 3, none⟩ (.int .i64 v3)) _ _ _ _ _ PU25]; rfl
      have df3 := frozen_of_row ((((w24.setCell ⟨dd, 0, none⟩ (.int .i64 v0)).setCell ⟨dd, 1, none⟩ (.int .i64 v1)).setCell ⟨dd, 2, none⟩ (.int .i64 v2)).setCell ⟨dd, 3, none⟩ (.int .i64 v3)) dd 3 _ _ PU25
      clear PF25 PC25 PT25 PU25 hr25
      go_wp2
      go_region
      all_goals go_wp2
      all_goals refine bodyPost_ret (v := .tuple #[.slice A' n' c', .agg #[.int .i64 f0, .int .i64 f1, .int .i64 f2], .agg #[.int .i64 v0, .int .i64 v1, .int .i64 v2, .int .i64 v3]]) (by simp [results, Try.results36, go_sem, aq0, aq1, aq2, bq0, bq1, bq2, bq3]) rfl ⟨A', n', c', ms, f0, f1, f2, v0, v1, v2, v3, rfl, ?_, h9, ?_⟩
      all_goals with_reducible first
        | exact Rd.sets7 hA25 hAb (by omega) (by omega) _ _ _ _ _ _ _
        | exact Rd.sets7b hA25 hAb (by omega) (by omega) _ _ _ _ _ _ _
        | exact Ext.sets7 hbb25 (by omega) (by omega) _ _ _ _ _ _ _
        | exact Ext.sets7b hbb25 (by omega) (by omega) _ _ _ _ _ _ _
end Go.Proofs.Yteahiiflgiimnaa
