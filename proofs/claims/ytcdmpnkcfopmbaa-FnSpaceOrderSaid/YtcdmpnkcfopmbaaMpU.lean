/-
  DrawMapPage.
-/
import Derived.Test.YtcdmpnkcfopmbaaMpT
import Derived.Test.YtcdmpnkcfopmbaaDrC
import Derived.Test.YtcdmpnkcfopmbaaOnce2
import Derived.Deep.Cut
namespace Go.Proofs.Ytcdmpnkcfopmbaa
open Go.RowKit

def MUf (A : Option Addr) (n c : Nat) (page k o r b : Int) (g p : Nat) : Nat → Value → World → Prop
  | 0, v, _ => v = .slice A n c
  | 1, v, _ => v = .int .i64 page
  | 2, v, _ => v = .agg #[.int .i64 k, .int .i64 o, .int .i64 r, .int .i64 b]
  | 3, v, _ => v = .pointer (some ⟨g, 0, none⟩)
  | 4, v, _ => ∃ x : Int, v = .int .i64 x ∧ -1 ≤ x ∧ x ≤ 16
  | 5, v, _ => v = .slice A n c
  | 6, v, _ => v = .int .i64 page
  | 7, _, w => w.heap[p]? = some (.cells #[.int .i64 k, .int .i64 o, .int .i64 r, .int .i64 b] 53 (0, 0))
  | 8, v, _ => ∃ x : Int, v = .int .i64 x ∧ -1 ≤ x ∧ x ≤ 16
  | _, _, _ => True
theorem MUf_st (A : Option Addr) (n c : Nat) (page k o r b : Int) (g p : Nat) (hgp : p ≠ g) : ∀ i v w w', Tch w w' (· = g) → MUf A n c page k o r b g p i v w → MUf A n c page k o r b g p i v w' := by
  intro i v w w' hT h
  rcases i with _ | _ | _ | _ | _ | _ | _ | _ | _ | i
  · exact h
  · exact h
  · exact h
  · exact h
  · exact h
  · exact h
  · exact h
  · have hlt := (Array.getElem?_eq_some_iff.1 h).1
    exact (hT.block p hlt hgp).trans h
  · exact h
  · trivial
/-- The reader, and the result's own place. -/
structure MUi (w0 : World) (p g B P : Nat) (t : Nat) (w : World) : Prop where
  rd : Rdr w B g (P + 20 * t)
  tc : Tch w0 w (fun b => b = g ∨ b = p)
  res : ∃ x0 x1 x2 x3 : Int, w.heap[p]? = some (.cells #[.int .i64 x0, .int .i64 x1, .int .i64 x2, .int .i64 x3] 53 (0, 0))
theorem MUi.stay {w0 w : World} {p g B P t : Nat} (h : MUi w0 p g B P t w) : MUi w0 p g B P (t + 1) w := ⟨h.rd.more (by omega), h.tc, h.res⟩
theorem MUi.call {w0 w w' : World} {p g B P t q : Nat} (h : MUi w0 p g B P t w) (hr : Rdr w' B g (P + 20 * t + q)) (hT : Tch w w' (· = g)) (hgp : p ≠ g) (hq : q ≤ 20 := by omega) : MUi w0 p g B P (t + 1) w' := by
  refine ⟨hr.more (by omega), h.tc.trans ⟨hT.os, hT.tape, hT.output, hT.size, fun b hb hs => hT.block b hb (fun e => hs (.inl e))⟩, ?_⟩
  obtain ⟨x0, x1, x2, x3, hR⟩ := h.res
  exact ⟨x0, x1, x2, x3, (hT.block p (Array.getElem?_eq_some_iff.1 hR).1 hgp).trans hR⟩
theorem Rdr.putCap {w w' : World} {B g P p e : Nat} {y0 y1 y2 y3 : Int} (h : Rdr w B g P) (hp : p ≠ g) (hh : w.heap[p]? = some (.cells #[.int .i64 y0, .int .i64 y1, .int .i64 y2, .int .i64 y3] e (0, 0))) (hg : w.grownBy w' (some p)) : Rdr w' B g P := by
  have hl := h.lt
  obtain ⟨A, n, c, q, bs, hb, r, hn, hq, hne⟩ := h.blk
  refine ⟨h.low, A, n, c, q, bs, (hg.block g hl (fun e => by cases e; exact hp rfl)).trans hb, r.keepB fun b off e hpos hlt => hg.block b hlt (fun e2 => ?_), hn, hq, hne⟩
  cases e2
  obtain ⟨b', off', x, e', c0⟩ := r.atU hpos
  rw [e] at e'
  cases e'
  rw [cell_of_row w p _ _ _ _ hh] at c0
  generalize off + 0 = k at c0
  rcases k with _ | _ | _ | _ | k <;> simp at c0
theorem MUi.row {w0 w : World} {p g B P t c b1 : Nat} {xs : List Value} (h : MUi w0 p g B P t w) (hR : Row w0 b1 53 4 (.slice (some ⟨c, 0, none⟩) 1 1) 1 xs) (h1 : c ≠ g) (h2 : c ≠ p) : Row w b1 53 4 (.slice (some ⟨c, 0, none⟩) 1 1) 1 xs :=
  hR.keepB (fun k hk _ hlt => h.tc.block k hlt (fun e => by
    simp only [Value.ownBlock, Option.some.injEq] at hk
    rcases e with e | e <;> omega))
theorem MUi.res4 {w0 w : World} {p g B P t : Nat} {k o r b : Int} (h : MUi w0 p g B P t w) (hgp : p ≠ g) :
    (((((w.setCell ⟨p, 0, none⟩ (.int .i64 k)).setCell ⟨p, 1, none⟩ (.int .i64 o)).setCell ⟨p, 2, none⟩ (.int .i64 r)).setCell ⟨p, 3, none⟩ (.int .i64 b)).heap[p]? = some (.cells #[.int .i64 k, .int .i64 o, .int .i64 r, .int .i64 b] 53 (0, 0))) ∧
    MUi w0 p g B P (t + 1) ((((w.setCell ⟨p, 0, none⟩ (.int .i64 k)).setCell ⟨p, 1, none⟩ (.int .i64 o)).setCell ⟨p, 2, none⟩ (.int .i64 r)).setCell ⟨p, 3, none⟩ (.int .i64 b)) := by
  have hg := grown_set (p := ⟨p, 3, none⟩) (g := p) (grown_set (p := ⟨p, 2, none⟩) (g := p) (grown_set (p := ⟨p, 1, none⟩) (g := p) (grown_set (p := ⟨p, 0, none⟩) (g := p) (World.grownBy.refl w _) rfl (.int .i64 k)) rfl (.int .i64 o)) rfl (.int .i64 r)) rfl (.int .i64 b)
  obtain ⟨x0, x1, x2, x3, hR⟩ := h.res
  have h1 := heap_setCell_same w p 0 _ _ (.int .i64 k) hR
  have h2 := heap_setCell_same _ p 1 _ _ (.int .i64 o) h1
  have h3 := heap_setCell_same _ p 2 _ _ (.int .i64 r) h2
  have h4 := heap_setCell_same _ p 3 _ _ (.int .i64 b) h3
  exact ⟨h4, (h.rd.putCap hgp hR hg).more (by omega), h.tc.trans ⟨hg.os, hg.tape, hg.output, hg.size, fun b hb hs => hg.block b hb (fun e => hs (.inr (by cases e; rfl)))⟩, k, o, r, b, h4⟩

set_option maxHeartbeats 4000000 in
set_option maxRecDepth 100000 in
theorem DrawMapPage_any (A : Option Addr) (n c : Nat) (bs : List UInt8) (w : World) (h : Rd w 1 A n c (cU bs)) :
    Calls Try.prog 40 #[.slice A n c] w fun e w' => ∃ A' n' c' ms, ∃ page k o r b u : Int, e = .returned (.tuple #[.slice A' n' c', .int .i64 page, .agg #[.int .i64 k, .int .i64 o, .int .i64 r, .int .i64 b], .int .i64 u]) ∧ Rd w' 3 A' n' c' (c3 ms) ∧ n' ≤ 22 ∧ Ext w w' := by
  obtain ⟨W0, hW0⟩ : ∃ W0, W0 = (w.alloc (.cells #[.int .i64 0, .int .i64 0, .int .i64 0, .int .i64 0] 53)) := ⟨_, rfl⟩
  have hb0 : Ext w W0 := by rw [hW0]; exact (Below.refl _ _).alloc (Nat.le_refl _) _
  have P0 : W0.heap[w.heap.size]? = some (.cells #[.int .i64 0, .int .i64 0, .int .i64 0, .int .i64 0] 53 (0, 0)) := by rw [hW0]; exact heap_alloc_new w _
  have h0 := h.below hb0
  have hs0 : W0.heap.size = w.heap.size + 1 := by rw [hW0]; simp
  clear h
  go_enter Try.func40, Try.ntmps40
  go_wp2_with fail
  rw [← hW0]
  refine (l20Open_any _ _ _ _ _ h0).mono ?_; rintro e w1 ⟨rfl, hr1, hb1⟩
  obtain ⟨g, hg⟩ : ∃ g, W0.heap.size = g := ⟨_, rfl⟩
  rw [hg] at hr1 ⊢
  have hgp : w.heap.size ≠ g := by omega
  have P1 := (hb1.block _ (Array.getElem?_eq_some_iff.1 P0).1).trans P0
  have hbb := hb0.trans hb1
  have hsz1 : g + 1 ≤ w1.heap.size := by have := hr1.lt; omega
  clear hW0 h0 P0 hb0 hb1
  go_wp2_with fail
  refine (l20Space_any _ _ _ _ _ hr1 hsz1 (by omega) (by omega) (by omega)).mono ?_; rintro e w2 ⟨A', n', c', ms, rfl, hA2, h9, hr2, ht2⟩
  have P2 := (ht2.block _ (Array.getElem?_eq_some_iff.1 P1).1 hgp).trans P1
  have hbb2 := ext_tch hbb ht2 (fun k e => by omega)
  have hgw1 : g < w1.heap.size := hr1.lt
  clear hr1 P1 hbb ht2
  go_wp2_with fail
  refine (pickT _ _ _ _ _ hr2 (by omega) (by omega) (by omega)).mono ?_; rintro e w3 ⟨z, hz, rfl, hr3, ht3⟩
  have hA3 := hA2.pastT ht3 (fun k e => by subst e; exact hgw1)
  have P3 := (ht3.block _ (Array.getElem?_eq_some_iff.1 P2).1 hgp).trans P2
  have hbb3 := ext_tch hbb2 ht3 (fun k e => by omega)
  clear hr2 hA2 P2 hbb2 ht3
  have hn3 : ¬ w3.heap.size = g := by have := hr3.lt; omega
  have hn4 : ¬ w3.heap.size + 1 = g := by have := hr3.lt; omega
  obtain ⟨W4, hW4⟩ : ∃ W4, W4 = (w3.alloc (.cells #[.int .i64 (z : Int), .int .i64 (-1), .int .i64 256] 3)).alloc (.cells #[.int .i64 0, .int .i64 0, .int .i64 0, .int .i64 0, .int .i64 0, .int .i64 1, .int .i64 2] 3) := ⟨_, rfl⟩
  have he4 : Ext w3 W4 := by rw [hW4]; exact ((Below.refl _ _).alloc (Nat.le_refl _) _).alloc (by simp) _
  have L3 : ∀ i, i < 3 → ∃ x : Int, (-1 ≤ x ∧ x ≤ 256) ∧ W4.cell? ⟨w3.heap.size, i, none⟩ = some (.int .i64 x) := fun i hi => by
    obtain ⟨x, hx, hc⟩ := lit_all (w := w3) (e := 3) (lo := -1) (hi := 256) [(z : Int), -1, 256] (by simp only [List.mem_cons, List.not_mem_nil, or_false]; omega) rfl i hi
    refine ⟨x, hx, ?_⟩
    rw [hW4]
    exact later_cell hc ⟨_, (Below.refl _ _).alloc (Nat.le_refl _) _⟩
  have L7 : ∀ i, i < 7 → ∃ x : Int, (0 ≤ x ∧ x ≤ 2) ∧ W4.cell? ⟨w3.heap.size + 1, i, none⟩ = some (.int .i64 x) := fun i hi => by
    rw [hW4]
    exact lit_all (w := w3.alloc (.cells #[.int .i64 (z : Int), .int .i64 (-1), .int .i64 256] 3)) (e := 3) (lo := 0) (hi := 2) [0, 0, 0, 0, 0, 1, 2] (by simp only [List.mem_cons, List.not_mem_nil, or_false]; omega) (by simp) i hi
  have hr4 := hr3.keep he4
  have hA4 := hA3.below he4
  have P4 := (he4.block _ (Array.getElem?_eq_some_iff.1 P3).1).trans P3
  have hbb4 := hbb3.trans he4
  clear hr3 hA3 P3 hbb3 he4
  go_wp2_with fail
  rw [← hW4]
  refine (pickT _ _ _ _ _ hr4 (by omega) (by omega) (by omega)).mono ?_; rintro e w5 ⟨y, hy, rfl, hr5, ht5⟩
  obtain ⟨x7, ⟨x70, x72⟩, hc7⟩ := L7 y (by omega)
  obtain ⟨page, _, hc3⟩ := L3 x7.toNat (by omega)
  have c7 := ht5.cell hc7 hn4
  have c3' := ht5.cell hc3 hn3
  have z1 : x7 < 3 := by omega
  have hA5 := hA4.pastT ht5 (fun k e => by subst e; exact hgw1)
  have P5 := (ht5.block _ (Array.getElem?_eq_some_iff.1 P4).1 hgp).trans P4
  have hbb5 := ext_tch hbb4 ht5 (fun k e => by omega)
  clear hr4 hA4 P4 hbb4 ht5 L3 L7 hc7 hc3 hn3 hn4 hW4
  go_wp2_with fail
  refine (pickT _ _ _ _ _ hr5 (by omega) (by omega) (by omega)).mono ?_; rintro e w6 ⟨z6, hz6, rfl, hr6, ht6⟩
  have hA6 := hA5.pastT ht6 (fun k e => by subst e; exact hgw1)
  have P6 := (ht6.block _ (Array.getElem?_eq_some_iff.1 P5).1 hgp).trans P5
  have hbb6 := ext_tch hbb5 ht6 (fun k e => by omega)
  clear hr5 hA5 P5 hbb5 ht6 c7 c3'
  go_wp2_with fail
  refine (pickT _ _ _ _ _ hr6 (by omega) (by omega) (by omega)).mono ?_; rintro e w7 ⟨z7, hz7, rfl, hr7, ht7⟩
  have hA7 := hA6.pastT ht7 (fun k e => by subst e; exact hgw1)
  have P7 := (ht7.block _ (Array.getElem?_eq_some_iff.1 P6).1 hgp).trans P6
  have hbb7 := ext_tch hbb6 ht7 (fun k e => by omega)
  have hlt7 := hr7.lt
  have hplt := (Array.getElem?_eq_some_iff.1 P7).1
  clear hr6 hA6 P6 hbb6 ht7
  have ha : Ext w7 (w7.alloc (.cells #[.int .i64 6, .int .i64 z6, .int .i64 z7, .int .i64 0] 53)) := (Below.refl _ _).alloc (Nat.le_refl _) _
  have own8 : Row (w7.alloc (.cells #[.int .i64 6, .int .i64 z6, .int .i64 z7, .int .i64 0] 53)) w7.heap.size 53 4 (.slice (some ⟨w7.heap.size, 0, none⟩) 1 1) 1 (c4 [(6, (z6 : Int), (z7 : Int), 0)]) := Row.lit (w := w7) (n := 1) #[.int .i64 6, .int .i64 z6, .int .i64 z7, .int .i64 0] rfl (by unfold maxLen; omega) (Nat.le_refl _)
  have hr8 := hr7.keep ha
  have hA8 := hA7.below ha
  have P8 := (ha.block _ hplt).trans P7
  have hbb8 := hbb7.trans ha
  clear hr7 P7 hbb7 ha
  obtain ⟨cc, hcc⟩ : ∃ cc, w7.heap.size = cc := ⟨_, rfl⟩
  have hcg : cc ≠ g := by omega
  have hcp : cc ≠ w.heap.size := by omega
  have hAb : ∀ b off, A' = some ⟨b, off, none⟩ → 0 < n' → w1.heap.size ≤ b ∧ b < cc := fun b off e hpos => by
    obtain ⟨g', e', hB', hlt', _⟩ := hA7.form hpos
    rw [e'] at e
    cases e
    exact ⟨hB', by omega⟩
  clear hA7
  go_wp2_with fail
  refine (oddT _ _ _ _ _ hr8 (by omega) (by omega) (by omega)).mono ?_; rintro e w9 ⟨t, rfl, _, hr9, ht9⟩
  have hA9 := (hA8.pastT ht9 (fun k e => by subst e; exact hgw1)).rd'.2
  have P9 := (ht9.block _ (Array.getElem?_eq_some_iff.1 P8).1 hgp).trans P8
  have hbb9 := ext_tch hbb8 ht9 (fun k e => by omega)
  have own9 : Row w9 w7.heap.size 53 4 (.slice (some ⟨cc, 0, none⟩) 1 1) 1 (c4 [(6, (z6 : Int), (z7 : Int), 0)]) := by
    rw [← hcc]
    exact own8.only ht9 (fun k e => by subst e; exact hlt7)
  have hgc9 : g < cc := by omega
  clear hr8 hA8 P8 hbb8 ht9 own8
  cases t
  · have hown := own9
    have hAW := hA9
    have hbW := hbb9
    have hrW := hr9
    have RW : w9.drew.heap[w.heap.size]? = some (.cells #[.int .i64 0, .int .i64 0, .int .i64 0, .int .i64 0] 53 (0, 0)) := P9
    clear own9 hA9 hbb9 hr9 P9
    go_upto_region 7 with fail
    refine wp_region_once2S (fun a b => Tch a b (· = g)) (MUf A' n' c' page 6 (z6 : Int) (z7 : Int) 0 g w.heap.size) (fun _ => none) (MUi w9 w.heap.size g (g + 1) 500) (by kernel_rfl) (by kernel_rfl) (by rfl) ⟨(hrW.keep ((Below.refl _ _).drew)).more (by omega), Tch.ext ((Below.refl _ _).drew), _, _, _, _, RW⟩ (MUf_st _ _ _ _ _ _ _ _ _ _ hgp) ?_ ?_
    · refine ⟨?_, ?_, ?_, ?_, ?_, ?_, ?_, ?_, ?_, trivial⟩
      · intro t d a_ vs wt ht hI hdi hW hcl hD hA K hK
        have a7 : a_.tmps[7]?.getD undef = Value.slice A' n' c' := hA 7
        clear hA hD hW hcl
        go_simp
        exact hK _ _ rfl (.inl (Tch.refl _ _)) hI.stay
      · intro t d a_ vs wt ht hI hdi hW hcl hD hA K hK
        have a8 : a_.tmps[8]?.getD undef = Value.int .i64 page := hA 8
        clear hA hD hW hcl
        go_simp
        exact hK _ _ rfl (.inl (Tch.refl _ _)) hI.stay
      · intro t d a_ vs wt ht hI hdi hW hcl hD hA K hK
        have a9 : a_.tmps[9]?.getD undef = Value.pointer (some ⟨cc, 0, none⟩) := hA 9
        obtain ⟨_, _, _, _, X, q0, q1, q2, q3⟩ := own4_at (hI.row hown hcg hcp) (Nat.lt_succ_self 0)
        have X' := X.out
        simp only [List.getElem?_cons_zero, Option.some.injEq, Prod.mk.injEq] at X'
        obtain ⟨rfl, rfl, rfl, rfl⟩ := X'
        simp only [Nat.zero_mul, Nat.zero_add] at q0 q1 q2 q3
        clear hA hD hW hcl X
        go_simp
        exact hK _ _ rfl (.inl (Tch.refl _ _)) hI.stay
      · intro t d a_ vs wt ht hI hdi hW hcl hD hA K hK
        have a6 : a_.tmps[6]?.getD undef = Value.pointer (some ⟨g, 0, none⟩) := hA 6
        clear hA hD hW hcl
        go_simp
        exact hK _ _ rfl (.inl (Tch.refl _ _)) hI.stay
      · intro t d a_ vs wt ht hI hdi hW hcl hD hA K hK
        have d3 : vs 3 = Value.pointer (some ⟨g, 0, none⟩) := hD 3 rfl (fun c h => by cases h)
        have a36 : a_.tmps[36]?.getD undef = vs 3 := hA 36
        rw [d3] at a36
        clear hA hD hW hcl
        go_simp
        refine (l20Rights_any _ _ _ _ _ hI.rd (by omega) (by omega) (by have : t < 9 := ht; omega)).mono ?_; rintro e w2 ⟨x, rfl, hx0, hx1, _, hr, hT⟩
        exact hK _ _ ⟨_, rfl, hx0, hx1⟩ (.inl hT) (hI.call hr hT hgp)
      · intro t d a_ vs wt ht hI hdi hW hcl hD hA K hK
        have d0 : vs 0 = Value.slice A' n' c' := hD 0 rfl (fun c h => by cases h)
        have a33 : a_.tmps[33]?.getD undef = vs 0 := hA 33
        rw [d0] at a33
        clear hA hD hW hcl
        go_simp
        exact hK _ _ rfl (.inl (Tch.refl _ _)) hI.stay
      · intro t d a_ vs wt ht hI hdi hW hcl hD hA K hK
        have d1 : vs 1 = Value.int .i64 page := hD 1 rfl (fun c h => by cases h)
        have a34 : a_.tmps[34]?.getD undef = vs 1 := hA 34
        rw [d1] at a34
        clear hA hD hW hcl
        go_simp
        exact hK _ _ rfl (.inl (Tch.refl _ _)) hI.stay
      · intro t d a_ vs wt ht hI hdi hW hcl hD hA K hK
        have d2 : vs 2 = Value.agg #[.int .i64 6, .int .i64 (z6 : Int), .int .i64 (z7 : Int), .int .i64 0] := hD 2 rfl (fun c h => by cases h)
        have a35 : a_.tmps[35]?.getD undef = vs 2 := hA 35
        rw [d2] at a35
        have a4 : a_.tmps[4]?.getD undef = Value.pointer (some ⟨w.heap.size, 0, none⟩) := hA 4
        obtain ⟨y0, y1, y2, y3, hRR⟩ := hI.res
        have q0 : wt.cell? ⟨w.heap.size, 0, none⟩ = some (.int .i64 y0) := by rw [cell_of_row wt _ _ _ _ _ hRR]; rfl
        have q1 : wt.cell? ⟨w.heap.size, 1, none⟩ = some (.int .i64 y1) := by rw [cell_of_row wt _ _ _ _ _ hRR]; rfl
        have q2 : wt.cell? ⟨w.heap.size, 2, none⟩ = some (.int .i64 y2) := by rw [cell_of_row wt _ _ _ _ _ hRR]; rfl
        have q3 : wt.cell? ⟨w.heap.size, 3, none⟩ = some (.int .i64 y3) := by rw [cell_of_row wt _ _ _ _ _ hRR]; rfl
        have f0 := frozen_of_row wt w.heap.size 0 _ _ hRR
        have f1 := frozen_of_row wt w.heap.size 1 _ _ hRR
        have f2 := frozen_of_row wt w.heap.size 2 _ _ hRR
        have f3 := frozen_of_row wt w.heap.size 3 _ _ hRR
        have HS := Lib.hid (hI.res4 (k := 6) (o := (z6 : Int)) (r := (z7 : Int)) (b := 0) hgp)
        clear hA hD hW hRR
        go_simp
        refine hK (.tuple #[]) _ HS.out.1 (.inr fun k hk hdk hal hne hGk => ?_) HS.out.2
        have hdi' : d 7 = false := hdi
        rcases k with _ | _ | _ | _ | _ | _ | _ | _ | _ | k
        · exact hGk
        · exact hGk
        · exact hGk
        · exact hGk
        · exact hGk
        · exact hGk
        · exact hGk
        · have h9 : d 7 = true := hdk
          rw [hdi'] at h9; cases h9
        · exact hGk
        · trivial
      · intro t d a_ vs wt ht hI hdi hW hcl hD hA K hK
        obtain ⟨x4, d4, hx0, hx1⟩ := hD 4 rfl (fun c h => by cases h)
        have a37 : a_.tmps[37]?.getD undef = vs 4 := hA 37
        rw [d4] at a37
        clear hA hD hW hcl
        go_simp
        exact hK _ _ ⟨_, rfl, hx0, hx1⟩ (.inl (Tch.refl _ _)) hI.stay
    · intro t vs wz ht hI hF
      obtain ⟨f0, f1, f2, f3, f4, f5, f6, f7, f8, -⟩ := hF
      have e5 : vs 5 = Value.slice A' n' c' := f5 rfl
      have e6 : vs 6 = Value.int .i64 page := f6 rfl
      obtain ⟨u, e8, hu0, hu1⟩ := f8 rfl
      have R7 : wz.heap[w.heap.size]? = some (.cells #[.int .i64 6, .int .i64 (z6 : Int), .int .i64 (z7 : Int), .int .i64 0] 53 (0, 0)) := f7 rfl
      have q0 : wz.cell? ⟨w.heap.size, 0, none⟩ = some (.int .i64 6) := by rw [cell_of_row wz _ _ _ _ _ R7]; rfl
      have q1 : wz.cell? ⟨w.heap.size, 1, none⟩ = some (.int .i64 (z6 : Int)) := by rw [cell_of_row wz _ _ _ _ _ R7]; rfl
      have q2 : wz.cell? ⟨w.heap.size, 2, none⟩ = some (.int .i64 (z7 : Int)) := by rw [cell_of_row wz _ _ _ _ _ R7]; rfl
      have q3 : wz.cell? ⟨w.heap.size, 3, none⟩ = some (.int .i64 0) := by rw [cell_of_row wz _ _ _ _ _ R7]; rfl
      simp only [putAll, Act.put, List.setIfInBounds_toArray, List.set_cons_zero, List.set_cons_succ]
      rw [show vs 5 = _ from e5, show vs 6 = _ from e6, show vs 8 = _ from e8]
      have hTz := hI.tc
      clear f0 f1 f2 f3 f4 f5 f6 f7 f8 R7
      go_wp2
      refine bodyPost_ret (v := .tuple #[.slice A' n' c', .int .i64 page, .agg #[.int .i64 6, .int .i64 (z6 : Int), .int .i64 (z7 : Int), .int .i64 0], .int .i64 u]) (by simp [results, Try.results40, go_sem, q0, q1, q2, q3]) rfl ?_
      exact ⟨_, _, _, _, _, _, _, _, _, _, rfl, hAW.keepB (fun b off e hpos hlt => hTz.block b hlt (fun e2 => by have := hAb b off e hpos; rcases e2 with e2 | e2 <;> omega)), h9, ext_tch hbW hTz (fun k e => by rcases e with e | e <;> omega)⟩
  · have hs9 := hr9.lt
    go_wp2_with fail
    refine (l20Cap_any _ _ _ _ _ hr9 (by omega) (by omega) (by omega) (by omega)).mono ?_; rintro e w10 ⟨k1, o1, r1, b1, rfl, hr10, ht10⟩
    have hA10 := hA9.keepB (w' := w10) (fun b off e hpos hlt => ht10.block b hlt (fun e2 => by have := hAb b off e hpos; omega))
    have P10 := (ht10.block _ (Array.getElem?_eq_some_iff.1 P9).1 hgp).trans P9
    have hbb10 := ext_tch hbb9 ht10 (fun k e => by omega)
    have own10 := own9.only ht10 (fun k e => by subst e; omega)
    clear hr9 hA9 P9 hbb9 ht10 own9
    obtain ⟨_, _, _, _, _, q0, q1, q2, q3⟩ := own4_at own10 (Nat.lt_succ_self 0)
    have f0 := own10.frozenAt 0
    have f1 := own10.frozenAt 1
    have f2 := own10.frozenAt 2
    have f3 := own10.frozenAt 3
    have hown := own4_set own10 (Nat.lt_succ_self 0) k1 o1 r1 b1
    simp only [Nat.zero_mul, Nat.zero_add] at q0 q1 q2 q3 hown
    replace hown : Row ((((w10.setCell ⟨cc, 0, none⟩ (.int .i64 k1)).setCell ⟨cc, 1, none⟩ (.int .i64 o1)).setCell ⟨cc, 2, none⟩ (.int .i64 r1)).setCell ⟨cc, 3, none⟩ (.int .i64 b1)) w7.heap.size 53 4 (.slice (some ⟨cc, 0, none⟩) 1 1) 1 (c4 [(k1, o1, r1, b1)]) := hown
    have hgs := grown_set (p := ⟨cc, 3, none⟩) (g := cc) (grown_set (p := ⟨cc, 2, none⟩) (g := cc) (grown_set (p := ⟨cc, 1, none⟩) (g := cc) (grown_set (p := ⟨cc, 0, none⟩) (g := cc) (World.grownBy.refl w10 _) rfl (.int .i64 k1)) rfl (.int .i64 o1)) rfl (.int .i64 r1)) rfl (.int .i64 b1)
    have hrW := hr10.past hgs (fun k e => by cases e; exact hgc9)
    have hAW := hA10.keepB (fun b off e hpos hlt => hgs.block b hlt (fun e2 => by cases e2; have := hAb _ off e hpos; omega))
    have hbW := ext_grown hbb10 hgs (fun k e => by cases e; omega)
    have RW : ((((w10.setCell ⟨cc, 0, none⟩ (.int .i64 k1)).setCell ⟨cc, 1, none⟩ (.int .i64 o1)).setCell ⟨cc, 2, none⟩ (.int .i64 r1)).setCell ⟨cc, 3, none⟩ (.int .i64 b1)).drew.heap[w.heap.size]? = some (.cells #[.int .i64 0, .int .i64 0, .int .i64 0, .int .i64 0] 53 (0, 0)) := (hgs.block _ (Array.getElem?_eq_some_iff.1 P10).1 (fun e => by cases e; exact hcp rfl)).trans P10
    have HOWN := Lib.hid hown
    have HRW := Lib.hid RW
    have HAW := Lib.hid hAW
    have HBW := Lib.hid hbW
    have HRR := Lib.hid hrW
    clear hown RW hAW hbW hrW hgs hr10 hA10 P10 hbb10 own10
    go_upto_region 7 with fail
    have hown := HOWN.out
    have RW := HRW.out
    have hAW := HAW.out
    have hbW := HBW.out
    have hrW := HRR.out
    refine wp_region_once2S (fun a b => Tch a b (· = g)) (MUf A' n' c' page k1 o1 r1 b1 g w.heap.size) (fun _ => none) (MUi ((((w10.setCell ⟨cc, 0, none⟩ (.int .i64 k1)).setCell ⟨cc, 1, none⟩ (.int .i64 o1)).setCell ⟨cc, 2, none⟩ (.int .i64 r1)).setCell ⟨cc, 3, none⟩ (.int .i64 b1)) w.heap.size g (g + 1) 500) (by kernel_rfl) (by kernel_rfl) (by rfl) ⟨(hrW.keep ((Below.refl _ _).drew)).more (by omega), Tch.ext ((Below.refl _ _).drew), _, _, _, _, RW⟩ (MUf_st _ _ _ _ _ _ _ _ _ _ hgp) ?_ ?_
    · refine ⟨?_, ?_, ?_, ?_, ?_, ?_, ?_, ?_, ?_, trivial⟩
      · intro t d a_ vs wt ht hI hdi hW hcl hD hA K hK
        have a7 : a_.tmps[7]?.getD undef = Value.slice A' n' c' := hA 7
        clear hA hD hW hcl
        go_simp
        exact hK _ _ rfl (.inl (Tch.refl _ _)) hI.stay
      · intro t d a_ vs wt ht hI hdi hW hcl hD hA K hK
        have a8 : a_.tmps[8]?.getD undef = Value.int .i64 page := hA 8
        clear hA hD hW hcl
        go_simp
        exact hK _ _ rfl (.inl (Tch.refl _ _)) hI.stay
      · intro t d a_ vs wt ht hI hdi hW hcl hD hA K hK
        have a9 : a_.tmps[9]?.getD undef = Value.pointer (some ⟨cc, 0, none⟩) := hA 9
        obtain ⟨_, _, _, _, X, q0, q1, q2, q3⟩ := own4_at (hI.row hown hcg hcp) (Nat.lt_succ_self 0)
        have X' := X.out
        simp only [List.getElem?_cons_zero, Option.some.injEq, Prod.mk.injEq] at X'
        obtain ⟨rfl, rfl, rfl, rfl⟩ := X'
        simp only [Nat.zero_mul, Nat.zero_add] at q0 q1 q2 q3
        clear hA hD hW hcl X
        go_simp
        exact hK _ _ rfl (.inl (Tch.refl _ _)) hI.stay
      · intro t d a_ vs wt ht hI hdi hW hcl hD hA K hK
        have a6 : a_.tmps[6]?.getD undef = Value.pointer (some ⟨g, 0, none⟩) := hA 6
        clear hA hD hW hcl
        go_simp
        exact hK _ _ rfl (.inl (Tch.refl _ _)) hI.stay
      · intro t d a_ vs wt ht hI hdi hW hcl hD hA K hK
        have d3 : vs 3 = Value.pointer (some ⟨g, 0, none⟩) := hD 3 rfl (fun c h => by cases h)
        have a36 : a_.tmps[36]?.getD undef = vs 3 := hA 36
        rw [d3] at a36
        clear hA hD hW hcl
        go_simp
        refine (l20Rights_any _ _ _ _ _ hI.rd (by omega) (by omega) (by have : t < 9 := ht; omega)).mono ?_; rintro e w2 ⟨x, rfl, hx0, hx1, _, hr, hT⟩
        exact hK _ _ ⟨_, rfl, hx0, hx1⟩ (.inl hT) (hI.call hr hT hgp)
      · intro t d a_ vs wt ht hI hdi hW hcl hD hA K hK
        have d0 : vs 0 = Value.slice A' n' c' := hD 0 rfl (fun c h => by cases h)
        have a33 : a_.tmps[33]?.getD undef = vs 0 := hA 33
        rw [d0] at a33
        clear hA hD hW hcl
        go_simp
        exact hK _ _ rfl (.inl (Tch.refl _ _)) hI.stay
      · intro t d a_ vs wt ht hI hdi hW hcl hD hA K hK
        have d1 : vs 1 = Value.int .i64 page := hD 1 rfl (fun c h => by cases h)
        have a34 : a_.tmps[34]?.getD undef = vs 1 := hA 34
        rw [d1] at a34
        clear hA hD hW hcl
        go_simp
        exact hK _ _ rfl (.inl (Tch.refl _ _)) hI.stay
      · intro t d a_ vs wt ht hI hdi hW hcl hD hA K hK
        have d2 : vs 2 = Value.agg #[.int .i64 k1, .int .i64 o1, .int .i64 r1, .int .i64 b1] := hD 2 rfl (fun c h => by cases h)
        have a35 : a_.tmps[35]?.getD undef = vs 2 := hA 35
        rw [d2] at a35
        have a4 : a_.tmps[4]?.getD undef = Value.pointer (some ⟨w.heap.size, 0, none⟩) := hA 4
        obtain ⟨y0, y1, y2, y3, hRR⟩ := hI.res
        have q0 : wt.cell? ⟨w.heap.size, 0, none⟩ = some (.int .i64 y0) := by rw [cell_of_row wt _ _ _ _ _ hRR]; rfl
        have q1 : wt.cell? ⟨w.heap.size, 1, none⟩ = some (.int .i64 y1) := by rw [cell_of_row wt _ _ _ _ _ hRR]; rfl
        have q2 : wt.cell? ⟨w.heap.size, 2, none⟩ = some (.int .i64 y2) := by rw [cell_of_row wt _ _ _ _ _ hRR]; rfl
        have q3 : wt.cell? ⟨w.heap.size, 3, none⟩ = some (.int .i64 y3) := by rw [cell_of_row wt _ _ _ _ _ hRR]; rfl
        have f0 := frozen_of_row wt w.heap.size 0 _ _ hRR
        have f1 := frozen_of_row wt w.heap.size 1 _ _ hRR
        have f2 := frozen_of_row wt w.heap.size 2 _ _ hRR
        have f3 := frozen_of_row wt w.heap.size 3 _ _ hRR
        have HS := Lib.hid (hI.res4 (k := k1) (o := o1) (r := r1) (b := b1) hgp)
        clear hA hD hW hRR
        go_simp
        refine hK (.tuple #[]) _ HS.out.1 (.inr fun k hk hdk hal hne hGk => ?_) HS.out.2
        have hdi' : d 7 = false := hdi
        rcases k with _ | _ | _ | _ | _ | _ | _ | _ | _ | k
        · exact hGk
        · exact hGk
        · exact hGk
        · exact hGk
        · exact hGk
        · exact hGk
        · exact hGk
        · have h9 : d 7 = true := hdk
          rw [hdi'] at h9; cases h9
        · exact hGk
        · trivial
      · intro t d a_ vs wt ht hI hdi hW hcl hD hA K hK
        obtain ⟨x4, d4, hx0, hx1⟩ := hD 4 rfl (fun c h => by cases h)
        have a37 : a_.tmps[37]?.getD undef = vs 4 := hA 37
        rw [d4] at a37
        clear hA hD hW hcl
        go_simp
        exact hK _ _ ⟨_, rfl, hx0, hx1⟩ (.inl (Tch.refl _ _)) hI.stay
    · intro t vs wz ht hI hF
      obtain ⟨f0, f1, f2, f3, f4, f5, f6, f7, f8, -⟩ := hF
      have e5 : vs 5 = Value.slice A' n' c' := f5 rfl
      have e6 : vs 6 = Value.int .i64 page := f6 rfl
      obtain ⟨u, e8, hu0, hu1⟩ := f8 rfl
      have R7 : wz.heap[w.heap.size]? = some (.cells #[.int .i64 k1, .int .i64 o1, .int .i64 r1, .int .i64 b1] 53 (0, 0)) := f7 rfl
      have q0 : wz.cell? ⟨w.heap.size, 0, none⟩ = some (.int .i64 k1) := by rw [cell_of_row wz _ _ _ _ _ R7]; rfl
      have q1 : wz.cell? ⟨w.heap.size, 1, none⟩ = some (.int .i64 o1) := by rw [cell_of_row wz _ _ _ _ _ R7]; rfl
      have q2 : wz.cell? ⟨w.heap.size, 2, none⟩ = some (.int .i64 r1) := by rw [cell_of_row wz _ _ _ _ _ R7]; rfl
      have q3 : wz.cell? ⟨w.heap.size, 3, none⟩ = some (.int .i64 b1) := by rw [cell_of_row wz _ _ _ _ _ R7]; rfl
      simp only [putAll, Act.put, List.setIfInBounds_toArray, List.set_cons_zero, List.set_cons_succ]
      rw [show vs 5 = _ from e5, show vs 6 = _ from e6, show vs 8 = _ from e8]
      have hTz := hI.tc
      clear f0 f1 f2 f3 f4 f5 f6 f7 f8 R7
      go_wp2
      refine bodyPost_ret (v := .tuple #[.slice A' n' c', .int .i64 page, .agg #[.int .i64 k1, .int .i64 o1, .int .i64 r1, .int .i64 b1], .int .i64 u]) (by simp [results, Try.results40, go_sem, q0, q1, q2, q3]) rfl ?_
      exact ⟨_, _, _, _, _, _, _, _, _, _, rfl, hAW.keepB (fun b off e hpos hlt => hTz.block b hlt (fun e2 => by have := hAb b off e hpos; rcases e2 with e2 | e2 <;> omega)), h9, ext_tch hbW hTz (fun k e => by rcases e with e | e <;> omega)⟩
end Go.Proofs.Ytcdmpnkcfopmbaa
