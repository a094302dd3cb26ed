/-
  The messages that the reference draws for ReadFault.
-/
import Derived.Test.YteahiiflgiimnaaDrF
import Derived.Test.YteahiiflgiimnaaMsA
import Derived.Test.YteahiiflgiimnaaOnce4
import Derived.Test.YteahiiflgiimnaaOpen
import Derived.Deep.Cut
namespace Go.Proofs.Yteahiiflgiimnaa
open Go.RowKit

set_option maxHeartbeats 4000000 in
set_option maxRecDepth 100000 in
theorem l20Fault0_any (B g p : Nat) (w : World) (h : Rdr w B g p) (hB : B ≤ w.heap.size) (hp : p ≤ 800000) :
    Calls Try.prog 79 #[.pointer (some ⟨g, 0, none⟩), .int .i64 0] w fun e w' => ∃ k a m : Int, e = .returned (.agg #[.int .i64 k, .int .i64 a, .int .i64 m]) ∧ toldB k a m = true ∧ Rdr w' B g (p + 100) ∧ Tch w w' (· = g) := by
  have hgB := h.low
  have hgw : g < w.heap.size := Nat.lt_of_lt_of_le hgB hB
  have hal0 : Ext w (w.alloc (.cells #[.int .i64 0, .int .i64 0, .int .i64 0] 32)) := (Below.refl _ _).alloc (Nat.le_refl _) _
  have R0 : Row (w.alloc (.cells #[.int .i64 0, .int .i64 0, .int .i64 0] 32)) w.heap.size 32 3 (.slice (some ⟨w.heap.size, 0, none⟩) 1 1) 1 (c3 [(0, 0, 0)]) := Row.lit (w := w) (n := 1) #[.int .i64 0, .int .i64 0, .int .i64 0] rfl (by unfold maxLen; omega) (Nat.le_refl _)
  have hr0 := h.keep hal0
  have hT0 : Tch w (w.alloc (.cells #[.int .i64 0, .int .i64 0, .int .i64 0] 32)) (· = g) := Tch.ext hal0
  clear h hal0
  go_enter Try.func79, Try.ntmps79
  go_wp2_with fail
  refine (pickT _ _ _ _ _ hr0 (by omega) (by omega) (by omega)).mono ?_; rintro e w1 ⟨z1, hz1, rfl, hr1, ht1⟩
  have R1 := R0.only ht1 (fun k e => by subst e; exact hgw)
  have hT1 := hT0.trans ht1
  clear R0 hT0 hr0 ht1
  go_wp2_with fail
  refine (l20Address_any _ _ _ _ _ hr1 (by omega) (by omega) (by omega)).mono ?_; rintro e w2 ⟨a, rfl, _, _, haz, hr2, ht2⟩
  have R2 := R1.only ht2 (fun k e => by subst e; exact hgw)
  have hT2 := hT1.trans ht2
  clear R1 hT1 hr1 ht2
  have ha : Ext w2 (w2.alloc (.cells #[.int .i64 1, .int .i64 2, .int .i64 3] 3)) := (Below.refl _ _).alloc (Nat.le_refl _) _
  have hL : ∀ k, k < 3 → ∃ y : Int, (w2.alloc (.cells #[.int .i64 1, .int .i64 2, .int .i64 3] 3)).cell? ⟨w2.heap.size, k, none⟩ = some (.int .i64 y) ∧ 0 ≤ y ∧ y ≤ 15 := fun k hk => by
    rw [cell_of_row _ _ k _ _ _ (heap_alloc_new w2 _)]
    obtain rfl | rfl | rfl : k = 0 ∨ k = 1 ∨ k = 2 := by omega
    · exact ⟨1, rfl, by omega, by omega⟩
    · exact ⟨2, rfl, by omega, by omega⟩
    · exact ⟨3, rfl, by omega, by omega⟩
  have hr2x := hr2.keep ha
  have hT2x := hT2.trans (Tch.ext (S := (· = g)) ha)
  have R2x := R2.below ha
  have hn7 : ¬ w2.heap.size = g := by have := hr2.lt; omega
  clear ha hr2 hT2 R2
  go_wp2_with fail
  refine (pickT _ _ _ _ _ hr2x (by omega) (by omega) (by omega)).mono ?_; rintro e w3 ⟨z3, hz3, rfl, hr3, ht3⟩
  obtain ⟨x9, hx9, hx0, hx1⟩ := hL z3 (by omega)
  have Q := ht3.cell hx9 hn7
  have R3 := R2x.only ht3 (fun k e => by subst e; exact hgw)
  have hT3 := hT2x.trans ht3
  clear hL hx9 hr2x hT2x R2x ht3 hn7
  obtain ⟨x, hx⟩ : ∃ x, x9 = x := ⟨_, rfl⟩
  subst hx
  have hs3 : w.heap.size < w3.heap.size := (R3.lt _ rfl).2
  have ha : Ext w3 (w3.alloc (.cells #[.int .i64 (1 + (z1 : Int)), .int .i64 a, .int .i64 x9] 32)) := (Below.refl _ _).alloc (Nat.le_refl _) _
  have own4 : Row (w3.alloc (.cells #[.int .i64 (1 + (z1 : Int)), .int .i64 a, .int .i64 x9] 32)) w.heap.size 32 3 (.slice (some ⟨w3.heap.size, 0, none⟩) 1 1) 1 (c3 [(1 + (z1 : Int), a, x9)]) := Row.lit (w := w3) (n := 1) #[.int .i64 (1 + (z1 : Int)), .int .i64 a, .int .i64 x9] rfl (by unfold maxLen; omega) (by omega)
  have hr4 := hr3.keep ha
  have hT4 := hT3.trans (Tch.ext (S := (· = g)) ha)
  have R4 := R3.below ha
  have hcw : w.heap.size ≠ w3.heap.size := by omega
  clear hT3 hr3 R3 ha
  go_wp2_with fail
  refine (oddT _ _ _ _ _ hr4 (by omega) (by omega) (by omega)).mono ?_; rintro e w6 ⟨t, rfl, htz, hr6, ht6⟩
  have own6 := own4.only ht6 (fun k e => by subst e; exact hgw)
  have R6 := R4.only ht6 (fun k e => by subst e; exact hgw)
  have hT6 := hT4.trans ht6
  clear Q own4 R4 hT4 hr4 ht6
  obtain rfl := htz rfl
  have HTOLD : Hid (toldB (1 + (z1 : Int)) a x9 = true) := by
    unfold toldB
    rw [inB_iff.2 (show 1 ≤ 1 + (z1 : Int) ∧ 1 + (z1 : Int) ≤ 2 by omega), inB_iff.2 (show 0 ≤ a ∧ a ≤ 65535 by have := haz (by first | rfl | trivial); omega), inB_iff.2 (show 0 ≤ x9 ∧ x9 ≤ 15 by omega)]; rfl
  clear haz htz hx0 hx1
  obtain ⟨_, _, _, X, q0, q1, q2⟩ := own3_at own6 (Nat.lt_succ_self 0)
  have X' := X.out
  simp only [List.getElem?_cons_zero, Option.some.injEq, Prod.mk.injEq] at X'
  obtain ⟨rfl, rfl, rfl⟩ := X'
  obtain ⟨_, _, _, _, r0, r1, r2⟩ := own3_at R6 (Nat.lt_succ_self 0)
  have f0 := own6.frozenAt 0
  have f1 := own6.frozenAt 1
  have f2 := own6.frozenAt 2
  have h0 := R6.frozenAt 0
  have h1 := R6.frozenAt 1
  have h2 := R6.frozenAt 2
  simp only [Nat.zero_mul, Nat.zero_add] at q0 q1 q2 r0 r1 r2
  clear own6 R6 X
  go_wp2
  refine bodyPost_ret (v := .agg #[.int .i64 (1 + (z1 : Int)), .int .i64 a, .int .i64 x9]) (by simp [results, Try.results79, go_sem, r0, r1, r2]) rfl ⟨_, _, _, rfl, HTOLD.out, ?_, ?_⟩
  · exact ((((hr6.more (by omega)).setc hB _).setc hB _).setc hB _)
  · exact (((hT6.set (Nat.le_refl _) _).set (Nat.le_refl _) _).set (Nat.le_refl _) _)

/-- Region 7: the label is raised. -/
def RF7 (g md : Nat) : Nat → Value → World → Prop
  | 0, v, _ => v = .pointer (some ⟨md, 0, none⟩)
  | 1, v, _ => ∃ x : Int, v = .int .i64 x
  | 2, v, _ => ∃ x : Int, v = .int .i64 x
  | 3, v, _ => v = .pointer (some ⟨g, 0, none⟩)
  | 4, v, _ => ∃ x : Int, v = .int .i64 x
  | 5, v, _ => ∃ x : Int, v = .int .i64 x ∧ Fits x
  | 6, v, _ => v = .pointer (some ⟨md, 0, none⟩)
  | _, _, _ => True
structure RI7 (w0 : World) (g md P : Nat) (y z : Value) (t : Nat) (w : World) : Prop where
  rd : Rdr w (g + 1) g (P + t)
  tc : Tch w0 w (fun b => b = g ∨ b = md)
  ms : ∃ L : Int, Fits L ∧ w.heap[md]? = some (.cells #[.int .i64 L, y, z] 51 (0, 0))
theorem RI7.stay {w0 w : World} {g md P t : Nat} {y z : Value} (h : RI7 w0 g md P y z t w) : RI7 w0 g md P y z (t + 1) w := ⟨h.rd.more (by omega), h.tc, h.ms⟩
theorem RI7.call {w0 w w' : World} {g md P t : Nat} {y z : Value} (h : RI7 w0 g md P y z t w) (hr : Rdr w' (g + 1) g (P + t + 1)) (hT : Tch w w' (· = g)) (hne : md ≠ g) : RI7 w0 g md P y z (t + 1) w' := by
  obtain ⟨L, hL, hm⟩ := h.ms
  exact ⟨hr, h.tc.trans ⟨hT.os, hT.tape, hT.output, hT.size, fun b hb hs => hT.block b hb (fun e => hs (.inl e))⟩, L, hL, (hT.block md (Array.getElem?_eq_some_iff.1 hm).1 hne).trans hm⟩
theorem RI7.put {w0 w : World} {g md P t : Nat} {y z : Value} (h : RI7 w0 g md P y z t w) (hm : g + 1 ≤ md) (x : Int) (hx : Fits x) : RI7 w0 g md P y z (t + 1) (w.setCell ⟨md, 0, none⟩ (.int .i64 x)) := by
  obtain ⟨L, hL, hh⟩ := h.ms
  have hg := grown_set (p := ⟨md, 0, none⟩) (g := md) (World.grownBy.refl w _) rfl (.int .i64 x)
  exact ⟨(h.rd.setc (q := ⟨md, 0, none⟩) hm _).more (by omega), h.tc.trans (Tch.of_grown hg (fun k e => by cases e; exact .inr rfl)), x, hx, heap_setCell_same _ _ 0 _ _ (.int .i64 x) hh⟩

/-- Region 9: a word is replaced. -/
def RF9 (g md rb n c : Nat) : Nat → Value → World → Prop
  | 0, v, _ => v = .pointer (some ⟨md, 1, none⟩)
  | 1, v, _ => v = .slice (some ⟨rb, 0, none⟩) n c
  | 2, v, _ => v = .pointer (some ⟨g, 0, none⟩)
  | 3, v, _ => ∃ k : Nat, v = .int .i64 k ∧ k < 3
  | 4, v, w => ∃ b, v = .slice (some ⟨b, 0, none⟩) 3 3 ∧ b ≠ g ∧ b ≠ rb ∧ ∀ i, i < 3 → ∃ x : Int, w.cell? ⟨b, i, none⟩ = some (.int .i64 x)
  | 5, v, _ => v = .pointer (some ⟨g, 0, none⟩)
  | 6, v, _ => ∃ k : Nat, v = .int .i64 k ∧ k < 3
  | 7, v, w => ∃ b i, v = .pointer (some ⟨b, i, none⟩) ∧ b ≠ g ∧ b ≠ rb ∧ ∃ x : Int, w.cell? ⟨b, i, none⟩ = some (.int .i64 x)
  | 8, v, _ => ∃ x : Int, v = .int .i64 x
  | 9, v, _ => ∃ i : Nat, v = .pointer (some ⟨rb, i, none⟩) ∧ i < 3
  | _, _, _ => True
theorem RF9_st (g md rb n c : Nat) : ∀ i v w w', RF9 g md rb n c i v w → Tch w w' (fun b => b = g ∨ b = rb) → RF9 g md rb n c i v w' := by
  intro i v w w' h hT
  rcases i with _ | _ | _ | _ | _ | _ | _ | _ | _ | _ | i
  · exact h
  · exact h
  · exact h
  · exact h
  · obtain ⟨b, e, h1, h2, h3⟩ := h
    exact ⟨b, e, h1, h2, fun i hi => by obtain ⟨x, hx⟩ := h3 i hi; exact ⟨x, hT.cell hx (fun e => e.elim h1 h2)⟩⟩
  · exact h
  · exact h
  · obtain ⟨b, i, e, h1, h2, x, hx⟩ := h
    exact ⟨b, i, e, h1, h2, x, hT.cell hx (fun e => e.elim h1 h2)⟩
  · exact h
  · exact h
  · trivial
structure RI9 (w0 : World) (g rb P c : Nat) (t : Nat) (w : World) : Prop where
  rd : Rdr w (g + 1) g (P + t)
  tc : Tch w0 w (fun b => b = g ∨ b = rb)
  ro : ∃ xs, Row w (g + 1) 3 1 (.slice (some ⟨rb, 0, none⟩) 3 c) 3 (cI xs)
theorem RI9.stay {w0 w : World} {g rb P c t : Nat} (h : RI9 w0 g rb P c t w) : RI9 w0 g rb P c (t + 1) w := ⟨h.rd.more (by omega), h.tc, h.ro⟩
theorem tch_or {w w' : World} {g b : Nat} (h : Tch w w' (· = g)) : Tch w w' (fun k => k = g ∨ k = b) := ⟨h.os, h.tape, h.output, h.size, fun k hk hs => h.block k hk (fun e => hs (.inl e))⟩
theorem RI9.call {w0 w w' : World} {g rb P c t : Nat} (h : RI9 w0 g rb P c t w) (hr : Rdr w' (g + 1) g (P + t + 1)) (hT : Tch w w' (· = g)) : RI9 w0 g rb P c (t + 1) w' := by
  obtain ⟨xs, hR⟩ := h.ro
  exact ⟨hr, h.tc.trans (tch_or hT), xs, hR.only hT (fun k e => by omega)⟩
theorem RI9.put {w0 w : World} {g rb P c t k : Nat} (h : RI9 w0 g rb P c t w) (hm : g + 1 ≤ rb) (x : Int) : RI9 w0 g rb P c (t + 1) (w.setCell ⟨rb, k, none⟩ (.int .i64 x)) := by
  obtain ⟨xs, hR⟩ := h.ro
  have hg := grown_set (p := ⟨rb, k, none⟩) (g := rb) (World.grownBy.refl w _) rfl (.int .i64 x)
  exact ⟨(h.rd.setc (q := ⟨rb, k, none⟩) hm _).more (by omega), h.tc.trans (Tch.of_grown hg (fun k e => by cases e; exact .inr rfl)), _, ownI_set hR x⟩
theorem RI9.ne {w0 w : World} {g rb P c t : Nat} (h : RI9 w0 g rb P c t w) : w.heap.size ≠ g ∧ w.heap.size ≠ rb := by
  obtain ⟨xs, hR⟩ := h.ro
  have h1 := h.rd.lt
  have h2 := hR.lt rb rfl
  omega

/-- Region 5: a capability is added. -/
def RF5 (g md : Nat) : Nat → Value → World → Prop
  | 0, v, _ => v = .pointer (some ⟨md, 2, none⟩)
  | 1, v, _ => v = .slice none 0 0
  | 2, v, _ => v = .pointer (some ⟨g, 0, none⟩)
  | 3, v, _ => ∃ k o r b : Int, v = .agg #[.int .i64 k, .int .i64 o, .int .i64 r, .int .i64 b]
  | 4, v, w => ∃ (b : Nat) (k o r u : Int), v = .slice (some ⟨b, 0, none⟩) 1 1 ∧ b ≠ g ∧ b ≠ md ∧ Rd w 4 (some ⟨b, 0, none⟩) 1 1 (c4 [(k, o, r, u)])
  | 5, v, _ => ∃ A n c, v = .slice A n c
  | 6, v, _ => v = .pointer (some ⟨md, 2, none⟩)
  | _, _, _ => True
theorem RF5_st (g md : Nat) : ∀ i v w w', RF5 g md i v w → Tch w w' (fun b => b = g ∨ b = md) → RF5 g md i v w' := by
  intro i v w w' h hT
  rcases i with _ | _ | _ | _ | _ | _ | _ | i
  · exact h
  · exact h
  · exact h
  · exact h
  · obtain ⟨b, k, o, r, u, e, h1, h2, h3⟩ := h
    exact ⟨b, k, o, r, u, e, h1, h2, h3.keepB (fun b' off e' _ hlt => by cases e'; exact hT.block _ hlt (fun e => e.elim h1 h2))⟩
  · exact h
  · exact h
  · trivial
structure RI5 (w0 : World) (g md P : Nat) (x y : Value) (t : Nat) (d : Nat → Bool) (w : World) : Prop where
  rd : Rdr w (g + 1) g (P + 100 * t)
  tc : Tch w0 w (fun b => b = g ∨ b = md)
  ms : ∃ (B : Option Addr) (m c : Nat), (d 7 = false → B = none ∧ m = 0 ∧ c = 0) ∧ w.heap[md]? = some (.cells #[x, y, .slice B m c] 51 (0, 0))
theorem RI5.step {w0 w w' : World} {g md P t i : Nat} {x y : Value} {d : Nat → Bool} (h : RI5 w0 g md P x y t d w) (hr : Rdr w' (g + 1) g (P + 100 * t + 100)) (hT : Tch w w' (· = g)) (hne : md ≠ g) (hi : i ≠ 7) : RI5 w0 g md P x y (t + 1) (upB d i) w' := by
  obtain ⟨B, m, c, hd, hm⟩ := h.ms
  exact ⟨hr.more (by omega), h.tc.trans (tch_or hT), B, m, c, fun e => hd (by rwa [upB_ne d (Ne.symm hi)] at e), (hT.block md (Array.getElem?_eq_some_iff.1 hm).1 hne).trans hm⟩
theorem RI5.stay {w0 w : World} {g md P t i : Nat} {x y : Value} {d : Nat → Bool} (h : RI5 w0 g md P x y t d w) (hne : md ≠ g) (hi : i ≠ 7) : RI5 w0 g md P x y (t + 1) (upB d i) w := h.step (h.rd.more (by omega)) (Tch.refl _ _) hne hi
theorem RI5.put {w0 w : World} {g md P t : Nat} {x y : Value} {d : Nat → Bool} (h : RI5 w0 g md P x y t d w) (hm : g + 1 ≤ md) (A : Option Addr) (n c : Nat) : RI5 w0 g md P x y (t + 1) (upB d 7) (w.setCell ⟨md, 2, none⟩ (.slice A n c)) := by
  obtain ⟨B, m, c', hd, hh⟩ := h.ms
  have hg := grown_set (p := ⟨md, 2, none⟩) (g := md) (World.grownBy.refl w _) rfl (.slice A n c)
  exact ⟨(h.rd.setc (q := ⟨md, 2, none⟩) hm _).more (by omega), h.tc.trans (Tch.of_grown hg (fun k e => by cases e; exact .inr rfl)), A, n, c, (fun e => by rw [upB_self] at e; cases e), heap_setCell_same _ _ 2 _ _ (.slice A n c) hh⟩

theorem fits_wrap (z : Int) : Fits (IntKind.i64.wrap z) := by
  rw [IntKind.wrap_i64]; unfold Fits; omega
theorem RI9.alloc {w0 w : World} {g rb P c t : Nat} (h : RI9 w0 g rb P c t w) (x : Obj) : RI9 w0 g rb P c (t + 1) (w.alloc x) := by
  obtain ⟨xs, hR⟩ := h.ro
  have hb : Ext w (w.alloc x) := (Below.refl _ _).alloc (Nat.le_refl _) x
  exact ⟨(h.rd.keep hb).more (by omega), h.tc.alloc x, xs, hR.below hb⟩
theorem RF7_st (g md : Nat) : ∀ i v w w', RF7 g md i v w → True → RF7 g md i v w' := by
  intro i v w w' h _
  rcases i with _ | _ | _ | _ | _ | _ | _ | i
  all_goals exact h
/-- A row of one type outlasts a store into a block of another type. -/
theorem Fr.setAside {w : World} {B e e2 sz n md i : Nat} {v : Value} {xs : List Value} {cs : Array Value} (h : Fr w B e sz v n xs) (hm : w.heap[md]? = some (.cells cs e2 (0, 0))) (hne : e ≠ e2) (u : Value) : Fr (w.setCell ⟨md, i, none⟩ u) B e sz v n xs := by
  rcases h with h | h
  · exact .inl h
  · obtain ⟨g', c, rfl⟩ := h.shape
    obtain ⟨_, _, _, cur, hh, _⟩ := h.inv
    have hg := grown_set (p := ⟨md, i, none⟩) (g := md) (World.grownBy.refl w _) rfl u
    refine .inr (h.keepB fun b e' _ hlt => hg.block b hlt fun e3 => hne ?_)
    cases e3
    simp only [Value.ownBlock, Option.some.injEq] at e'
    subst e'
    rw [hh] at hm
    simp only [Option.some.injEq, Obj.cells.injEq] at hm
    exact hm.2.1

set_option maxHeartbeats 8000000 in
set_option maxRecDepth 100000 in
theorem DrawReadFault_any (A : Option Addr) (n c : Nat) (bs : List UInt8) (w : World) (h : Rd w 1 A n c (cU bs)) :
    Calls Try.prog 43 #[.slice A n c] w fun e w' => ∃ (L : Int) (A1 : Option Addr) (n1 c1 : Nat) (B1 : Option Addr) (m1 d1 : Nat) (ws : List Int), e = .returned (.agg #[.int .i64 L, .slice A1 n1 c1, .slice B1 m1 d1]) ∧ Fits L ∧ Rd w' 1 A1 n1 c1 (cI ws) ∧ Ext w w' := by
  obtain ⟨W0, hW0⟩ : ∃ W0, W0 = (w.alloc (.cells #[.int .i64 0, .slice none 0 0, .slice none 0 0] 51)) := ⟨_, rfl⟩
  have hb0 : Ext w W0 := by rw [hW0]; exact (Below.refl _ _).alloc (Nat.le_refl _) _
  have P0 : W0.heap[w.heap.size]? = some (.cells #[.int .i64 0, .slice none 0 0, .slice none 0 0] 51 (0, 0)) := by rw [hW0]; exact heap_alloc_new w _
  have h0 := h.below hb0
  have hs0 : W0.heap.size = w.heap.size + 1 := by rw [hW0]; simp
  clear h
  go_enter Try.func43, Try.ntmps43
  go_wp2_with fail
  rw [← hW0]
  refine (l20Open_any _ _ _ _ _ h0).mono ?_; rintro e w1 ⟨rfl, hr1, hb1⟩
  obtain ⟨g, hg⟩ : ∃ g, W0.heap.size = g := ⟨_, rfl⟩
  rw [hg] at hr1 ⊢
  have hge : w.heap.size + 1 = g := by omega
  have P1 := (hb1.block _ (Array.getElem?_eq_some_iff.1 P0).1).trans P0
  have hbb1 := hb0.trans hb1
  clear hW0 h0 P0 hb0 hb1 hs0 hg
  go_wp2_with fail
  refine (l20Fault0_any _ _ _ _ hr1 hr1.lt (by omega)).mono ?_; rintro e w2 ⟨k, a, r, rfl, ht, hr2, hT2⟩
  have P2 := (hT2.block _ (Array.getElem?_eq_some_iff.1 P1).1 (by omega)).trans P1
  have hbb2 := ext_tch hbb1 hT2 (fun k e => by omega)
  have hs2 := hr2.lt
  clear P1 hbb1 hr1 hT2
  have hki := (told_in ht).1
  obtain ⟨L, hL⟩ : ∃ L, mgL k a r = L := ⟨_, rfl⟩
  have hLf : Fits L := by rw [← hL, mgL_yes ht]; unfold Fits; omega
  obtain ⟨ws, hws⟩ : ∃ ws, mgW k a r = ws := ⟨_, rfl⟩
  have hwl : ws.length = 3 := by rw [← hws, mgW_yes ht]; rfl
  have hspec := specFaultMessage_any k a r w2
  rw [hL, hws, hwl] at hspec
  clear hL hws hwl hki ht
  go_wp2_with fail
  refine hspec.mono ?_; rintro e w3 ⟨A3, c3, rfl, F3, hb3⟩
  obtain ⟨rb, rfl, hrB0, hrlt, own3⟩ := F3.form (by omega)
  have P3 := (hb3.block _ (Array.getElem?_eq_some_iff.1 P2).1).trans P2
  have hbb3 := hbb2.trans hb3
  have hr3 := hr2.keep hb3
  have hs3 := hb3.size
  clear P2 hbb2 hr2 hb3 F3 hspec
  obtain ⟨W4, hW4⟩ : ∃ W4, W4 = w3.alloc (.cells #[.int .i64 L, .slice (some ⟨rb, 0, none⟩) 3 c3, .slice none 0 0] 51) := ⟨_, rfl⟩
  have hb4 : Ext w3 W4 := by rw [hW4]; exact (Below.refl _ _).alloc (Nat.le_refl _) _
  obtain ⟨md, hmd⟩ : ∃ md, w3.heap.size = md := ⟨_, rfl⟩
  have PM4 : W4.heap[md]? = some (.cells #[.int .i64 L, .slice (some ⟨rb, 0, none⟩) 3 c3, .slice none 0 0] 51 (0, 0)) := by rw [hW4, ← hmd]; exact heap_alloc_new w3 _
  have P4 := (hb4.block _ (Array.getElem?_eq_some_iff.1 P3).1).trans P3
  have hbb4 := hbb3.trans hb4
  have hr4 := hr3.keep hb4
  have own4 := own3.below hb4
  have hrB : g + 1 ≤ rb := by omega
  have hmr : md ≠ rb := by omega
  have hmB : g + 1 ≤ md := by omega
  have hmg : md ≠ g := by omega
  have hrg : rb ≠ g := by omega
  clear P3 hbb3 hr3 hb4 own3
  go_wp2_with fail
  rw [← hW4]
  clear hW4
  refine (oddT _ _ _ _ _ hr4 (by omega) (by omega) (by omega)).mono ?_; rintro e w5 ⟨t, rfl, _, hr5, hT5⟩
  have PM5 := (hT5.block _ (Array.getElem?_eq_some_iff.1 PM4).1 hmg).trans PM4
  have P5 := (hT5.block _ (Array.getElem?_eq_some_iff.1 P4).1 (by omega)).trans P4
  have hbb5 := ext_tch hbb4 hT5 (fun k e => by omega)
  have own5 := (own4.mono (B' := g + 1) (by omega)).only hT5 (fun k e => by omega)
  clear PM4 P4 hbb4 hr4 own4 hT5 hmd hrB0 hrlt hs2 hs3
  go_upto_if 11 with fail
  go_cut [] from 5 (fun wx => ∃ (L : Int) (A1 : Option Addr) (n1 c1 : Nat) (B1 : Option Addr) (m1 d1 : Nat) (ws : List Int), Fits L ∧ wx.heap[md]? = some (.cells #[.int .i64 L, .slice A1 n1 c1, .slice B1 m1 d1] 51 (0, 0)) ∧ wx.heap[w.heap.size]? = some (.cells #[.int .i64 0, .slice none 0 0, .slice none 0 0] 51 (0, 0)) ∧ Fr wx (w.heap.size + 1) 3 1 (.slice A1 n1 c1) n1 (cI ws) ∧ Ext w wx)
  case first =>
    cases t
    · go_wp2
      go_meet
      exact ⟨_, _, _, _, _, _, _, _, hLf, PM5, P5, .inr (own5.mono (by omega)), hbb5⟩
    · go_wp2_with fail
      refine (pickT _ _ _ _ _ hr5 (by omega) (by omega) (by omega)).mono ?_; rintro e w6 ⟨z, hz, rfl, hr6, hT6⟩
      have PM6 := (hT6.block _ (Array.getElem?_eq_some_iff.1 PM5).1 hmg).trans PM5
      have P6 := (hT6.block _ (Array.getElem?_eq_some_iff.1 P5).1 (by omega)).trans P5
      have hbb6 := ext_tch hbb5 hT6 (fun k e => by omega)
      have own6 := own5.only hT6 (fun k e => by omega)
      clear PM5 P5 hbb5 hr5 own5 hT6
      have hr6' := hr6.keep ((Below.refl w6.heap.size w6).drew)
      have hT6' : ∀ S : Nat → Prop, Tch w6 w6.drew S := fun S => Tch.ext ((Below.refl _ _).drew)
      have hq1 : w6.cell? ⟨md, 1, none⟩ = some (.slice (some ⟨rb, 0, none⟩) 3 c3) := by rw [cell_of_row w6 _ _ _ _ _ PM6]; rfl
      obtain rfl | rfl | rfl | rfl : z = 0 ∨ z = 1 ∨ z = 2 ∨ z = 3 := by omega
      · go_wp2
        refine wp_region_once (RF7 g md) (fun _ _ => True) (RI7 w6 g md 102 (.slice (some ⟨rb, 0, none⟩) 3 c3) (.slice none 0 0)) (by kernel_rfl) (by kernel_rfl) (by rfl) ⟨hr6'.more (by omega), hT6' _, L, hLf, PM6⟩ (RF7_st g md) ?_ ?_
        · refine ⟨?_, ?_, ?_, ?_, ?_, ?_, ?_, ?_, trivial⟩
          · intro t a_ vs wt ht hI hD hA K hK
            have a4 : a_.tmps[4]?.getD undef = Value.pointer (some ⟨md, 0, none⟩) := hA 4
            clear hA hD
            go_simp
            exact hK _ _ rfl trivial hI.stay
          · intro t a_ vs wt ht hI hD hA K hK
            have d0 : vs 0 = Value.pointer (some ⟨md, 0, none⟩) := hD 0 rfl
            have a23 : a_.tmps[23]?.getD undef = vs 0 := hA 23
            rw [d0] at a23
            obtain ⟨L9, _, hm9⟩ := hI.ms
            have q0 : wt.cell? ⟨md, 0, none⟩ = some (.int .i64 L9) := by rw [cell_of_row wt _ _ _ _ _ hm9]; rfl
            clear hA hD
            go_simp
            exact hK _ _ ⟨_, rfl⟩ trivial hI.stay
          · intro t a_ vs wt ht hI hD hA K hK
            obtain ⟨x1, d1⟩ := hD 1 rfl
            have a24 : a_.tmps[24]?.getD undef = vs 1 := hA 24
            rw [d1] at a24
            clear hA hD
            go_simp
            exact hK _ _ ⟨_, rfl⟩ trivial hI.stay
          · intro t a_ vs wt ht hI hD hA K hK
            have a3 : a_.tmps[3]?.getD undef = Value.pointer (some ⟨g, 0, none⟩) := hA 3
            clear hA hD
            go_simp
            exact hK _ _ rfl trivial hI.stay
          · intro t a_ vs wt ht hI hD hA K hK
            have d3 : vs 3 = Value.pointer (some ⟨g, 0, none⟩) := hD 3 rfl
            have a26 : a_.tmps[26]?.getD undef = vs 3 := hA 26
            rw [d3] at a26
            clear hA hD
            go_simp
            refine (pickT _ _ _ _ _ hI.rd (by omega) (by omega) (by have : t < 8 := ht; omega)).mono ?_; rintro e w2 ⟨k, hk, rfl, hr, hT⟩
            exact hK _ _ ⟨_, rfl⟩ trivial (hI.call hr hT hmg)
          · intro t a_ vs wt ht hI hD hA K hK
            obtain ⟨x2, d2⟩ := hD 2 rfl
            have a25 : a_.tmps[25]?.getD undef = vs 2 := hA 25
            rw [d2] at a25
            obtain ⟨x4, d4⟩ := hD 4 rfl
            have a27 : a_.tmps[27]?.getD undef = vs 4 := hA 27
            rw [d4] at a27
            obtain ⟨s, es, hs⟩ : ∃ s, IntKind.i64.wrap (x2 + x4) = s ∧ Fits s := ⟨_, rfl, fits_wrap _⟩
            clear hA hD
            go_simp
            exact hK _ _ ⟨s, rfl, hs⟩ trivial hI.stay
          · intro t a_ vs wt ht hI hD hA K hK
            have a4 : a_.tmps[4]?.getD undef = Value.pointer (some ⟨md, 0, none⟩) := hA 4
            clear hA hD
            go_simp
            exact hK _ _ rfl trivial hI.stay
          · intro t a_ vs wt ht hI hD hA K hK
            obtain ⟨s, d5, hs⟩ := hD 5 rfl
            have a28 : a_.tmps[28]?.getD undef = vs 5 := hA 28
            rw [d5] at a28
            have d6 : vs 6 = Value.pointer (some ⟨md, 0, none⟩) := hD 6 rfl
            have a29 : a_.tmps[29]?.getD undef = vs 6 := hA 29
            rw [d6] at a29
            obtain ⟨L9, _, hm9⟩ := hI.ms
            have q0 : wt.cell? ⟨md, 0, none⟩ = some (.int .i64 L9) := by rw [cell_of_row wt _ _ _ _ _ hm9]; rfl
            have f0 := frozen_of_row wt md 0 _ _ hm9
            clear hA hD
            go_simp
            exact hK (.tuple #[]) _ trivial trivial (hI.put hmB s hs)
        · intro t vs wz ht hI hF
          obtain ⟨L9, hL9, PM9⟩ := hI.ms
          have P9 := (hI.tc.block _ (Array.getElem?_eq_some_iff.1 P6).1 (by omega)).trans P6
          have own9 := own6.keepB (w' := wz) (fun b e _ hlt => hI.tc.block b hlt (fun h => by simp only [Value.ownBlock, Option.some.injEq] at e; omega))
          have hbb9 := ext_tch hbb6 hI.tc (fun k e => by omega)
          clear hI hr6 hr6' hT6' hq1 PM6 P6 own6 hbb6
          clear hF
          simp only [putAll, Act.put, List.setIfInBounds_toArray, List.set_cons_zero, List.set_cons_succ]
          go_wp2
          go_meet
          exact ⟨_, _, _, _, _, _, _, _, hL9, PM9, P9, .inr (own9.mono (by omega)), hbb9⟩
      · go_wp2
        refine wp_region_once (RF9 g md rb 3 c3) (fun a b => Tch a b (fun b => b = g ∨ b = rb)) (RI9 w6 g rb 102 c3) (by kernel_rfl) (by kernel_rfl) (by rfl) ⟨hr6'.more (by omega), hT6' _, _, own6.below ((Below.refl _ _).drew)⟩ (RF9_st g md rb 3 c3) ?_ ?_
        · refine ⟨?_, ?_, ?_, ?_, ?_, ?_, ?_, ?_, ?_, ?_, ?_, trivial⟩
          · intro t a_ vs wt ht hI hD hA K hK
            have a4 : a_.tmps[4]?.getD undef = Value.pointer (some ⟨md, 0, none⟩) := hA 4
            clear hA hD
            go_simp
            exact hK _ _ rfl (Tch.refl _ _) hI.stay
          · intro t a_ vs wt ht hI hD hA K hK
            have d0 : vs 0 = Value.pointer (some ⟨md, 1, none⟩) := hD 0 rfl
            have a32 : a_.tmps[32]?.getD undef = vs 0 := hA 32
            rw [d0] at a32
            have q1 := hI.tc.cell hq1 (fun e => e.elim hmg hmr)
            clear hA hD
            go_simp
            exact hK _ _ rfl (Tch.refl _ _) hI.stay
          · intro t a_ vs wt ht hI hD hA K hK
            have a3 : a_.tmps[3]?.getD undef = Value.pointer (some ⟨g, 0, none⟩) := hA 3
            clear hA hD
            go_simp
            exact hK _ _ rfl (Tch.refl _ _) hI.stay
          · intro t a_ vs wt ht hI hD hA K hK
            have d2 : vs 2 = Value.pointer (some ⟨g, 0, none⟩) := hD 2 rfl
            have a34 : a_.tmps[34]?.getD undef = vs 2 := hA 34
            rw [d2] at a34
            clear hA hD
            go_simp
            refine (pickT _ _ _ _ _ hI.rd (by omega) (by omega) (by have : t < 11 := ht; omega)).mono ?_; rintro e w2 ⟨k, hk, rfl, hr, hT⟩
            exact hK _ _ ⟨k, rfl, by omega⟩ (tch_or hT) (hI.call hr hT)
          · intro t a_ vs wt ht hI hD hA K hK
            clear hA hD
            have hc := fun e => lit_all (w := wt) (e := e) (lo := -1) (hi := 256) [(-1), 256, 16] (by simp only [List.mem_cons, List.not_mem_nil, or_false]; omega) rfl
            go_simp
            exact hK _ _ ⟨_, rfl, hI.ne.1, hI.ne.2, fun i hi => (hc _ i hi).imp fun x hx => hx.2⟩ (tch_alloc _ _ _) (hI.alloc _)
          · intro t a_ vs wt ht hI hD hA K hK
            have a3 : a_.tmps[3]?.getD undef = Value.pointer (some ⟨g, 0, none⟩) := hA 3
            clear hA hD
            go_simp
            exact hK _ _ rfl (Tch.refl _ _) hI.stay
          · intro t a_ vs wt ht hI hD hA K hK
            have d5 : vs 5 = Value.pointer (some ⟨g, 0, none⟩) := hD 5 rfl
            have a37 : a_.tmps[37]?.getD undef = vs 5 := hA 37
            rw [d5] at a37
            clear hA hD
            go_simp
            refine (pickT _ _ _ _ _ hI.rd (by omega) (by omega) (by have : t < 11 := ht; omega)).mono ?_; rintro e w2 ⟨k, hk, rfl, hr, hT⟩
            exact hK _ _ ⟨k, rfl, by omega⟩ (tch_or hT) (hI.call hr hT)
          · intro t a_ vs wt ht hI hD hA K hK
            obtain ⟨b4, d4, n4, n4b, c4_⟩ := hD 4 rfl
            have a36 : a_.tmps[36]?.getD undef = vs 4 := hA 36
            rw [d4] at a36
            obtain ⟨k6, d6, h6⟩ := hD 6 rfl
            have a38 : a_.tmps[38]?.getD undef = vs 6 := hA 38
            rw [d6] at a38
            have z1 : (k6 : Int) < 3 := by omega
            obtain ⟨y, hy⟩ := c4_ k6 h6
            clear hA hD
            go_simp
            exact hK _ _ ⟨_, _, rfl, n4, n4b, y, hy⟩ (Tch.refl _ _) hI.stay
          · intro t a_ vs wt ht hI hD hA K hK
            obtain ⟨b7, i7, d7, n7, n7b, y7, q7⟩ := hD 7 rfl
            have a39 : a_.tmps[39]?.getD undef = vs 7 := hA 39
            rw [d7] at a39
            clear hA hD
            go_simp
            exact hK _ _ ⟨_, rfl⟩ (Tch.refl _ _) hI.stay
          · intro t a_ vs wt ht hI hD hA K hK
            have d1 : vs 1 = Value.slice (some ⟨rb, 0, none⟩) 3 c3 := hD 1 rfl
            have a33 : a_.tmps[33]?.getD undef = vs 1 := hA 33
            rw [d1] at a33
            obtain ⟨k3, d3, h3⟩ := hD 3 rfl
            have a35 : a_.tmps[35]?.getD undef = vs 3 := hA 35
            rw [d3] at a35
            have z1 : (k3 : Int) < 3 := by omega
            clear hA hD
            go_simp
            exact hK _ _ ⟨_, rfl, h3⟩ (Tch.refl _ _) hI.stay
          · intro t a_ vs wt ht hI hD hA K hK
            obtain ⟨x8, d8⟩ := hD 8 rfl
            have a40 : a_.tmps[40]?.getD undef = vs 8 := hA 40
            rw [d8] at a40
            obtain ⟨i9, d9, h9⟩ := hD 9 rfl
            have a41 : a_.tmps[41]?.getD undef = vs 9 := hA 41
            rw [d9] at a41
            obtain ⟨ys, hR9⟩ := hI.ro
            obtain ⟨y9, _, q9⟩ := ownI_at hR9 h9
            have f9 := hR9.frozenAt i9
            have hTs : Tch wt (wt.setCell ⟨rb, i9, none⟩ (.int .i64 x8)) (fun b => b = g ∨ b = rb) := Tch.of_grown (grown_set (p := ⟨rb, i9, none⟩) (g := rb) (World.grownBy.refl wt _) rfl (.int .i64 x8)) (fun k e => by cases e; exact .inr rfl)
            clear hA hD
            go_simp
            exact hK (.tuple #[]) _ trivial hTs (hI.put hrB x8)
        · intro t vs wz ht hI hF
          have PM9 := (hI.tc.block _ (Array.getElem?_eq_some_iff.1 PM6).1 (fun e => e.elim hmg hmr)).trans PM6
          have P9 := (hI.tc.block _ (Array.getElem?_eq_some_iff.1 P6).1 (by omega)).trans P6
          obtain ⟨ws9, own9⟩ := hI.ro
          have hbb9 := ext_tch hbb6 hI.tc (fun k e => by omega)
          clear hI hr6 hr6' hT6' hq1 PM6 P6 own6 hbb6
          clear hF
          simp only [putAll, Act.put, List.setIfInBounds_toArray, List.set_cons_zero, List.set_cons_succ]
          go_wp2
          go_meet
          exact ⟨_, _, _, _, _, _, _, _, hLf, PM9, P9, .inr (own9.mono (by omega)), hbb9⟩
      · obtain ⟨i0, hi0, hz0, hz1, hz2⟩ := info_parts Try.infoInt
        obtain ⟨WL, hWL⟩ : ∃ WL, WL = w6.alloc (.cells #[.int .i64 0] 3) := ⟨_, rfl⟩
        have hbL : Ext w6 WL := by rw [hWL]; exact (Below.refl _ _).alloc (Nat.le_refl _) _
        have hRl : Rd WL 1 (some ⟨w6.heap.size, 0, none⟩) 1 1 (cI [0]) := by rw [hWL]; exact Rd.of_row (Row.lit (w := w6) (B := 0) (n := 1) #[.int .i64 0] rfl (by unfold maxLen; omega) (Nat.zero_le _))
        have PML := (hbL.block _ (Array.getElem?_eq_some_iff.1 PM6).1).trans PM6
        have PL := (hbL.block _ (Array.getElem?_eq_some_iff.1 P6).1).trans P6
        have ownL := own6.below hbL
        have hbbL := hbb6.trans hbL
        have hsL : g + 1 ≤ WL.heap.size := by have := hr6.lt; have := hbL.size; omega
        rw [hWL] at hRl ownL hsL
        go_wp2_with (at_builtin; refine wpList_append_fr _ rfl _ _ 48 rfl (g + 1) 3 i0 _ 1 8 Try.underlying48 hi0 hz0 hz1 hz2 rfl (by omega) _ 3 _ rfl (.inr ownL) _ 1 1 _ rfl hRl (one_cI _) (by unfold maxLen; omega) (by omega) hsL ?_; intro A7 c7 w7 row7 hF7 hg7 hrow7; rw [← hWL] at hg7 hrow7; have PM7 := (hg7.block _ (Array.getElem?_eq_some_iff.1 PML).1 (fun e => by have h3 : some rb = some md := (hrow7 _ e.symm).2.2; cases h3; exact hmr rfl)).trans PML; have P7 := (hg7.block _ (Array.getElem?_eq_some_iff.1 PL).1 (fun e => by have := (hrow7 _ e.symm).1; omega)).trans PL; have hbb7 := ext_grown hbbL hg7 (fun k e => by have := (hrow7 k e).1; omega); have x1 : w7.cell? ⟨md, 1, none⟩ = some (.slice (some ⟨rb, 0, none⟩) 3 c3) := (by rw [cell_of_row w7 _ _ _ _ _ PM7]; rfl); have x1f := frozen_of_row w7 md 1 _ _ PM7)
        have hgs := grown_set (p := ⟨md, 1, none⟩) (g := md) (World.grownBy.refl w7 _) rfl (.slice A7 (3 + 1) c7)
        have PM8 : (w7.setCell ⟨md, 1, none⟩ (.slice A7 (3 + 1) c7)).heap[md]? = some (.cells #[.int .i64 L, .slice A7 (3 + 1) c7, .slice none 0 0] 51 (0, 0)) := heap_setCell_same _ _ 1 _ _ (.slice A7 (3 + 1) c7) PM7
        have P8 := (hgs.block _ (Array.getElem?_eq_some_iff.1 P7).1 (fun e => by cases e; omega)).trans P7
        have F8 : Fr (w7.setCell ⟨md, 1, none⟩ (.slice A7 (3 + 1) c7)) (w.heap.size + 1) 3 1 (.slice A7 (3 + 1) c7) (3 + 1) _ := (hF7.setAside PM7 (by decide) _).mono (by omega)
        have hbb8 := ext_grown hbb7 hgs (fun k e => by cases e; omega)
        rw [← cI_append] at F8
        go_meet
        exact ⟨_, _, _, _, _, _, _, _, hLf, PM8, P8, F8, hbb8⟩
      · go_wp2
        refine wp_region_onceD (RF5 g md) (fun a b => Tch a b (fun b => b = g ∨ b = md)) (RI5 w6 g md 102 (.int .i64 L) (.slice (some ⟨rb, 0, none⟩) 3 c3)) (by kernel_rfl) (by kernel_rfl) (by rfl) ⟨hr6'.more (by omega), hT6' _, none, 0, 0, fun _ => ⟨rfl, rfl, rfl⟩, PM6⟩ (RF5_st g md) ?_ ?_
        · refine ⟨?_, ?_, ?_, ?_, ?_, ?_, ?_, ?_, trivial⟩
          · intro t d a_ vs wt ht hI hdi hW hcl hD hA K hK
            have a4 : a_.tmps[4]?.getD undef = Value.pointer (some ⟨md, 0, none⟩) := hA 4
            clear hA hD hW hcl
            go_simp
            exact hK _ _ rfl (Tch.refl _ _) (hI.stay hmg (by decide))
          · intro t d a_ vs wt ht hI hdi hW hcl hD hA K hK
            have d0 : vs 0 = Value.pointer (some ⟨md, 2, none⟩) := hD 0 rfl
            have a14 : a_.tmps[14]?.getD undef = vs 0 := hA 14
            rw [d0] at a14
            obtain ⟨B9, m9, c9, hd9, hm9⟩ := hI.ms
            have d7 : d 7 = false := by
              cases h7 : d 7 with
              | false => rfl
              | true =>
                have h5 := hcl 7 _ rfl h7 5 rfl
                have h1 := hcl 5 _ rfl h5 1 rfl
                rw [hdi] at h1; cases h1
            obtain ⟨rfl, rfl, rfl⟩ := hd9 d7
            have q2 : wt.cell? ⟨md, 2, none⟩ = some (.slice none 0 0) := by rw [cell_of_row wt _ _ _ _ _ hm9]; rfl
            clear hA hD hW hcl
            go_simp
            exact hK _ _ rfl (Tch.refl _ _) (hI.stay hmg (by decide))
          · intro t d a_ vs wt ht hI hdi hW hcl hD hA K hK
            have a3 : a_.tmps[3]?.getD undef = Value.pointer (some ⟨g, 0, none⟩) := hA 3
            clear hA hD hW hcl
            go_simp
            exact hK _ _ rfl (Tch.refl _ _) (hI.stay hmg (by decide))
          · intro t d a_ vs wt ht hI hdi hW hcl hD hA K hK
            have d2 : vs 2 = Value.pointer (some ⟨g, 0, none⟩) := hD 2 rfl
            have a16 : a_.tmps[16]?.getD undef = vs 2 := hA 16
            rw [d2] at a16
            clear hA hD hW hcl
            have hBg : g + 1 ≤ wt.heap.size := hI.rd.lt
            go_simp
            refine (l20Cap_any _ _ _ _ _ hI.rd hBg (by omega) (by omega) (by have : t < 8 := ht; omega)).mono ?_; rintro e w2 ⟨k, o, r, u, rfl, hr, hT⟩
            exact hK _ _ ⟨_, _, _, _, rfl⟩ (tch_or hT) (hI.step hr hT hmg (by decide))
          · intro t d a_ vs wt ht hI hdi hW hcl hD hA K hK
            obtain ⟨k3, o3, r3, u3, d3⟩ := hD 3 rfl
            have a17 : a_.tmps[17]?.getD undef = vs 3 := hA 17
            rw [d3] at a17
            have hRw : Rd (wt.alloc (.cells #[.int .i64 k3, .int .i64 o3, .int .i64 r3, .int .i64 u3] 34)) 4 (some ⟨wt.heap.size, 0, none⟩) 1 1 (c4 [(k3, o3, r3, u3)]) := Rd.of_row (Row.lit (w := wt) (B := 0) (n := 1) #[.int .i64 k3, .int .i64 o3, .int .i64 r3, .int .i64 u3] rfl (by unfold maxLen; omega) (Nat.zero_le _))
            have hn1 : wt.heap.size ≠ g := by have := hI.rd.lt; omega
            have hn2 : wt.heap.size ≠ md := by obtain ⟨_, _, _, _, hm9⟩ := hI.ms; have := (Array.getElem?_eq_some_iff.1 hm9).1; omega
            have hJ : RI5 w6 g md 102 (.int .i64 L) (.slice (some ⟨rb, 0, none⟩) 3 c3) (t + 1) (upB d 4) (wt.alloc (.cells #[.int .i64 k3, .int .i64 o3, .int .i64 r3, .int .i64 u3] 34)) := hI.step ((hI.rd.keep ((Below.refl _ _).alloc (Nat.le_refl _) _)).more (by omega)) (tch_alloc _ _ _) hmg (by decide)
            clear hA hD hW hcl
            go_simp
            exact hK _ _ ⟨_, _, _, _, _, rfl, hn1, hn2, hRw⟩ (tch_alloc _ _ _) hJ
          · intro t d a_ vs wt ht hI hdi hW hcl hD hA K hK
            have d1 : vs 1 = Value.slice none 0 0 := hD 1 rfl
            have a15 : a_.tmps[15]?.getD undef = vs 1 := hA 15
            rw [d1] at a15
            obtain ⟨b4, k4, o4, r4, u4, d4, _, _, hR4⟩ := hD 4 rfl
            have a18 : a_.tmps[18]?.getD undef = vs 4 := hA 18
            rw [d4] at a18
            clear hA hD hW hcl
            obtain ⟨ic, hic, hcz0, hcz1, hcz2⟩ := info_parts Try.infoCp
            refine wp_append_fr (P := Try.prog) wt (.tmp 15) (.tmp 18) 49 rfl wt.heap.size 34 ic _ 4 32 Try.underlying49 hic hcz0 hcz1 hcz2 rfl (by omega) (.slice none 0 0) 0 [] (by simpa [Act.eval] using a15) (.inl ⟨none, rfl, rfl, rfl⟩) _ 1 1 _ (by simpa [Act.eval] using a18) hR4 (one_c4 _) (by unfold maxLen; omega) (by omega) (Nat.le_refl _) ?_
            intro A5 c5 w5 row5 _ hg5 hrow5
            have hT5 : Tch wt w5 (· = g) := Tch.of_grown hg5 (fun k e => by have := (hrow5 k e).2.2; simp [Value.ownBlock] at this)
            exact hK _ _ ⟨_, _, _, rfl⟩ (tch_or hT5) (hI.step ((hI.rd.past hg5 (fun k e => by have := (hrow5 k e).2.2; simp [Value.ownBlock] at this)).more (by omega)) hT5 hmg (by decide))
          · intro t d a_ vs wt ht hI hdi hW hcl hD hA K hK
            have a4 : a_.tmps[4]?.getD undef = Value.pointer (some ⟨md, 0, none⟩) := hA 4
            clear hA hD hW hcl
            go_simp
            exact hK _ _ rfl (Tch.refl _ _) (hI.stay hmg (by decide))
          · intro t d a_ vs wt ht hI hdi hW hcl hD hA K hK
            obtain ⟨A5, n5, c5, d5⟩ := hD 5 rfl
            have a19 : a_.tmps[19]?.getD undef = vs 5 := hA 19
            rw [d5] at a19
            have d6 : vs 6 = Value.pointer (some ⟨md, 2, none⟩) := hD 6 rfl
            have a20 : a_.tmps[20]?.getD undef = vs 6 := hA 20
            rw [d6] at a20
            obtain ⟨B9, m9, c9, _, hm9⟩ := hI.ms
            have q2 : wt.cell? ⟨md, 2, none⟩ = some (.slice B9 m9 c9) := by rw [cell_of_row wt _ _ _ _ _ hm9]; rfl
            have f2 := frozen_of_row wt md 2 _ _ hm9
            have hTs : Tch wt (wt.setCell ⟨md, 2, none⟩ (.slice A5 n5 c5)) (fun b => b = g ∨ b = md) := Tch.of_grown (grown_set (p := ⟨md, 2, none⟩) (g := md) (World.grownBy.refl wt _) rfl (.slice A5 n5 c5)) (fun k e => by cases e; exact .inr rfl)
            have hJ := hI.put hmB A5 n5 c5
            clear hA hD hW hcl
            go_simp
            exact hK (.tuple #[]) _ trivial hTs hJ
        · intro t d vs wz ht hI hall hF
          obtain ⟨B9, m9, d9, _, PM9⟩ := hI.ms
          have P9 := (hI.tc.block _ (Array.getElem?_eq_some_iff.1 P6).1 (by omega)).trans P6
          have own9 := own6.keepB (w' := wz) (fun b e _ hlt => hI.tc.block b hlt (fun h => by simp only [Value.ownBlock, Option.some.injEq] at e; omega))
          have hbb9 := ext_tch hbb6 hI.tc (fun k e => by omega)
          clear hI hall hr6 hr6' hT6' hq1 PM6 P6 own6 hbb6
          clear hF
          simp only [putAll, Act.put, List.setIfInBounds_toArray, List.set_cons_zero, List.set_cons_succ]
          go_wp2
          go_meet
          exact ⟨_, _, _, _, _, _, _, _, hLf, PM9, P9, .inr (own9.mono (by omega)), hbb9⟩
  obtain ⟨L9, A9, n9, c9, B9, m9, d9, ws9, hL9, PM9, P9, F9, hb9⟩ := hcut
  have z0 : wc.cell? ⟨md, 0, none⟩ = some (.int .i64 L9) := by rw [cell_of_row wc _ _ _ _ _ PM9]; rfl
  have z1 : wc.cell? ⟨md, 1, none⟩ = some (.slice A9 n9 c9) := by rw [cell_of_row wc _ _ _ _ _ PM9]; rfl
  have z2 : wc.cell? ⟨md, 2, none⟩ = some (.slice B9 m9 d9) := by rw [cell_of_row wc _ _ _ _ _ PM9]; rfl
  have sq0 : wc.cell? ⟨w.heap.size, 0, none⟩ = some (.int .i64 0) := by rw [cell_of_row wc _ _ _ _ _ P9]; rfl
  have sf0 := frozen_of_row wc w.heap.size 0 _ _ P9
  have sq1 : wc.cell? ⟨w.heap.size, 1, none⟩ = some (.slice none 0 0) := by rw [cell_of_row wc _ _ _ _ _ P9]; rfl
  have sf1 := frozen_of_row wc w.heap.size 1 _ _ P9
  have sq2 : wc.cell? ⟨w.heap.size, 2, none⟩ = some (.slice none 0 0) := by rw [cell_of_row wc _ _ _ _ _ P9]; rfl
  have sf2 := frozen_of_row wc w.heap.size 2 _ _ P9
  clear PM9 P9 PM5 P5 hbb5 hr5 own5
  go_wp2
  refine bodyPost_ret (v := .agg #[.int .i64 L9, .slice A9 n9 c9, .slice B9 m9 d9]) (by simp [results, Try.results43, go_sem, sq0, sq1, sq2]) rfl ⟨_, _, _, _, _, _, _, _, rfl, hL9, (F9.sets3 (by omega) _ _ _).rd'.2, Ext.sets3 hb9 (by omega) _ _ _⟩
end Go.Proofs.Yteahiiflgiimnaa
