/-
  The move that the reference draws: five numbers, in a block of its own.
-/
import Derived.Test.YtbljkahdhckegaaDrG
import Derived.Test.YtbljkahdhckegaaDrO
import Derived.Test.YtbljkahdhckegaaMvC
import Derived.Deep.DeepCutAuto
namespace Go.Proofs.Ytbljkahdhckegaa
open Go.RowKit

def MovB (w : World) (b : Nat) : Prop := ∃ arr, w.heap[b]? = some (.cells arr 28 (0, 0))
/-- A move whose subjects are below n, and whose thing is below T, lies in block b. -/
def MovOk (n T : Nat) (w : World) (b : Nat) : Prop :=
  ∃ kd who oth thg rts : Int, w.heap[b]? = some (.cells #[.int .i64 kd, .int .i64 who, .int .i64 oth, .int .i64 thg, .int .i64 rts] 28 (0, 0)) ∧ 0 ≤ who ∧ who < n ∧ 0 ≤ oth ∧ oth < n ∧ 0 ≤ thg ∧ thg < T
/-- Only the reader is written, and moves, which stay in their ranges. -/
def SM (g n T : Nat) (w w' : World) : Prop := Tch w w' (fun k => k = g ∨ MovB w k) ∧ ∀ b, b ≠ g → MovOk n T w b → MovOk n T w' b
section
variable {g n T : Nat} {w w' : World}
theorem SM.of (h : Tch w w' (· = g)) : SM g n T w w' :=
  ⟨⟨h.os, h.tape, h.output, h.size, fun b hb hs => h.block b hb (fun e => hs (.inl e))⟩, fun b hb ⟨kd, who, oth, thg, rts, hc, hr⟩ => ⟨kd, who, oth, thg, rts, (h.block b (Array.getElem?_eq_some_iff.1 hc).1 hb).trans hc, hr⟩⟩
theorem SM.refl : SM g n T w w := SM.of (Tch.refl _ _)
def set5 (w : World) (b : Nat) (kd who oth thg rts : Int) : World :=
  ((((w.setCell ⟨b, 0, none⟩ (.int .i64 kd)).setCell ⟨b, 1, none⟩ (.int .i64 who)).setCell ⟨b, 2, none⟩ (.int .i64 oth)).setCell ⟨b, 3, none⟩ (.int .i64 thg)).setCell ⟨b, 4, none⟩ (.int .i64 rts)
theorem set5_same {b : Nat} {kd who oth thg rts x0 x1 x2 x3 x4 : Int} {t : Nat} (h : w.heap[b]? = some (.cells #[.int .i64 x0, .int .i64 x1, .int .i64 x2, .int .i64 x3, .int .i64 x4] t (0, 0))) :
    (set5 w b kd who oth thg rts).heap[b]? = some (.cells #[.int .i64 kd, .int .i64 who, .int .i64 oth, .int .i64 thg, .int .i64 rts] t (0, 0)) := by
  have h0 := heap_setCell_same w b 0 _ t (.int .i64 kd) h
  have h1 := heap_setCell_same _ b 1 _ t (.int .i64 who) h0
  have h2 := heap_setCell_same _ b 2 _ t (.int .i64 oth) h1
  have h3 := heap_setCell_same _ b 3 _ t (.int .i64 thg) h2
  have h4 := heap_setCell_same _ b 4 _ t (.int .i64 rts) h3
  exact h4
theorem grown_set5 (w : World) (b : Nat) (kd who oth thg rts : Int) : w.grownBy (set5 w b kd who oth thg rts) (some b) :=
  grown_set (grown_set (grown_set (grown_set (grown_set (p := ⟨b, 0, none⟩) (g := b) (World.grownBy.refl w _) rfl _) (p := ⟨b, 1, none⟩) rfl _) (p := ⟨b, 2, none⟩) rfl _) (p := ⟨b, 3, none⟩) rfl _) (p := ⟨b, 4, none⟩) rfl _
theorem SM.store {b : Nat} {kd who oth thg rts x0 x1 x2 x3 x4 : Int} (h : w.heap[b]? = some (.cells #[.int .i64 x0, .int .i64 x1, .int .i64 x2, .int .i64 x3, .int .i64 x4] 28 (0, 0)))
    (q1 : 0 ≤ who) (q2 : who < n) (q3 : 0 ≤ oth) (q4 : oth < n) (q5 : 0 ≤ thg) (q6 : thg < T) : SM g n T w (set5 w b kd who oth thg rts) := by
  have hg := grown_set5 w b kd who oth thg rts
  refine ⟨⟨hg.os, hg.tape, hg.output, hg.size, fun k hk hs => hg.block k hk (fun e => ?_)⟩, fun k hk ⟨a0, a1, a2, a3, a4, hc, hr⟩ => ?_⟩
  · cases e; exact hs (.inr ⟨_, h⟩)
  · by_cases e : k = b
    · subst e
      exact ⟨_, _, _, _, _, set5_same h, q1, q2, q3, q4, q5, q6⟩
    · exact ⟨a0, a1, a2, a3, a4, (hg.block k (Array.getElem?_eq_some_iff.1 hc).1 (fun e' => by cases e'; exact e rfl)).trans hc, hr⟩
end
theorem notMov_alloc (w : World) (arr : Array Value) : ¬ MovB (w.alloc (.cells arr 3)) w.heap.size := by
  rintro ⟨arr', h⟩
  rw [heap_alloc_new] at h
  simp only [Option.some.injEq, Obj.cells.injEq] at h
  exact absurd h.2.1 (by decide)
theorem MovB.back {g n T : Nat} {w w' : World} {b : Nat} (h : SM g n T w w') (hb : b < w.heap.size) (hg : b ≠ g) (hn : ¬ MovB w b) : ¬ MovB w' b := by
  rintro ⟨arr, e⟩
  rw [h.1.block b hb (fun e => e.elim hg hn)] at e
  exact hn ⟨_, e⟩
theorem cell_lt {w : World} {b i : Nat} {v : Value} (h : w.cell? ⟨b, i, none⟩ = some v) : b < w.heap.size := World.block_lt_of_cell? w _ h

/-- What is known of a value, as long as only the reader and moves are written. -/
structure FactM (g n T : Nat) where
  p : Value → World → Prop
  st : ∀ v w w', p v w → SM g n T w w' → p v w'
def FactM.top (g n T : Nat) : FactM g n T := ⟨fun _ _ => True, fun _ _ _ _ _ => trivial⟩
def FactM.eq (g n T : Nat) (u : Value) : FactM g n T := ⟨fun v _ => v = u, fun _ _ _ h _ => h⟩
def FactM.rng (g n T : Nat) (lo hi : Int) : FactM g n T := ⟨fun v _ => ∃ x : Int, v = .int .i64 x ∧ lo ≤ x ∧ x ≤ hi, fun _ _ _ h _ => h⟩
def FactM.mv (g n T : Nat) : FactM g n T := ⟨fun v _ => ∃ kd who oth thg rts : Int, v = .agg #[.int .i64 kd, .int .i64 who, .int .i64 oth, .int .i64 thg, .int .i64 rts] ∧ 0 ≤ who ∧ who < n ∧ 0 ≤ oth ∧ oth < n ∧ 0 ≤ thg ∧ thg < T, fun _ _ _ h _ => h⟩
def FactM.mvb (g n T L : Nat) : FactM g n T := ⟨fun v w => ∃ b, v = .pointer (some ⟨b, 0, none⟩) ∧ (L ≤ b ∧ b ≠ g) ∧ MovOk n T w b, fun _ _ _ ⟨b, h1, h2, h3⟩ hs => ⟨b, h1, h2, hs.2 b h2.2 h3⟩⟩
def FactM.lit (g n T m : Nat) (lo hi : Int) : FactM g n T :=
  ⟨fun v w => ∃ b, v = .slice (some ⟨b, 0, none⟩) m m ∧ (b ≠ g ∧ b < w.heap.size ∧ ¬ MovB w b) ∧ ∀ i, i < m → ∃ x : Int, (lo ≤ x ∧ x ≤ hi) ∧ w.cell? ⟨b, i, none⟩ = some (.int .i64 x),
   fun _ _ _ ⟨b, hv, ⟨hb, hl, hn⟩, hc⟩ ht => ⟨b, hv, ⟨hb, Nat.lt_of_lt_of_le hl ht.1.size, MovB.back ht hl hb hn⟩, fun i hi => by obtain ⟨x, hx, he⟩ := hc i hi; exact ⟨x, hx, ht.1.cell he (fun e => e.elim hb hn)⟩⟩⟩
def FactM.adr (g n T : Nat) (lo hi : Int) : FactM g n T :=
  ⟨fun v w => ∃ b i, v = .pointer (some ⟨b, i, none⟩) ∧ (b ≠ g ∧ b < w.heap.size ∧ ¬ MovB w b) ∧ ∃ x : Int, (lo ≤ x ∧ x ≤ hi) ∧ w.cell? ⟨b, i, none⟩ = some (.int .i64 x),
   fun _ _ _ ⟨b, i, hv, ⟨hb, hl, hn⟩, x, hx, he⟩ ht => ⟨b, i, hv, ⟨hb, Nat.lt_of_lt_of_le hl ht.1.size, MovB.back ht hl hb hn⟩, x, hx, ht.1.cell he (fun e => e.elim hb hn)⟩⟩

theorem wp_region_drawM {P : Program} {Q : Exit → Act → World → Prop} {l : List Oper} {a0 : Act} {id : Nat} {w : World} {B g n T : Nat} (p C : Nat) (fs : List (FactM g n T)) (hm : P.follows .mixedOrders = true)
    (hB : (dstsB l && backB 0 l && plainB l) = true) (hR : roomB a0.tmps.size l = true) (h0 : Rdr w B g p)
    (hop : Each (fun i o => ∀ (t : Nat) (A : Act) (vs : Nat → Value) (wt : World), t < l.length → InvD w B g p C t wt → (∀ j, waitsB o j = true → (fs.getD j (FactM.top g n T)).p (vs j) wt) → (∀ d, A.tmps[d]?.getD undef = look l vs 0 a0 d) →
      ∀ K : Act → World → Prop, (∀ v w', (fs.getD i (FactM.top g n T)).p v w' → SM g n T wt w' → InvD w B g p C (t + 1) w' → K (A.put o.dst v) w') → o.wp P A wt K Q) 0 l)
    (hfin : ∀ vs w', Rdr w' B g (p + C * l.length) → Tch w w' (· = g) → Each (fun i _ => (fs.getD i (FactM.top g n T)).p (vs i) w') 0 l → Q .normal (putAll l vs 0 a0) w') : (Code.region id l.toArray true).wp P Q a0 w :=
  wp_region_once (fun i v w => (fs.getD i (FactM.top g n T)).p v w) (fun w w' => SM g n T w w') (fun t wt => InvD w B g p C t wt) hm hB hR
    ⟨(h0.keep ((Below.refl _ _).drew)).more (by omega), Tch.ext ((Below.refl _ _).drew)⟩ (fun k v w w' h ht => (fs.getD k (FactM.top g n T)).st v w w' h ht) hop
    (fun t vs w' ht hI hF => hfin vs w' (hI.rd.more (by have := Nat.mul_le_mul_left C ht; omega)) hI.tc hF)

theorem mv_cells {w : World} {b t : Nat} {x0 x1 x2 x3 x4 : Int} (h : w.heap[b]? = some (.cells #[.int .i64 x0, .int .i64 x1, .int .i64 x2, .int .i64 x3, .int .i64 x4] t (0, 0))) :
    (w.cell? ⟨b, 0, none⟩ = some (.int .i64 x0) ∧ w.cell? ⟨b, 1, none⟩ = some (.int .i64 x1) ∧ w.cell? ⟨b, 2, none⟩ = some (.int .i64 x2) ∧ w.cell? ⟨b, 3, none⟩ = some (.int .i64 x3) ∧ w.cell? ⟨b, 4, none⟩ = some (.int .i64 x4)) ∧ ∀ i, w.frozen? ⟨b, i, none⟩ = false :=
  ⟨⟨cell_of_row _ _ 0 _ _ _ h, cell_of_row _ _ 1 _ _ _ h, cell_of_row _ _ 2 _ _ _ h, cell_of_row _ _ 3 _ _ _ h, cell_of_row _ _ 4 _ _ _ h⟩, fun i => frozen_of_row _ _ i _ _ h⟩
theorem blt {w : World} {b : Nat} {x : Obj} (h : w.heap[b]? = some x) : b < w.heap.size := (Array.getElem?_eq_some_iff.1 h).1
theorem Rdr.setC {w : World} {B g p b i : Nat} {u : Value} (h : Rdr w B g p) (hb : B ≤ b) : Rdr (w.setCell ⟨b, i, none⟩ u) B g p :=
  h.past (grown_set (p := ⟨b, i, none⟩) (g := b) (World.grownBy.refl w _) rfl u) (fun k e => by cases e; exact hb)
theorem Rdr.dr {w : World} {B g p : Nat} (h : Rdr w B g p) : Rdr w.drew B g p := h.keep ((Below.refl _ _).drew)
theorem Rdr.set5 {w : World} {B g p b : Nat} {x0 x1 x2 x3 x4 : Int} (h : Rdr w B g p) (hb : B ≤ b) : Rdr (Go.Proofs.Ytbljkahdhckegaa.set5 w b x0 x1 x2 x3 x4) B g p :=
  h.past (grown_set5 _ _ _ _ _ _ _) (fun k e => by cases e; exact hb)
theorem Tch.set5 {w w' : World} {S : Nat → Prop} {b : Nat} {x0 x1 x2 x3 x4 : Int} (h : Tch w w' S) (hb : w.heap.size ≤ b) : Tch w (Go.Proofs.Ytbljkahdhckegaa.set5 w' b x0 x1 x2 x3 x4) S :=
  h.new (grown_set5 _ _ _ _ _ _ _) (fun k e => by cases e; exact hb)
theorem RdA.atX {w : World} {B : Nat} {A : Option Addr} {n c m i j : Nat} {xss : List (List Int)} (h : RdA w B A n c xss) (ht : Tab n m xss) (hi : i < n) (hj : j < m) :
    ∃ b off b1 off1 c1, A = some ⟨b, off, none⟩ ∧ w.cell? ⟨b, off + i, none⟩ = some (.slice (some ⟨b1, off1, none⟩) m c1) ∧ m ≤ c1 ∧ c1 ≤ 9223372036854775807 ∧ w.cell? ⟨b1, off1 + j, none⟩ = some (.int .i64 (el xss i j)) ∧ B ≤ b ∧ B ≤ b1 := by
  obtain ⟨hs, h1, hf, h2, h3⟩ := h.ex
  obtain ⟨b, off, rfl, hc⟩ := h1.cells (by omega)
  obtain ⟨⟨A1, m1, c1⟩, hx⟩ := get_of_lt (show hs.length = n by rw [h2, ht.len]) hi
  obtain ⟨xs, hxs, hl⟩ := ht.at hi
  obtain ⟨R, F⟩ := h3 i _ xs hx hxs
  have hm : m1 = m := by have e := R.lenI; simp only at e; omega
  simp only at R F
  subst hm
  obtain ⟨b1, off1, z, rfl, Z, q⟩ := R.atI hj
  rw [← el_get hxs Z.out] at q
  exact ⟨b, off, b1, off1, c1, rfl, hc i _ (by rw [List.getElem?_map, hx]; rfl), R.le, R.top, q, hf _ _ rfl (by omega), F _ _ rfl (by omega)⟩

set_option maxRecDepth 10000 in
set_option maxHeartbeats 8000000 in
theorem l20Move_any (B g p : Nat) (A : Option Addr) (n c : Nat) (xss : List (List Int)) (k : Int) (w : World) (h : Rdr w B g p) (hB : B ≤ w.heap.size) (hA : RdA w B A n c xss) (hn1 : 1 ≤ n) (hn8 : n ≤ 8) (hr8 : ∀ r ∈ xss, r.length ≤ 8) (hk : 0 ≤ k) (hk' : k ≤ 1000) (hp : p ≤ 100000) :
    Calls Try.prog 43 #[.pointer (some ⟨g, 0, none⟩), .slice A n c, .int .i64 k] w fun e w' => ∃ kd who oth thg rts : Int, e = .returned (.agg #[.int .i64 kd, .int .i64 who, .int .i64 oth, .int .i64 thg, .int .i64 rts]) ∧ Rdr w' B g (p + 400) ∧ Tch w w' (· = g) := by
  have hgB := h.low
  have hgw : g < w.heap.size := Nat.lt_of_lt_of_le hgB hB
  obtain ⟨w1, hw1⟩ : ∃ w1, w1 = w.alloc (.cells #[.int .i64 0, .int .i64 0, .int .i64 0, .int .i64 0, .int .i64 0] 28) := ⟨_, rfl⟩
  have he1 : Ext w w1 := by rw [hw1]; exact (Below.refl _ _).alloc (Nat.le_refl _) _
  have hA1 := hA.below he1
  have HR := h.keep he1
  have hB1 : B ≤ w1.heap.size := Nat.le_trans hB he1.size
  obtain ⟨hs, hH, hlen, hrows⟩ := hA1.rdR.ex
  obtain ⟨bg, og, hAA, hcells⟩ := hH.cells (by omega)
  subst hAA
  have hcn := hH.le
  have hct := hH.top
  have hsl : hs.length = n := by have := hH.len; simpa using this
  obtain ⟨⟨A0, m0, c0⟩, hx0⟩ := get_of_lt hsl (show 0 < n by omega)
  have gh0 : w1.cell? ⟨bg, og, none⟩ = some (.slice A0 m0 c0) := hcells 0 _ (by rw [List.getElem?_map, hx0]; rfl)
  obtain ⟨xs0, hxs0⟩ : ∃ r0, xss[0]? = some r0 := ⟨_, List.getElem?_eq_getElem (by omega)⟩
  have hR0 : Rd w1 1 A0 m0 c0 (cI xs0) := hrows 0 _ _ hx0 hxs0
  have hm8 : m0 ≤ 8 := by have := hr8 xs0 (List.mem_of_getElem? hxs0); have := hR0.lenI; omega
  go_enter Try.func43, Try.ntmps43
  have HZ0 : w1.heap[w.heap.size]? = some (.cells #[.int .i64 0, .int .i64 0, .int .i64 0, .int .i64 0, .int .i64 0] 28 (0, 0)) := by rw [hw1]; exact heap_alloc_new _ _
  have gh1 := gh0
  rw [hw1] at gh1
  go_upto_if 18 with fail
  go_cut [7] (fun s7 wx => wx = w1 ∧ ∃ T : Nat, s7 = .int .i64 T ∧ 1 ≤ T ∧ T ≤ 8 ∧ (0 < m0 → T = m0))
  case first =>
    rcases Nat.eq_zero_or_pos m0 with hm | hm
    · subst hm
      go_wp2
      go_meet
      exact ⟨hw1.symm, 1, rfl, by omega, by omega, fun h => absurd h (by omega)⟩
    · have hm' : (0 : Int) < m0 := by omega
      go_wp2
      go_meet
      exact ⟨hw1.symm, m0, rfl, by omega, by omega, fun _ => rfl⟩
  case rest =>
  obtain ⟨hwc, T, rfl, hT1, hT8, hTm⟩ := hcut
  have hwc2 := hwc.symm
  subst hwc2
  clear gh1
  go_upto_region 4 with fail
  go_cut [8] (fun s8 wx => ∃ b : Nat, ∃ kd who oth thg rts : Int, s8 = .pointer (some ⟨b, 0, none⟩) ∧ w1.heap.size ≤ b ∧ b ≠ g ∧ wx.heap[b]? = some (.cells #[.int .i64 kd, .int .i64 who, .int .i64 oth, .int .i64 thg, .int .i64 rts] 28 (0, 0)) ∧ (0 ≤ who ∧ who < n ∧ 0 ≤ oth ∧ oth < n ∧ 0 ≤ thg ∧ thg < T) ∧ Rdr wx B g (p + 348) ∧ Tch w1 wx (· = g))
  case first =>
    refine wp_region_drawM (n := n) (T := T) (g := g) (B := B) (p) 12 [.eq _ _ _ (Value.pointer (some ⟨g, 0, none⟩)), .rng _ _ _ (0) (2), .rng _ _ _ (1) (3), .eq _ _ _ (Value.pointer (some ⟨g, 0, none⟩)), .eq _ _ _ (Value.slice (some ⟨bg, og, none⟩) n c), .eq _ _ _ (Value.int .i64 (n : Int)), .eq _ _ _ (Value.int .i64 (n : Int)), .rng _ _ _ (0) ((n : Int) - 1), .eq _ _ _ (Value.pointer (some ⟨g, 0, none⟩)), .eq _ _ _ (Value.slice (some ⟨bg, og, none⟩) n c), .eq _ _ _ (Value.int .i64 (n : Int)), .eq _ _ _ (Value.int .i64 (n : Int)), .rng _ _ _ (0) ((n : Int) - 1), .eq _ _ _ (Value.pointer (some ⟨g, 0, none⟩)), .eq _ _ _ (Value.int .i64 (T : Int)), .rng _ _ _ (0) ((T : Int) - 1), .eq _ _ _ (Value.pointer (some ⟨g, 0, none⟩)), .rng _ _ _ (0) (3), .rng _ _ _ (1) (8), .eq _ _ _ (Value.pointer (some ⟨g, 0, none⟩)), .rng _ _ _ (0) (15), .lit _ _ _ 3 (0) (15), .eq _ _ _ (Value.pointer (some ⟨g, 0, none⟩)), .rng _ _ _ (0) (2), .adr _ _ _ (0) (15), .rng _ _ _ (0) (15), .mv _ _ _, .mvb _ _ _ w1.heap.size, .top _ _ _] (by kernel_rfl) (by kernel_rfl) (by rfl) HR ?_ ?_
    · refine ⟨?_, ?_, ?_, ?_, ?_, ?_, ?_, ?_, ?_, ?_, ?_, ?_, ?_, ?_, ?_, ?_, ?_, ?_, ?_, ?_, ?_, ?_, ?_, ?_, ?_, ?_, ?_, ?_, ?_, trivial⟩
      · intro t a_ vs wt ht hI hD hA K hK
        have a0 : a_.tmps[0]?.getD undef = Value.pointer (some ⟨g, 0, none⟩) := hA 0
        clear hA hD
        go_simp
        exact hK _ _ rfl SM.refl hI.stay
      · intro t a_ vs wt ht hI hD hA K hK
        have d0 : vs 0 = Value.pointer (some ⟨g, 0, none⟩) := hD 0 rfl
        have a23 : a_.tmps[23]?.getD undef = vs 0 := hA 23
        rw [d0] at a23
        clear hA hD
        go_simp
        refine (pickT _ _ _ _ _ hI.rd (by omega) (by omega) (by have : t < 29 := ht; omega)).mono ?_; rintro e w2 ⟨k, hk, rfl, hr, hT⟩
        exact hK _ _ ⟨_, rfl, by omega, by omega⟩ (SM.of hT) (hI.call hr (by omega) hT)
      · intro t a_ vs wt ht hI hD hA K hK
        obtain ⟨x1, d1, l1, u1⟩ := hD 1 rfl
        have a24 : a_.tmps[24]?.getD undef = vs 1 := hA 24
        rw [d1] at a24
        clear hA hD
        have ew : IntKind.i64.wrap (1 + x1) = 1 + x1 := by rw [IntKind.wrap_i64]; omega
        go_simp
        exact hK _ _ ⟨_, rfl, by omega, by omega⟩ SM.refl hI.stay
      · intro t a_ vs wt ht hI hD hA K hK
        have a0 : a_.tmps[0]?.getD undef = Value.pointer (some ⟨g, 0, none⟩) := hA 0
        clear hA hD
        go_simp
        exact hK _ _ rfl SM.refl hI.stay
      · intro t a_ vs wt ht hI hD hA K hK
        have a1 : a_.tmps[1]?.getD undef = Value.slice (some ⟨bg, og, none⟩) n c := hA 1
        clear hA hD
        go_simp
        exact hK _ _ rfl SM.refl hI.stay
      · intro t a_ vs wt ht hI hD hA K hK
        have d4 : vs 4 = Value.slice (some ⟨bg, og, none⟩) n c := hD 4 rfl
        have a27 : a_.tmps[27]?.getD undef = vs 4 := hA 27
        rw [d4] at a27
        clear hA hD
        go_simp
        exact hK _ _ rfl SM.refl hI.stay
      · intro t a_ vs wt ht hI hD hA K hK
        have d5 : vs 5 = Value.int .i64 (n : Int) := hD 5 rfl
        have a28 : a_.tmps[28]?.getD undef = vs 5 := hA 28
        rw [d5] at a28
        clear hA hD
        have mx : (if (n : Int) > 1 then (n : Int) else 1) = (n : Int) := by split <;> omega
        go_simp
        exact hK _ _ rfl SM.refl hI.stay
      · intro t a_ vs wt ht hI hD hA K hK
        have d3 : vs 3 = Value.pointer (some ⟨g, 0, none⟩) := hD 3 rfl
        have a26 : a_.tmps[26]?.getD undef = vs 3 := hA 26
        rw [d3] at a26
        have d6 : vs 6 = Value.int .i64 (n : Int) := hD 6 rfl
        have a29 : a_.tmps[29]?.getD undef = vs 6 := hA 29
        rw [d6] at a29
        clear hA hD
        go_simp
        refine (pickT _ _ _ _ _ hI.rd (by omega) (by omega) (by have : t < 29 := ht; omega)).mono ?_; rintro e w2 ⟨k, hk, rfl, hr, hT⟩
        exact hK _ _ ⟨_, rfl, by omega, by omega⟩ (SM.of hT) (hI.call hr (by omega) hT)
      · intro t a_ vs wt ht hI hD hA K hK
        have a0 : a_.tmps[0]?.getD undef = Value.pointer (some ⟨g, 0, none⟩) := hA 0
        clear hA hD
        go_simp
        exact hK _ _ rfl SM.refl hI.stay
      · intro t a_ vs wt ht hI hD hA K hK
        have a1 : a_.tmps[1]?.getD undef = Value.slice (some ⟨bg, og, none⟩) n c := hA 1
        clear hA hD
        go_simp
        exact hK _ _ rfl SM.refl hI.stay
      · intro t a_ vs wt ht hI hD hA K hK
        have d9 : vs 9 = Value.slice (some ⟨bg, og, none⟩) n c := hD 9 rfl
        have a32 : a_.tmps[32]?.getD undef = vs 9 := hA 32
        rw [d9] at a32
        clear hA hD
        go_simp
        exact hK _ _ rfl SM.refl hI.stay
      · intro t a_ vs wt ht hI hD hA K hK
        have d10 : vs 10 = Value.int .i64 (n : Int) := hD 10 rfl
        have a33 : a_.tmps[33]?.getD undef = vs 10 := hA 33
        rw [d10] at a33
        clear hA hD
        have mx : (if (n : Int) > 1 then (n : Int) else 1) = (n : Int) := by split <;> omega
        go_simp
        exact hK _ _ rfl SM.refl hI.stay
      · intro t a_ vs wt ht hI hD hA K hK
        have d8 : vs 8 = Value.pointer (some ⟨g, 0, none⟩) := hD 8 rfl
        have a31 : a_.tmps[31]?.getD undef = vs 8 := hA 31
        rw [d8] at a31
        have d11 : vs 11 = Value.int .i64 (n : Int) := hD 11 rfl
        have a34 : a_.tmps[34]?.getD undef = vs 11 := hA 34
        rw [d11] at a34
        clear hA hD
        go_simp
        refine (pickT _ _ _ _ _ hI.rd (by omega) (by omega) (by have : t < 29 := ht; omega)).mono ?_; rintro e w2 ⟨k, hk, rfl, hr, hT⟩
        exact hK _ _ ⟨_, rfl, by omega, by omega⟩ (SM.of hT) (hI.call hr (by omega) hT)
      · intro t a_ vs wt ht hI hD hA K hK
        have a0 : a_.tmps[0]?.getD undef = Value.pointer (some ⟨g, 0, none⟩) := hA 0
        clear hA hD
        go_simp
        exact hK _ _ rfl SM.refl hI.stay
      · intro t a_ vs wt ht hI hD hA K hK
        have a7 : a_.tmps[7]?.getD undef = Value.int .i64 (T : Int) := hA 7
        clear hA hD
        go_simp
        exact hK _ _ rfl SM.refl hI.stay
      · intro t a_ vs wt ht hI hD hA K hK
        have d13 : vs 13 = Value.pointer (some ⟨g, 0, none⟩) := hD 13 rfl
        have a36 : a_.tmps[36]?.getD undef = vs 13 := hA 36
        rw [d13] at a36
        have d14 : vs 14 = Value.int .i64 (T : Int) := hD 14 rfl
        have a37 : a_.tmps[37]?.getD undef = vs 14 := hA 37
        rw [d14] at a37
        clear hA hD
        go_simp
        refine (pickT _ _ _ _ _ hI.rd (by omega) (by omega) (by have : t < 29 := ht; omega)).mono ?_; rintro e w2 ⟨k, hk, rfl, hr, hT⟩
        exact hK _ _ ⟨_, rfl, by omega, by omega⟩ (SM.of hT) (hI.call hr (by omega) hT)
      · intro t a_ vs wt ht hI hD hA K hK
        have a0 : a_.tmps[0]?.getD undef = Value.pointer (some ⟨g, 0, none⟩) := hA 0
        clear hA hD
        go_simp
        exact hK _ _ rfl SM.refl hI.stay
      · intro t a_ vs wt ht hI hD hA K hK
        have d16 : vs 16 = Value.pointer (some ⟨g, 0, none⟩) := hD 16 rfl
        have a39 : a_.tmps[39]?.getD undef = vs 16 := hA 39
        rw [d16] at a39
        clear hA hD
        go_simp
        refine (pickT _ _ _ _ _ hI.rd (by omega) (by omega) (by have : t < 29 := ht; omega)).mono ?_; rintro e w2 ⟨k, hk, rfl, hr, hT⟩
        exact hK _ _ ⟨_, rfl, by omega, by omega⟩ (SM.of hT) (hI.call hr (by omega) hT)
      · intro t a_ vs wt ht hI hD hA K hK
        obtain ⟨x17, d17, l17, u17⟩ := hD 17 rfl
        have a40 : a_.tmps[40]?.getD undef = vs 17 := hA 40
        rw [d17] at a40
        clear hA hD
        obtain rfl | rfl | rfl | rfl : x17 = 0 ∨ x17 = 1 ∨ x17 = 2 ∨ x17 = 3 := by omega
        all_goals (go_simp; exact hK _ _ ⟨_, rfl, by decide, by decide⟩ SM.refl hI.stay)
      · intro t a_ vs wt ht hI hD hA K hK
        have a0 : a_.tmps[0]?.getD undef = Value.pointer (some ⟨g, 0, none⟩) := hA 0
        clear hA hD
        go_simp
        exact hK _ _ rfl SM.refl hI.stay
      · intro t a_ vs wt ht hI hD hA K hK
        have d19 : vs 19 = Value.pointer (some ⟨g, 0, none⟩) := hD 19 rfl
        have a42 : a_.tmps[42]?.getD undef = vs 19 := hA 42
        rw [d19] at a42
        clear hA hD
        go_simp
        refine (pickT _ _ _ _ _ hI.rd (by omega) (by omega) (by have : t < 29 := ht; omega)).mono ?_; rintro e w2 ⟨k, hk, rfl, hr, hT⟩
        exact hK _ _ ⟨_, rfl, by omega, by omega⟩ (SM.of hT) (hI.call hr (by omega) hT)
      · intro t a_ vs wt ht hI hD hA K hK
        obtain ⟨x18, d18, l18, u18⟩ := hD 18 rfl
        have a41 : a_.tmps[41]?.getD undef = vs 18 := hA 41
        rw [d18] at a41
        obtain ⟨x20, d20, l20, u20⟩ := hD 20 rfl
        have a43 : a_.tmps[43]?.getD undef = vs 20 := hA 43
        rw [d20] at a43
        clear hA hD
        have hc := fun e => lit_all (w := wt) (e := e) (lo := 0) (hi := 15) [(x18), (x20), (0)] (by simp only [List.mem_cons, List.not_mem_nil, or_false]; omega) rfl
        go_simp
        exact hK _ _ ⟨_, rfl, ⟨hI.ne, by simp, notMov_alloc _ _⟩, hc _⟩ (SM.of (tch_alloc _ _ _)) (hI.alloc _)
      · intro t a_ vs wt ht hI hD hA K hK
        have a0 : a_.tmps[0]?.getD undef = Value.pointer (some ⟨g, 0, none⟩) := hA 0
        clear hA hD
        go_simp
        exact hK _ _ rfl SM.refl hI.stay
      · intro t a_ vs wt ht hI hD hA K hK
        have d22 : vs 22 = Value.pointer (some ⟨g, 0, none⟩) := hD 22 rfl
        have a45 : a_.tmps[45]?.getD undef = vs 22 := hA 45
        rw [d22] at a45
        clear hA hD
        go_simp
        refine (pickT _ _ _ _ _ hI.rd (by omega) (by omega) (by have : t < 29 := ht; omega)).mono ?_; rintro e w2 ⟨k, hk, rfl, hr, hT⟩
        exact hK _ _ ⟨_, rfl, by omega, by omega⟩ (SM.of hT) (hI.call hr (by omega) hT)
      · intro t a_ vs wt ht hI hD hA K hK
        obtain ⟨b21, d21, n21, c21⟩ := hD 21 rfl
        have a44 : a_.tmps[44]?.getD undef = vs 21 := hA 44
        rw [d21] at a44
        obtain ⟨x23, d23, l23, u23⟩ := hD 23 rfl
        have a46 : a_.tmps[46]?.getD undef = vs 23 := hA 46
        rw [d23] at a46
        clear hA hD
        have z0 : 0 ≤ x23 := by omega
        have z1 : x23 < 3 := by omega
        obtain ⟨y, hy, cy⟩ := c21 (x23).toNat (by omega)
        go_simp
        exact hK _ _ ⟨_, _, rfl, n21, y, hy, cy⟩ SM.refl hI.stay
      · intro t a_ vs wt ht hI hD hA K hK
        obtain ⟨b24, i24, d24, n24, y24, q24, c24⟩ := hD 24 rfl
        have a47 : a_.tmps[47]?.getD undef = vs 24 := hA 47
        rw [d24] at a47
        clear hA hD
        go_simp
        exact hK _ _ ⟨_, rfl, q24.1, q24.2⟩ SM.refl hI.stay
      · intro t a_ vs wt ht hI hD hA K hK
        obtain ⟨x2, d2, l2, u2⟩ := hD 2 rfl
        have a25 : a_.tmps[25]?.getD undef = vs 2 := hA 25
        rw [d2] at a25
        obtain ⟨x7, d7, l7, u7⟩ := hD 7 rfl
        have a30 : a_.tmps[30]?.getD undef = vs 7 := hA 30
        rw [d7] at a30
        obtain ⟨x12, d12, l12, u12⟩ := hD 12 rfl
        have a35 : a_.tmps[35]?.getD undef = vs 12 := hA 35
        rw [d12] at a35
        obtain ⟨x15, d15, l15, u15⟩ := hD 15 rfl
        have a38 : a_.tmps[38]?.getD undef = vs 15 := hA 38
        rw [d15] at a38
        obtain ⟨x25, d25, l25, u25⟩ := hD 25 rfl
        have a48 : a_.tmps[48]?.getD undef = vs 25 := hA 48
        rw [d25] at a48
        clear hA hD
        go_simp
        exact hK _ _ ⟨_, _, _, _, _, rfl, by omega, by omega, by omega, by omega, by omega, by omega⟩ SM.refl hI.stay
      · intro t a_ vs wt ht hI hD hA K hK
        clear hA hD
        have hL := hI.tc.size
        have ok : MovOk n (T) (wt.alloc (.cells #[.int .i64 0, .int .i64 0, .int .i64 0, .int .i64 0, .int .i64 0] 28)) wt.heap.size := ⟨0, 0, 0, 0, 0, heap_alloc_new _ _, by omega, by omega, by omega, by omega, by omega, by omega⟩
        go_simp
        exact hK _ _ ⟨_, rfl, ⟨hL, hI.ne⟩, ok⟩ (SM.of (tch_alloc _ _ _)) (hI.alloc _)
      · intro t a_ vs wt ht hI hD hA K hK
        obtain ⟨kd, who, oth, thg, rts, d26, q1, q2, q3, q4, q5, q6⟩ := hD 26 rfl
        obtain ⟨b, d27, ⟨hbL, hng⟩, kd0, who0, oth0, thg0, rts0, hb, _⟩ := hD 27 rfl
        have a49 : a_.tmps[49]?.getD undef = vs 26 := hA 49
        have a8 : a_.tmps[8]?.getD undef = vs 27 := hA 8
        rw [d26] at a49
        rw [d27] at a8
        obtain ⟨⟨c0_, c1_, c2_, c3_, c4_⟩, fz⟩ := mv_cells hb
        clear hA hD
        go_simp
        exact hK undef _ trivial (SM.store hb q1 q2 q3 q4 q5 q6) (hI.row (grown_set5 _ _ _ _ _ _ _) (fun k e => by cases e; exact hbL) (by omega))
    · intro vs wz hrz hTz hF
      obtain ⟨f0, f1, f2, f3, f4, f5, f6, f7, f8, f9, f10, f11, f12, f13, f14, f15, f16, f17, f18, f19, f20, f21, f22, f23, f24, f25, f26, f27, f28, -⟩ := hF
      simp only [putAll, Act.put, List.setIfInBounds_toArray, List.set_cons_zero, List.set_cons_succ]
      obtain ⟨b, e27, ⟨hbL, hng⟩, kd, who, oth, thg, rts, hcb, q1, q2, q3, q4, q5, q6⟩ := f27
      go_wp2
      go_meet
      exact ⟨b, kd, who, oth, thg, rts, (by first | exact e27 | rfl), hbL, hng, hcb, ⟨q1, q2, q3, q4, q5, q6⟩, hrz, hTz⟩
  case rest =>
  obtain ⟨b, kd, who, oth, thg, rts, rfl, hbL, hng, hcb, ⟨q1, q2, q3, q4, q5, q6⟩, hrz, hTz⟩ := hcut
  have hzg : ¬ w.heap.size = g := by omega
  have hbB : B ≤ b := by omega
  have hAz := (hA1.only hTz (fun k e => by omega)).rdR
  clear HR hA h gh0
  go_upto_region 5 with fail
  go_cut [61] (fun s61 wx => ∃ t : Bool, s61 = .bool t ∧ (t = true → gValid xss = true) ∧ wx.heap[b]? = some (.cells #[.int .i64 kd, .int .i64 who, .int .i64 oth, .int .i64 thg, .int .i64 rts] 28 (0, 0)) ∧ Rdr wx B g (p + 349) ∧ Tch w1 wx (· = g))
  case first =>
    go_wp2_with fail
    refine (specGraphValid_any _ _ _ _ _ hAz).mono ?_; rintro e wv ⟨rfl, hbv⟩
    have hrv := hrz.keep hbv
    have HCv := (hbv.block b (blt hcb)).trans hcb
    have hTv := hTz.trans (Tch.ext (S := (· = g)) hbv)
    obtain ⟨tv, hv⟩ : ∃ tv, gValid xss = tv := ⟨_, rfl⟩
    have HV := Lib.hid hv
    rw [hv]
    clear hcb hrz hAz hbv hTz hv hA1
    cases tv with
    | false =>
      go_wp2
      go_meet
      exact ⟨false, rfl, (fun h => by cases h), HCv, hrv.more (by omega), hTv⟩
    | true =>
      go_wp2_with fail
      refine (pickT _ _ _ _ _ hrv (by omega) (by omega) (by omega)).mono ?_; rintro e w6 ⟨k6, hk6, rfl, hr6, hT6_⟩
      have HC6 := (hT6_.block b (blt HCv) hng).trans HCv
      have hT6 := hTv.trans hT6_
      clear hrv hTv HCv hT6_
      obtain rfl | rfl : k6 = 1 ∨ k6 = 0 := by omega
      · go_wp2
        go_meet
        exact ⟨false, rfl, (fun h => by cases h), HC6, hr6, hT6⟩
      · go_wp2
        go_meet
        exact ⟨true, rfl, (fun _ => HV.out), HC6, hr6, hT6⟩
  case rest =>
  clear hcb hrz hTz hAz
  obtain ⟨t, rfl, hvt, HC6, hr6, hT6⟩ := hcut
  go_upto_if 61 with fail
  go_cut [] (fun wx => ∃ rts : Int, wx.heap[b]? = some (.cells #[.int .i64 kd, .int .i64 who, .int .i64 oth, .int .i64 thg, .int .i64 rts] 28 (0, 0)) ∧ Rdr wx B g (p + 349) ∧ Tch w1 wx (· = g))
  case first =>
    cases t with
    | false =>
      go_wp2
      go_meet
      exact ⟨rts, HC6, hr6, hT6⟩
    | true =>
      obtain ⟨n2, m2, hT2, hnm, _⟩ := tab_of_valid (hvt rfl)
      obtain rfl : m2 = m0 := by
        have e1 := hT2.row xs0 (List.mem_of_getElem? hxs0)
        have e2 := hR0.lenI
        omega
      obtain rfl : n2 = n := by
        have e3 := hT2.len
        omega
      have hT0 := hTm (by omega)
      have TT := Lib.hid hT2
      clear hT2 hvt hlen hrows hcells hH hxs0 hx0 hR0
      obtain ⟨oth, rfl⟩ := Int.eq_ofNat_of_zero_le q3
      obtain ⟨thg, rfl⟩ := Int.eq_ofNat_of_zero_le q5
      obtain ⟨who, rfl⟩ := Int.eq_ofNat_of_zero_le q1
      have HK : ∀ blk off v, w1.cell? ⟨blk, off, none⟩ = some v → B ≤ blk → wc.cell? ⟨blk, off, none⟩ = some v := fun blk off v hc hb => hT6.cell hc (by omega)
      obtain ⟨_, _, b1, off1, cc1, hA'1, g1, hm1, ht1, q1_, hB1, hC1⟩ := hA1.atX TT.out (i := oth) (j := thg) (by omega) (by omega)
      simp only [Option.some.injEq, Addr.mk.injEq, and_true] at hA'1
      obtain ⟨rfl, rfl⟩ := hA'1
      have nb1 : ¬ bg = b := by have := cell_lt g1; omega
      have no1 : ¬ b1 = b := by have := cell_lt q1_; omega
      have G1 := HK _ _ _ g1 (by omega)
      have Q1 := HK _ _ _ q1_ (by omega)
      obtain ⟨y1, hy1⟩ : ∃ y, el xss oth thg = y := ⟨_, rfl⟩
      rw [hy1] at Q1
      clear g1 q1_ hy1
      by_cases hk2 : kd = 2
      · subst hk2
        obtain ⟨_, _, b2, off2, cc2, hA'2, g2, hm2, ht2, q2_, hB2, hC2⟩ := hA1.atX TT.out (i := who) (j := thg) (by omega) (by omega)
        simp only [Option.some.injEq, Addr.mk.injEq, and_true] at hA'2
        obtain ⟨rfl, rfl⟩ := hA'2
        have nb2 : ¬ bg = b := by have := cell_lt g2; omega
        have no2 : ¬ b2 = b := by have := cell_lt q2_; omega
        have G2 := HK _ _ _ g2 (by omega)
        have Q2 := HK _ _ _ q2_ (by omega)
        obtain ⟨y2, hy2⟩ : ∃ y, el xss who thg = y := ⟨_, rfl⟩
        rw [hy2] at Q2
        clear g2 q2_ hy2
        clear hA1 HK TT
        subst hT0
        obtain ⟨⟨m0_, m1_, m2_, m3_, m4_⟩, fm⟩ := mv_cells HC6
        have HF := heap_setCell_same _ _ 4 _ _ (.int .i64 y2) (heap_setCell_same _ _ 4 _ _ (.int .i64 y1) HC6)
        go_wp2
        go_region
        go_wp2
        go_region
        go_wp2
        go_meet
        exact ⟨_, HF, ((hr6.setC hbB).setC hbB).dr.dr, ((hT6.set (p := ⟨b, 4, none⟩) hbL _).set (p := ⟨b, 4, none⟩) hbL _).drew.drew⟩
      · clear hA1 HK TT
        subst hT0
        obtain ⟨⟨m0_, m1_, m2_, m3_, m4_⟩, fm⟩ := mv_cells HC6
        have HF := heap_setCell_same _ _ 4 _ _ (.int .i64 y1) HC6
        go_wp2
        go_region
        go_wp2
        go_meet
        exact ⟨_, HF, (hr6.setC hbB).dr, (hT6.set (p := ⟨b, 4, none⟩) hbL _).drew⟩
  case rest =>
  clear HC6 hr6 hT6 hvt hlen hrows hcells hH hxs0 hx0 hR0 hA1
  obtain ⟨rts5, HC, hr, hT⟩ := hcut
  go_upto_if 87 with (go_at_call 57; refine (oddT _ _ _ _ _ hr hk (by omega) (by omega)).mono ?_; rintro e wa ⟨t5, rfl, _, hra, hTa0⟩)
  have HCa := (hTa0.block b (blt HC) hng).trans HC
  have hTa := hT.trans hTa0
  clear HC hr hT hTa0
  go_cut [] (fun wx => ∃ kd who oth thg rts : Int, wx.heap[b]? = some (.cells #[.int .i64 kd, .int .i64 who, .int .i64 oth, .int .i64 thg, .int .i64 rts] 28 (0, 0)) ∧ Rdr wx B g (p + 352) ∧ Tch w1 wx (· = g))
  case first =>
    cases t5
    · go_wp2
      go_meet
      exact ⟨_, _, _, _, _, HCa, hra.more (by omega), hTa⟩
    · go_wp2_with fail
      refine (pickT _ _ _ _ _ hra (by omega) (by omega) (by omega)).mono ?_; rintro e wb ⟨kk, hkk, rfl, hrb, hTb0⟩
      have HCb := (hTb0.block b (blt HCa) hng).trans HCa
      have hTb := hTa.trans hTb0
      clear HCa hra hTa hTb0
      obtain rfl | rfl | rfl | rfl : kk = 0 ∨ kk = 1 ∨ kk = 2 ∨ kk = 3 := by omega
      · skip
        have ha : Ext wb (wb.alloc (.cells #[.int .i64 0, .int .i64 4] 3)) := (Below.refl _ _).alloc (Nat.le_refl _) _
        have hr4 := hrb.keep ha
        have hL : ∀ k, k < 2 → (wb.alloc (.cells #[.int .i64 0, .int .i64 4] 3)).cell? ⟨wb.heap.size, k, none⟩ = some (.int .i64 (lit2 0 4 k)) := fun k hk => lit2_cell wb _ _ _ hk
        have HC4 := (ha.block b (blt HCb)).trans HCb
        have hT4 := hTb.trans (Tch.ext (S := (· = g)) ha)
        have hgl := hrb.lt
        clear HCb hrb hTb ha
        go_wp2_with fail
        refine (pickT _ _ _ _ _ hr4 (by omega) (by omega) (by omega)).mono ?_; rintro e wc ⟨z, hz, rfl, hrc, hTc⟩
        have Q := hTc.cell (hL z (by omega)) (show ¬ _ = g by omega)
        have HCc := (hTc.block b (blt HC4) hng).trans HC4
        have hT5 := hT4.trans hTc
        have HF := heap_setCell_same _ _ 0 _ _ (.int .i64 (lit2 0 4 z)) HCc
        obtain ⟨⟨m0_, m1_, m2_, m3_, m4_⟩, fm⟩ := mv_cells HCc
        clear HC4 hT4 hTc hL hr4 HCc
        go_wp2
        go_meet
        exact ⟨_, _, _, _, _, HF, (hrc.setC hbB).more (by omega), hT5.set hbL _⟩
      · skip
        have ha : Ext wb (wb.alloc (.cells #[.int .i64 (-1), .int .i64 (n : Int)] 3)) := (Below.refl _ _).alloc (Nat.le_refl _) _
        have hr4 := hrb.keep ha
        have hL : ∀ k, k < 2 → (wb.alloc (.cells #[.int .i64 (-1), .int .i64 (n : Int)] 3)).cell? ⟨wb.heap.size, k, none⟩ = some (.int .i64 (lit2 (-1) (n : Int) k)) := fun k hk => lit2_cell wb _ _ _ hk
        have HC4 := (ha.block b (blt HCb)).trans HCb
        have hT4 := hTb.trans (Tch.ext (S := (· = g)) ha)
        have hgl := hrb.lt
        clear HCb hrb hTb ha
        go_wp2_with fail
        refine (pickT _ _ _ _ _ hr4 (by omega) (by omega) (by omega)).mono ?_; rintro e wc ⟨z, hz, rfl, hrc, hTc⟩
        have Q := hTc.cell (hL z (by omega)) (show ¬ _ = g by omega)
        have HCc := (hTc.block b (blt HC4) hng).trans HC4
        have hT5 := hT4.trans hTc
        have HF := heap_setCell_same _ _ 1 _ _ (.int .i64 (lit2 (-1) (n : Int) z)) HCc
        obtain ⟨⟨m0_, m1_, m2_, m3_, m4_⟩, fm⟩ := mv_cells HCc
        clear HC4 hT4 hTc hL hr4 HCc
        go_wp2
        go_meet
        exact ⟨_, _, _, _, _, HF, (hrc.setC hbB).more (by omega), hT5.set hbL _⟩
      · skip
        have ha : Ext wb (wb.alloc (.cells #[.int .i64 (-1), .int .i64 (T : Int)] 3)) := (Below.refl _ _).alloc (Nat.le_refl _) _
        have hr4 := hrb.keep ha
        have hL : ∀ k, k < 2 → (wb.alloc (.cells #[.int .i64 (-1), .int .i64 (T : Int)] 3)).cell? ⟨wb.heap.size, k, none⟩ = some (.int .i64 (lit2 (-1) (T : Int) k)) := fun k hk => lit2_cell wb _ _ _ hk
        have HC4 := (ha.block b (blt HCb)).trans HCb
        have hT4 := hTb.trans (Tch.ext (S := (· = g)) ha)
        have hgl := hrb.lt
        clear HCb hrb hTb ha
        go_wp2_with fail
        refine (pickT _ _ _ _ _ hr4 (by omega) (by omega) (by omega)).mono ?_; rintro e wc ⟨z, hz, rfl, hrc, hTc⟩
        have Q := hTc.cell (hL z (by omega)) (show ¬ _ = g by omega)
        have HCc := (hTc.block b (blt HC4) hng).trans HC4
        have hT5 := hT4.trans hTc
        have HF := heap_setCell_same _ _ 3 _ _ (.int .i64 (lit2 (-1) (T : Int) z)) HCc
        obtain ⟨⟨m0_, m1_, m2_, m3_, m4_⟩, fm⟩ := mv_cells HCc
        clear HC4 hT4 hTc hL hr4 HCc
        go_wp2
        go_meet
        exact ⟨_, _, _, _, _, HF, (hrc.setC hbB).more (by omega), hT5.set hbL _⟩
      · skip
        have HF := heap_setCell_same _ _ 4 _ _ (.int .i64 16) HCb
        obtain ⟨⟨m0_, m1_, m2_, m3_, m4_⟩, fm⟩ := mv_cells HCb
        go_wp2
        go_meet
        exact ⟨_, _, _, _, _, HF, (hrb.setC hbB).more (by omega), hTb.set hbL _⟩
  case rest =>
  clear HCa hra hTa
  obtain ⟨kd9, who9, oth9, thg9, rts9, HC, hr, hT⟩ := hcut
  have HZ := (hT.block w.heap.size (blt HZ0) hzg).trans HZ0
  obtain ⟨⟨m0_, m1_, m2_, m3_, m4_⟩, fm⟩ := mv_cells HC
  obtain ⟨⟨z0_, z1_, z2_, z3_, z4_⟩, fz⟩ := mv_cells HZ
  have hTw := (Tch.ext (S := (· = g)) he1).trans hT
  obtain ⟨⟨r0, r1, r2, r3, r4⟩, _⟩ := mv_cells (set5_same (kd := kd9) (who := who9) (oth := oth9) (thg := thg9) (rts := rts9) HZ)
  unfold Go.Proofs.Ytbljkahdhckegaa.set5 at r0 r1 r2 r3 r4
  clear HC HZ HZ0
  go_wp2
  refine bodyPost_ret (v := .agg #[.int .i64 kd9, .int .i64 who9, .int .i64 oth9, .int .i64 thg9, .int .i64 rts9]) (by simp [results, Try.results43, go_sem, r0, r1, r2, r3, r4]) rfl ?_
  exact ⟨_, _, _, _, _, rfl, (hr.set5 hB).more (by omega), hTw.set5 (Nat.le_refl _)⟩
end Go.Proofs.Ytbljkahdhckegaa
