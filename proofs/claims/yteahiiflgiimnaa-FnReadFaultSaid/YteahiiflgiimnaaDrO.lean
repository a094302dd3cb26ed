/-
  A region of what the reference draws: whatever its order, each value lies in its range.
-/
import Derived.Test.YteahiiflgiimnaaDrv
import Derived.Test.YteahiiflgiimnaaOnce
namespace Go.Proofs.Yteahiiflgiimnaa
open Go.RowKit

/-- What is known of a value, as long as only the reader in block g is written. -/
structure Fact (g : Nat) where
  p : Value → World → Prop
  st : ∀ v w w', p v w → Tch w w' (· = g) → p v w'
def Fact.top (g : Nat) : Fact g := ⟨fun _ _ => True, fun _ _ _ _ _ => trivial⟩
def Fact.eq (g : Nat) (u : Value) : Fact g := ⟨fun v _ => v = u, fun _ _ _ h _ => h⟩
def Fact.any {g : Nat} (q : Value → Prop) : Fact g := ⟨fun v _ => q v, fun _ _ _ h _ => h⟩
/-- A number in a range. -/
def Fact.rng (g : Nat) (lo hi : Int) : Fact g := ⟨fun v _ => ∃ x : Int, v = .int .i64 x ∧ lo ≤ x ∧ x ≤ hi, fun _ _ _ h _ => h⟩
/-- A slice of n numbers in a range. -/
def Fact.lit (g n : Nat) (lo hi : Int) : Fact g :=
  ⟨fun v w => ∃ b, v = .slice (some ⟨b, 0, none⟩) n n ∧ b ≠ g ∧ ∀ i, i < n → ∃ x : Int, (lo ≤ x ∧ x ≤ hi) ∧ w.cell? ⟨b, i, none⟩ = some (.int .i64 x),
   fun _ _ _ ⟨b, hv, hb, hc⟩ ht => ⟨b, hv, hb, fun i hi => by obtain ⟨x, hx, he⟩ := hc i hi; exact ⟨x, hx, ht.cell he hb⟩⟩⟩
/-- The address of a number in a range. -/
def Fact.adr (g : Nat) (lo hi : Int) : Fact g :=
  ⟨fun v w => ∃ b i, v = .pointer (some ⟨b, i, none⟩) ∧ b ≠ g ∧ ∃ x : Int, (lo ≤ x ∧ x ≤ hi) ∧ w.cell? ⟨b, i, none⟩ = some (.int .i64 x),
   fun _ _ _ ⟨b, i, hv, hb, x, hx, he⟩ ht => ⟨b, i, hv, hb, x, hx, ht.cell he hb⟩⟩

structure InvD (w0 : World) (B g p C t : Nat) (w : World) : Prop where
  rd : Rdr w B g (p + C * t)
  tc : Tch w0 w (· = g)
theorem InvD.call {w0 w w' : World} {B g p C t p' : Nat} (h : InvD w0 B g p C t w) (hr : Rdr w' B g p') (hp : p' ≤ p + C * t + C) (ht : Tch w w' (· = g)) : InvD w0 B g p C (t + 1) w' :=
  ⟨hr.more (by rw [Nat.mul_succ]; omega), h.tc.trans ht⟩
theorem InvD.stay {w0 w : World} {B g p C t : Nat} (h : InvD w0 B g p C t w) : InvD w0 B g p C (t + 1) w := h.call h.rd (by omega) (Tch.refl _ _)
theorem InvD.ext {w0 w w' : World} {B g p C t : Nat} (h : InvD w0 B g p C t w) (he : Ext w w') : InvD w0 B g p C (t + 1) w' := h.call (h.rd.keep he) (by omega) (Tch.ext he)
theorem InvD.alloc {w0 w : World} {B g p C t : Nat} (h : InvD w0 B g p C t w) (x : Obj) : InvD w0 B g p C (t + 1) (w.alloc x) := h.ext ((Below.refl _ _).alloc (Nat.le_refl _) x)
theorem InvD.ne {w0 w : World} {B g p C t : Nat} (h : InvD w0 B g p C t w) : w.heap.size ≠ g := by have := h.rd.lt; omega
theorem InvD.row {w0 w w' : World} {B g p C t : Nat} {row : Option Nat} (h : InvD w0 B g p C t w) (hg : w.grownBy w' row) (hr : ∀ k, row = some k → w0.heap.size ≤ k) (hB : B ≤ w0.heap.size) : InvD w0 B g p C (t + 1) w' :=
  ⟨((h.rd.past hg (fun k hk => Nat.le_trans hB (hr k hk))).more (by rw [Nat.mul_succ]; omega)), h.tc.new hg hr⟩
theorem tch_alloc (w : World) (x : Obj) (S : Nat → Prop) : Tch w (w.alloc x) S := Tch.ext ((Below.refl _ _).alloc (Nat.le_refl _) x)

theorem wp_region_draw {P : Program} {Q : Exit → Act → World → Prop} {l : List Oper} {a0 : Act} {id : Nat} {w : World} {B g : Nat} (p C : Nat) (fs : List (Fact g)) (hm : P.follows .mixedOrders = true)
    (hB : (dstsB l && backB 0 l && plainB l) = true) (hR : roomB a0.tmps.size l = true) (h0 : Rdr w B g p)
    (hop : Each (fun i o => ∀ (t : Nat) (A : Act) (vs : Nat → Value) (wt : World), t < l.length → InvD w B g p C t wt → (∀ j, waitsB o j = true → (fs.getD j (Fact.top g)).p (vs j) wt) → (∀ d, A.tmps[d]?.getD undef = look l vs 0 a0 d) →
      ∀ K : Act → World → Prop, (∀ v w', (fs.getD i (Fact.top g)).p v w' → Tch wt w' (· = g) → InvD w B g p C (t + 1) w' → K (A.put o.dst v) w') → o.wp P A wt K Q) 0 l)
    (hfin : ∀ vs w', Rdr w' B g (p + C * l.length) → Tch w w' (· = g) → Each (fun i _ => (fs.getD i (Fact.top g)).p (vs i) w') 0 l → Q .normal (putAll l vs 0 a0) w') : (Code.region id l.toArray true).wp P Q a0 w :=
  wp_region_once (fun i v w => (fs.getD i (Fact.top g)).p v w) (fun w w' => Tch w w' (· = g)) (fun t wt => InvD w B g p C t wt) hm hB hR
    ⟨(h0.keep ((Below.refl _ _).drew)).more (by omega), Tch.ext ((Below.refl _ _).drew)⟩ (fun k v w w' h ht => (fs.getD k (Fact.top g)).st v w w' h ht) hop
    (fun t vs w' ht hI hF => hfin vs w' (hI.rd.more (by have := Nat.mul_le_mul_left C ht; omega)) hI.tc hF)

theorem results_tmp4 {fn : Func} {t u v x : Tmp} (h : fn.results = #[.tmp t, .tmp u, .tmp v, .tmp x]) (tmps : Array Value) (P : Program) (w : World) :
    (results fn tmps).run P w = .ok (.tuple #[tmps.getD t undef, tmps.getD u undef, tmps.getD v undef, tmps.getD x undef]) w := by
  simp [results, h]
theorem lit_all {b : Nat} {w : World} {e : Nat} {lo hi : Int} : ∀ (xs : List Int), (∀ x ∈ xs, lo ≤ x ∧ x ≤ hi) → b = w.heap.size →
    ∀ i, i < xs.length → ∃ x : Int, (lo ≤ x ∧ x ≤ hi) ∧ (w.alloc (.cells (xs.map (Value.int .i64)).toArray e)).cell? ⟨b, i, none⟩ = some (.int .i64 x) := by
  intro xs hx hb i hi
  subst hb
  refine ⟨xs[i], hx _ (List.getElem_mem hi), ?_⟩
  rw [cell_of_row _ _ i _ _ _ (heap_alloc_new w _)]
  simp [hi]
end Go.Proofs.Yteahiiflgiimnaa
