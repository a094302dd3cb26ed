/-
  Words for what the reference draws, without tables: only the reader's block is written.
-/
import Derived.Test.YteahiiflgiimnaaDraw
import Derived.Test.YteahiiflgiimnaaRows2
import Derived.Test.YteahiiflgiimnaaRun
namespace Go.Proofs.Yteahiiflgiimnaa
open Go.RowKit

theorem Tch.ext {w w' : World} {S : Nat → Prop} (h : Ext w w') : Tch w w' S := ⟨h.os, h.tape, h.output, h.size, fun b hb _ => h.block b hb⟩
theorem Tch.alloc {w w' : World} {S : Nat → Prop} (h : Tch w w' S) (x : Obj) : Tch w (w'.alloc x) S := h.trans (Tch.ext ((Below.refl _ _).alloc (Nat.le_refl _) x))
theorem Tch.drew {w w' : World} {S : Nat → Prop} (h : Tch w w' S) : Tch w w'.drew S := h.trans (Tch.ext ((Below.refl _ _).drew))
theorem Tch.new {w w' w'' : World} {S : Nat → Prop} {row : Option Nat} (h : Tch w w' S) (hg : w'.grownBy w'' row) (hr : ∀ k, row = some k → w.heap.size ≤ k) : Tch w w'' S :=
  ⟨hg.os.trans h.os, hg.tape.trans h.tape, hg.output.trans h.output, Nat.le_trans h.size hg.size, fun b hb hs => (hg.block b (Nat.lt_of_lt_of_le hb h.size) (fun e => by have := hr b e.symm; omega)).trans (h.block b hb hs)⟩
theorem Tch.set {w w' : World} {S : Nat → Prop} {p : Addr} (h : Tch w w' S) (hp : w.heap.size ≤ p.block) (u : Value) : Tch w (w'.setCell p u) S :=
  h.new (grown_set (p := p) (g := p.block) (World.grownBy.refl w' _) rfl u) (fun k e => by cases e; exact hp)

theorem pickT (B g p : Nat) (n : Int) (w : World) (h : Rdr w B g p) (hn : 1 ≤ n) (hn' : n ≤ 1000000) (hp : p ≤ 1000000) :
    Calls Try.prog 77 #[.pointer (some ⟨g, 0, none⟩), .int .i64 n] w fun e w' => ∃ k : Nat, (k : Int) < n ∧ e = .returned (.int .i64 k) ∧ Rdr w' B g (p + 1) ∧ Tch w w' (· = g) :=
  (pick_any B g p n w h hn hn' hp).mono fun e w' ⟨k, hk, he, hr, hg⟩ => ⟨k, hk, he, hr, Tch.of_grown hg (fun k e => by cases e; rfl)⟩
theorem oddT (B g p : Nat) (n : Int) (w : World) (h : Rdr w B g p) (hn : 0 ≤ n) (hn' : n ≤ 1000000) (hp : p ≤ 1000000) :
    Calls Try.prog 78 #[.pointer (some ⟨g, 0, none⟩), .int .i64 n] w fun e w' => ∃ t : Bool, e = .returned (.bool t) ∧ (n = 0 → t = false) ∧ Rdr w' B g (p + 1) ∧ Tch w w' (· = g) :=
  (odd_any B g p n w h hn hn' hp).mono fun e w' ⟨k, he, hz, hr, hg⟩ => ⟨k, he, hz, hr, Tch.of_grown hg (fun k e => by cases e; rfl)⟩

def From (B : Nat) (A : Option Addr) (n : Nat) : Prop := ∀ b off, A = some ⟨b, off, none⟩ → 0 < n → B ≤ b
theorem Fr.from {w : World} {B e sz n m c : Nat} {A : Option Addr} {xs : List Value} (h : Fr w B e sz (.slice A m c) n xs) : From B A m := by
  intro b off e hm
  rcases h with ⟨A', h1, _⟩ | hr
  · simp only [Value.slice.injEq] at h1; omega
  · obtain ⟨g, c', hv⟩ := hr.shape
    simp only [Value.slice.injEq] at hv
    obtain ⟨rfl, _, _⟩ := hv
    cases e
    exact (hr.lt _ rfl).1
theorem From.mono {B B' : Nat} {A : Option Addr} {n : Nat} (h : From B A n) (hB : B' ≤ B) : From B' A n := fun b off e hn => Nat.le_trans hB (h b off e hn)
theorem Rd.only {w w' : World} {sz n c B : Nat} {A : Option Addr} {xs : List Value} {S : Nat → Prop} (h : Rd w sz A n c xs) (hf : From B A n) (ht : Tch w w' S) (hs : ∀ k, S k → k < B) : Rd w' sz A n c xs :=
  h.keepB fun b off e hpos hlt => ht.block b hlt fun hS => by have := hs b hS; have := hf b off e hpos; omega

theorem Tch.cell {w w' : World} {S : Nat → Prop} (h : Tch w w' S) {b off : Nat} {v : Value} (hc : w.cell? ⟨b, off, none⟩ = some v) (hb : ¬ S b) : w'.cell? ⟨b, off, none⟩ = some v := by
  have hl := World.block_lt_of_cell? w _ hc
  rw [← hc]; unfold World.cell?; rw [h.block b hl hb]
def lit2 (x y : Int) (k : Nat) : Int := if k = 0 then x else y
theorem lit2_cell (w : World) (e : Nat) (x y : Int) {k : Nat} (hk : k < 2) : (w.alloc (.cells #[.int .i64 x, .int .i64 y] e)).cell? ⟨w.heap.size, k, none⟩ = some (.int .i64 (lit2 x y k)) := by
  rw [cell_of_row _ _ k _ _ _ (heap_alloc_new w _)]
  rcases Nat.lt_or_ge k 1 with h | h
  · obtain rfl : k = 0 := by omega
    rfl
  · obtain rfl : k = 1 := by omega
    rfl
theorem pickS (B g p : Nat) (n : Int) (w0 w : World) (hT : Tch w0 w (· = g)) (h : Rdr w B g p) (hn : 1 ≤ n) (hn' : n ≤ 1000000) (hp : p ≤ 1000000) :
    Calls Try.prog 77 #[.pointer (some ⟨g, 0, none⟩), .int .i64 n] w fun e w' => ∃ k : Nat, (k : Int) < n ∧ e = .returned (.int .i64 k) ∧ Rdr w' B g (p + 1) ∧ Tch w0 w' (· = g) ∧ ∀ b off v, w.cell? ⟨b, off, none⟩ = some v → b ≠ g → w'.cell? ⟨b, off, none⟩ = some v :=
  (pickT B g p n w h hn hn' hp).mono fun _ _ ⟨k, hk, he, hr, ht⟩ => ⟨k, hk, he, hr, hT.trans ht, fun _ _ _ hc hb => ht.cell hc hb⟩
theorem Row.only {w w' : World} {B e sz n : Nat} {S : Nat → Prop} {v : Value} {xs : List Value} (h : Row w B e sz v n xs) (ht : Tch w w' S) (hS : ∀ k, S k → k < B) : Row w' B e sz v n xs :=
  h.keepB fun g _ hB hlt => ht.block g hlt fun hk => by have := hS g hk; omega
end Go.Proofs.Yteahiiflgiimnaa
