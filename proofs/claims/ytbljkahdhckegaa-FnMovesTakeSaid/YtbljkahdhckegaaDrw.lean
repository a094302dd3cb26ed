/-
  Words for what the reference draws: only the reader's block is written, and what is drawn lies in new memory.
-/
import Derived.Test.YtbljkahdhckegaaDraw
import Derived.Test.YtbljkahdhckegaaGrC
namespace Go.Proofs.Ytbljkahdhckegaa
open Go.RowKit

theorem Tch.ext {w w' : World} {S : Nat → Prop} (h : Ext w w') : Tch w w' S := ⟨h.os, h.tape, h.output, h.size, fun b hb _ => h.block b hb⟩
theorem Tch.alloc {w w' : World} {S : Nat → Prop} (h : Tch w w' S) (x : Obj) : Tch w (w'.alloc x) S := h.trans (Tch.ext ((Below.refl _ _).alloc (Nat.le_refl _) x))
theorem Tch.drew {w w' : World} {S : Nat → Prop} (h : Tch w w' S) : Tch w w'.drew S := h.trans (Tch.ext ((Below.refl _ _).drew))
/-- One block that is new to w is written. -/
theorem Tch.new {w w' w'' : World} {S : Nat → Prop} {row : Option Nat} (h : Tch w w' S) (hg : w'.grownBy w'' row) (hr : ∀ k, row = some k → w.heap.size ≤ k) : Tch w w'' S :=
  ⟨hg.os.trans h.os, hg.tape.trans h.tape, hg.output.trans h.output, Nat.le_trans h.size hg.size, fun b hb hs => (hg.block b (Nat.lt_of_lt_of_le hb h.size) (fun e => by have := hr b e.symm; omega)).trans (h.block b hb hs)⟩
theorem Tch.set {w w' : World} {S : Nat → Prop} {p : Addr} (h : Tch w w' S) (hp : w.heap.size ≤ p.block) (u : Value) : Tch w (w'.setCell p u) S :=
  h.new (grown_set (p := p) (g := p.block) (World.grownBy.refl w' _) rfl u) (fun k e => by cases e; exact hp)

theorem pickT (B g p : Nat) (n : Int) (w : World) (h : Rdr w B g p) (hn : 1 ≤ n) (hn' : n ≤ 1000000) (hp : p ≤ 1000000) :
    Calls Try.prog 56 #[.pointer (some ⟨g, 0, none⟩), .int .i64 n] w fun e w' => ∃ k : Nat, (k : Int) < n ∧ e = .returned (.int .i64 k) ∧ Rdr w' B g (p + 1) ∧ Tch w w' (· = g) :=
  (pick_any B g p n w h hn hn' hp).mono fun e w' ⟨k, hk, he, hr, hg⟩ => ⟨k, hk, he, hr, Tch.of_grown hg (fun k e => by cases e; rfl)⟩
theorem oddT (B g p : Nat) (n : Int) (w : World) (h : Rdr w B g p) (hn : 0 ≤ n) (hn' : n ≤ 1000000) (hp : p ≤ 1000000) :
    Calls Try.prog 57 #[.pointer (some ⟨g, 0, none⟩), .int .i64 n] w fun e w' => ∃ t : Bool, e = .returned (.bool t) ∧ (n = 0 → t = false) ∧ Rdr w' B g (p + 1) ∧ Tch w w' (· = g) :=
  (odd_any B g p n w h hn hn' hp).mono fun e w' ⟨k, he, hz, hr, hg⟩ => ⟨k, he, hz, hr, Tch.of_grown hg (fun k e => by cases e; rfl)⟩

/-- A slice that the call made reads from blocks from B on. -/
def From (B : Nat) (A : Option Addr) (n : Nat) : Prop := ∀ b off, A = some ⟨b, off, none⟩ → 0 < n → B ≤ b
theorem Fr.from {w : World} {B e sz n m c : Nat} {A : Option Addr} {xs : List Value} (h : Fr w B e sz (.slice A m c) n xs) : From B A m := by
  intro b off e hm
  rcases h with ⟨A', h1, _⟩ | hr
  · simp only [Value.slice.injEq] at h1; omega
  · obtain ⟨g, c', hv⟩ := hr.shape
    simp only [Value.slice.injEq] at hv
    obtain ⟨rfl, _, _⟩ := hv
    cases e
    exact (hr.lt _ rfl).1
theorem From.mono {B B' : Nat} {A : Option Addr} {n : Nat} (h : From B A n) (hB : B' ≤ B) : From B' A n := fun b off e hn => Nat.le_trans hB (h b off e hn)
theorem Rd.only {w w' : World} {sz n c B : Nat} {A : Option Addr} {xs : List Value} {S : Nat → Prop} (h : Rd w sz A n c xs) (hf : From B A n) (ht : Tch w w' S) (hs : ∀ k, S k → k < B) : Rd w' sz A n c xs :=
  h.keepB fun b off e hpos hlt => ht.block b hlt fun hS => by have := hs b hS; have := hf b off e hpos; omega

/-- Rows to read, all in blocks from B on. -/
structure RdA (w : World) (B : Nat) (A : Option Addr) (n c : Nat) (xss : List (List Int)) : Prop where
  ex : ∃ hs : List Hd, Rd w 1 A n c (hs.map hv) ∧ From B A n ∧ hs.length = xss.length ∧ ∀ (i : Nat) (h : Hd) (xs : List Int), hs[i]? = some h → xss[i]? = some xs → Rd w 1 h.1 h.2.1 h.2.2 (cI xs) ∧ From B h.1 h.2.1
section
variable {w w' : World} {B E : Nat} {A : Option Addr} {n c : Nat} {xss : List (List Int)}
theorem RdA.rdR (h : RdA w B A n c xss) : RdR w A n c xss := by
  obtain ⟨hs, h1, _, h2, h3⟩ := h.ex
  exact ⟨hs, h1, h2, fun i h xs hi hx => (h3 i h xs hi hx).1⟩
theorem RdA.only {S : Nat → Prop} (h : RdA w B A n c xss) (ht : Tch w w' S) (hs : ∀ k, S k → k < B) : RdA w' B A n c xss := by
  obtain ⟨hs', h1, hf, h2, h3⟩ := h.ex
  exact ⟨hs', h1.only hf ht hs, hf, h2, fun i h xs hi hx => ⟨(h3 i h xs hi hx).1.only (h3 i h xs hi hx).2 ht hs, (h3 i h xs hi hx).2⟩⟩
theorem RdA.below (h : RdA w B A n c xss) (hb : Below w.heap.size w w') : RdA w' B A n c xss := h.only (S := fun _ => False) (Tch.ext hb) (fun _ h => h.elim)
theorem RdA.mono {B' : Nat} (h : RdA w B A n c xss) (hB : B' ≤ B) : RdA w B' A n c xss := by
  obtain ⟨hs', h1, hf, h2, h3⟩ := h.ex
  exact ⟨hs', h1, hf.mono hB, h2, fun i h xs hi hx => ⟨(h3 i h xs hi hx).1, (h3 i h xs hi hx).2.mono hB⟩⟩
theorem RdA.of (hs : List Hd) (hF : Fr w B E 1 (.slice A n c) n (hs.map hv)) (hR : Rws w B hs xss) : RdA w B A n c xss := by
  refine ⟨hs, hF.rd'.2, hF.from, hR.len, fun i x xs hi hx => ?_⟩
  have := hR.fr i x xs hi hx
  exact ⟨(Fr.rd' (A := x.1) (m := x.2.1) (c := x.2.2) this).2, Fr.from (A := x.1) (c := x.2.2) this⟩
end
section
variable {w w' : World} {B : Nat} {hs : List Hd} {xss : List (List Int)} {S : Nat → Prop}
theorem Rws.only (h : Rws w B hs xss) (ht : Tch w w' S) (hS : ∀ k, S k → k < B) : Rws w' B hs xss :=
  h.keep fun i x g hi hg hlt => ht.block g hlt fun hk => by have := hS g hk; have := (h.blk hi hg).1; omega
theorem Row.only {e sz n : Nat} {v : Value} {xs : List Value} (h : Row w B e sz v n xs) (ht : Tch w w' S) (hS : ∀ k, S k → k < B) : Row w' B e sz v n xs :=
  h.keepB fun g _ hB hlt => ht.block g hlt fun hk => by have := hS g hk; omega
theorem Rws.snocT (h : Rws w B hs xss) (ht : Tch w w' S) (hS : ∀ k, S k → k < B) (hB : B ≤ w.heap.size) {A : Option Addr} {m c : Nat} {xs : List Int} (hF : Fr w' w.heap.size 3 1 (.slice A m c) m (cI xs)) : Rws w' B (hs ++ [(A, m, c)]) (xss ++ [xs]) := by
  have hl := h.len
  have new : ∀ g, Go.Proofs.Ytbljkahdhckegaa.blkC (A, m, c) = some g → w.heap.size ≤ g := fun g hg => (Fr.blkC (h := (A, m, c)) hF hg).1
  have old : ∀ (i : Nat) (x : Hd) (g : Nat), hs[i]? = some x → Go.Proofs.Ytbljkahdhckegaa.blkC x = some g → g < w.heap.size := fun i x g hi hg => (h.blk hi hg).2
  have side : ∀ (i : Nat) (x : Hd), (hs ++ [(A, m, c)])[i]? = some x → (i < hs.length ∧ hs[i]? = some x) ∨ (i = hs.length ∧ x = (A, m, c)) := fun i x hi => by
    by_cases hlt : i < hs.length
    · rw [List.getElem?_append_left hlt] at hi; exact .inl ⟨hlt, hi⟩
    · have h1 := (List.getElem?_eq_some_iff.1 hi).1
      simp only [List.length_append, List.length_singleton] at h1
      have : i = hs.length := by omega
      subst this
      rw [List.getElem?_append_right (Nat.le_refl _), Nat.sub_self] at hi
      simp only [List.getElem?_cons_zero, Option.some.injEq] at hi
      exact .inr ⟨rfl, hi.symm⟩
  refine ⟨by simp [hl], fun i x ys hi hx => ?_, fun i j x x' g hi hj hg hg' => ?_⟩
  · rcases side i x hi with ⟨hlt, h1⟩ | ⟨rfl, rfl⟩
    · rw [List.getElem?_append_left (by omega)] at hx
      exact (h.only ht hS).fr i x ys h1 hx
    · rw [List.getElem?_append_right (by omega), hl, Nat.sub_self] at hx
      simp only [List.getElem?_cons_zero, Option.some.injEq] at hx
      subst hx
      exact Fr.mono hF hB
  · rcases side i x hi with ⟨_, h1⟩ | ⟨h1, rfl⟩ <;> rcases side j x' hj with ⟨_, h2⟩ | ⟨h2, rfl⟩
    · exact h.sep i j x x' g h1 h2 hg hg'
    · have := old i x g h1 hg; have := new g hg'; omega
    · have := old j x' g h2 hg'; have := new g hg; omega
    · omega
end
theorem Tch.cell {w w' : World} {S : Nat → Prop} (h : Tch w w' S) {b off : Nat} {v : Value} (hc : w.cell? ⟨b, off, none⟩ = some v) (hb : ¬ S b) : w'.cell? ⟨b, off, none⟩ = some v := by
  have hl := World.block_lt_of_cell? w _ hc
  rw [← hc]; unfold World.cell?; rw [h.block b hl hb]
/-- A literal of two numbers, one of them picked. -/
def lit2 (x y : Int) (k : Nat) : Int := if k = 0 then x else y
theorem lit2_cell (w : World) (e : Nat) (x y : Int) {k : Nat} (hk : k < 2) : (w.alloc (.cells #[.int .i64 x, .int .i64 y] e)).cell? ⟨w.heap.size, k, none⟩ = some (.int .i64 (lit2 x y k)) := by
  rw [cell_of_row _ _ k _ _ _ (heap_alloc_new w _)]
  rcases Nat.lt_or_ge k 1 with h | h
  · obtain rfl : k = 0 := by omega
    rfl
  · obtain rfl : k = 1 := by omega
    rfl
theorem pickS (B g p : Nat) (n : Int) (w0 w : World) (hT : Tch w0 w (· = g)) (h : Rdr w B g p) (hn : 1 ≤ n) (hn' : n ≤ 1000000) (hp : p ≤ 1000000) :
    Calls Try.prog 56 #[.pointer (some ⟨g, 0, none⟩), .int .i64 n] w fun e w' => ∃ k : Nat, (k : Int) < n ∧ e = .returned (.int .i64 k) ∧ Rdr w' B g (p + 1) ∧ Tch w0 w' (· = g) ∧ ∀ b off v, w.cell? ⟨b, off, none⟩ = some v → b ≠ g → w'.cell? ⟨b, off, none⟩ = some v :=
  (pickT B g p n w h hn hn' hp).mono fun _ _ ⟨k, hk, he, hr, ht⟩ => ⟨k, hk, he, hr, hT.trans ht, fun _ _ _ hc hb => ht.cell hc hb⟩
/-- Rows that the call made, side by side or not. -/
structure RwF (w : World) (B : Nat) (hs : List Hd) (xss : List (List Int)) : Prop where
  len : hs.length = xss.length
  fr : ∀ (i : Nat) (h : Hd) (xs : List Int), hs[i]? = some h → xss[i]? = some xs → Fr w B 3 1 (hv h) h.2.1 (cI xs)
section
variable {w w' : World} {B E : Nat} {A : Option Addr} {n c : Nat} {hs : List Hd} {xss : List (List Int)} {S : Nat → Prop}
theorem Rws.rwF (h : Rws w B hs xss) : RwF w B hs xss := ⟨h.len, h.fr⟩
theorem RwF.below (h : RwF w B hs xss) (hb : Below w.heap.size w w') : RwF w' B hs xss := ⟨h.len, fun i x xs hi hx => (h.fr i x xs hi hx).below hb⟩
theorem RwF.aside {B2 m : Nat} {v : Value} {cells : List Value} {row : Option Nat} (h : RwF w B hs xss) (hO : Row w B2 40 1 v m cells) (hg : w.grownBy w' row) (hr : ∀ k, row = some k → v.ownBlock = some k) : RwF w' B hs xss := by
  refine ⟨h.len, fun i x xs hi hx => ?_⟩
  rcases h.fr i x xs hi hx with h1 | h1
  · exact .inl h1
  · exact .inr (h1.aside hO (by decide) hg hr)
theorem RwF.snoc (h : RwF w B hs xss) {x : Hd} {xs : List Int} (hF : Fr w B 3 1 (hv x) x.2.1 (cI xs)) : RwF w B (hs ++ [x]) (xss ++ [xs]) := by
  have hl := h.len
  refine ⟨by simp [hl], fun i y ys hi hx => ?_⟩
  by_cases hlt : i < hs.length
  · rw [List.getElem?_append_left hlt] at hi
    rw [List.getElem?_append_left (by omega)] at hx
    exact h.fr i y ys hi hx
  · have h1 := (List.getElem?_eq_some_iff.1 hi).1
    simp only [List.length_append, List.length_singleton] at h1
    have : i = hs.length := by omega
    subst this
    rw [List.getElem?_append_right (Nat.le_refl _), Nat.sub_self] at hi
    rw [List.getElem?_append_right (by omega), hl, Nat.sub_self] at hx
    simp only [List.getElem?_cons_zero, Option.some.injEq] at hi hx
    subst hi hx
    exact hF
/-- The first row goes on in another place. -/
theorem Rws.swap (h : Rws w B hs xss) {x y : Hd} {zs : List Int} {row : Option Nat} (hx : hs[0]? = some x) (hg : w.grownBy w' row) (hr : ∀ k, row = some k → Go.Proofs.Ytbljkahdhckegaa.blkC x = some k) (hF : Fr w' B 3 1 (hv y) y.2.1 (cI zs)) : RwF w' B (hs.set 0 y) (xss.set 0 zs) := by
  refine ⟨by simp [h.len], fun i u us hi hu => ?_⟩
  by_cases h0 : i = 0
  · subst h0
    have hlt : 0 < hs.length := (List.getElem?_eq_some_iff.1 hx).1
    have hlt2 : 0 < xss.length := by have := h.len; omega
    rw [List.getElem?_set_self hlt] at hi
    rw [List.getElem?_set_self hlt2] at hu
    cases hi; cases hu
    exact hF
  · rw [List.getElem?_set_ne (Ne.symm h0)] at hi hu
    exact (h.fr i u us hi hu).keepC fun g hg' hlt => hg.block g hlt fun e => h0 (h.sep i 0 u x g hi hx hg' (hr g e.symm))
theorem RdA.ofF (hs : List Hd) (hF : Fr w B E 1 (.slice A n c) n (hs.map hv)) (hR : RwF w B hs xss) : RdA w B A n c xss := by
  refine ⟨hs, hF.rd'.2, hF.from, hR.len, fun i x xs hi hx => ?_⟩
  have := hR.fr i x xs hi hx
  exact ⟨(Fr.rd' (A := x.1) (m := x.2.1) (c := x.2.2) this).2, Fr.from (A := x.1) (c := x.2.2) this⟩
end
theorem made_nil (n : Nat) : (madeCells (Value.slice none 0 0).cells (n * 1)).toList = List.replicate n (.slice none 0 0) := by
  rw [Nat.mul_one]
  unfold madeCells
  apply List.ext_getElem?
  intro j
  simp only [Array.toList_map, Array.toList_range, List.getElem?_map, List.getElem?_replicate]
  by_cases hj : j < n
  · rw [List.getElem?_range hj, if_pos hj]; simp [Value.cells, Nat.mod_one]
  · rw [List.getElem?_eq_none (by simpa using hj), if_neg hj]; rfl
end Go.Proofs.Ytbljkahdhckegaa
