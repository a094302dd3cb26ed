/-
  Words for slices of slices of numbers: read as rows; made by the call itself, each row in a block of its own.
-/
import Derived.Test.YteahiiflgiimnaaTypes
import Derived.Test.YteahiiflgiimnaaIdx
namespace Go.Proofs.Yteahiiflgiimnaa
open Go.RowKit

/-- A slice's header. -/
abbrev Hd := Option Addr × Nat × Nat
def hv (h : Hd) : Value := .slice h.1 h.2.1 h.2.2
/-- A slice of slices of numbers reads as these rows. -/
structure RdR (w : World) (A : Option Addr) (n c : Nat) (xss : List (List Int)) : Prop where
  ex : ∃ hs : List Hd, Rd w 1 A n c (hs.map hv) ∧ hs.length = xss.length ∧ ∀ (i : Nat) (h : Hd) (xs : List Int), hs[i]? = some h → xss[i]? = some xs → Rd w 1 h.1 h.2.1 h.2.2 (cI xs)

section
variable {w w' : World} {A : Option Addr} {n c : Nat} {xss : List (List Int)}
theorem RdR.lenR (h : RdR w A n c xss) : xss.length = n := by
  obtain ⟨hs, h1, h2, _⟩ := h.ex
  have := h1.len; rw [List.length_map] at this; omega
theorem RdR.le (h : RdR w A n c xss) : n ≤ c := by obtain ⟨hs, h1, _⟩ := h.ex; exact h1.le
theorem RdR.top (h : RdR w A n c xss) : c ≤ 9223372036854775807 := by obtain ⟨hs, h1, _⟩ := h.ex; exact h1.top
theorem RdR.below (h : RdR w A n c xss) (hb : Below w.heap.size w w') : RdR w' A n c xss := by
  obtain ⟨hs, h1, h2, h3⟩ := h.ex
  exact ⟨hs, h1.below hb, h2, fun i h xs hi hx => (h3 i h xs hi hx).below hb⟩
theorem RdR.atR {k : Nat} (h : RdR w A n c xss) (hk : k < n) :
    ∃ b off A' m c' xs, A = some ⟨b, off, none⟩ ∧ Hid (xss[k]? = some xs) ∧ w.cell? ⟨b, off + k, none⟩ = some (.slice A' m c') ∧ Rd w 1 A' m c' (cI xs) := by
  have hl := h.lenR
  obtain ⟨hs, h1, h2, h3⟩ := h.ex
  obtain ⟨b, off, e, hc⟩ := h1.cells (by omega)
  obtain ⟨x, hx⟩ := get_of_lt (xs := hs) rfl (show k < hs.length by omega)
  obtain ⟨xs, hxs⟩ := get_of_lt hl hk
  exact ⟨b, off, x.1, x.2.1, x.2.2, xs, e, hxs, hc k _ (by rw [List.getElem?_map, hx]; rfl), h3 k x xs hx hxs⟩
end

/-- The block that a slice with room lies in. -/
def blkC (h : Hd) : Option Nat := if h.2.2 = 0 then none else (hv h).ownBlock
theorem Fr.keepC {w w' : World} {B e sz : Nat} {h : Hd} {xs : List Value} (hF : Fr w B e sz (hv h) h.2.1 xs) (hk : ∀ g, blkC h = some g → g < w.heap.size → w'.heap[g]? = w.heap[g]?) : Fr w' B e sz (hv h) h.2.1 xs := by
  obtain ⟨A, n, c⟩ := h
  rcases hF with h1 | hr
  · exact .inl h1
  · by_cases hc : c = 0
    · subst hc
      obtain ⟨g, c', hv⟩ := hr.shape
      simp only [Go.Proofs.Yteahiiflgiimnaa.hv, Value.slice.injEq] at hv
      obtain ⟨rfl, _, rfl⟩ := hv
      have hn := (show Row w B e sz (.slice (some ⟨g, 0, none⟩) n 0) n xs from hr).inv.2.1
      have hl := hr.len
      have hn0 : n = 0 := by omega
      subst hn0
      exact .inl ⟨_, rfl, rfl, List.eq_nil_of_length_eq_zero (by simpa using hl)⟩
    · refine .inr (hr.keepB fun g hg _ hlt => hk g ?_ hlt)
      unfold blkC; rw [if_neg hc]; exact hg
theorem Fr.blkC {w : World} {B e sz : Nat} {h : Hd} {xs : List Value} (hF : Fr w B e sz (hv h) h.2.1 xs) {g : Nat} (hg : blkC h = some g) : B ≤ g ∧ g < w.heap.size := by
  obtain ⟨A, n, c⟩ := h
  unfold Go.Proofs.Yteahiiflgiimnaa.blkC at hg
  split at hg
  · cases hg
  · next hc =>
    rcases hF with ⟨A', h1, _⟩ | hr
    · simp only [Go.Proofs.Yteahiiflgiimnaa.hv, Value.slice.injEq] at h1; exact absurd h1.2.2 hc
    · exact hr.lt g hg
theorem blkC_of_ownB {h : Hd} {g : Nat} (hle : h.2.1 ≤ h.2.2) (hg : ownB (hv h) h.2.1 = some g) : blkC h = some g := by
  unfold ownB at hg
  split at hg
  · cases hg
  · unfold blkC; rw [if_neg (by omega)]; exact hg

/-- Rows that the call made, each in a block of its own. -/
structure Rws (w : World) (B : Nat) (hs : List Hd) (xss : List (List Int)) : Prop where
  len : hs.length = xss.length
  fr : ∀ (i : Nat) (h : Hd) (xs : List Int), hs[i]? = some h → xss[i]? = some xs → Fr w B 3 1 (hv h) h.2.1 (cI xs)
  sep : ∀ (i j : Nat) (h h' : Hd) (g : Nat), hs[i]? = some h → hs[j]? = some h' → blkC h = some g → blkC h' = some g → i = j

section
variable {w w' : World} {B : Nat} {hs : List Hd} {xss : List (List Int)}
theorem Rws.nil : Rws w B [] [] := ⟨rfl, by simp, by simp⟩
theorem Rws.get (h : Rws w B hs xss) {i : Nat} {x : Hd} (hx : hs[i]? = some x) : ∃ xs, xss[i]? = some xs ∧ Fr w B 3 1 (hv x) x.2.1 (cI xs) := by
  obtain ⟨xs, hxs⟩ := get_of_lt (xs := xss) rfl (show i < xss.length by have := (List.getElem?_eq_some_iff.1 hx).1; have := h.len; omega)
  exact ⟨xs, hxs, h.fr i x xs hx hxs⟩
theorem Rws.keep (h : Rws w B hs xss) (hk : ∀ (i : Nat) (x : Hd) (g : Nat), hs[i]? = some x → blkC x = some g → g < w.heap.size → w'.heap[g]? = w.heap[g]?) : Rws w' B hs xss :=
  ⟨h.len, fun i x xs hi hx => (h.fr i x xs hi hx).keepC fun g hg hlt => hk i x g hi hg hlt, h.sep⟩
theorem Rws.below (h : Rws w B hs xss) (hb : Below w.heap.size w w') : Rws w' B hs xss := h.keep fun _ _ g _ _ hlt => hb.block g hlt
theorem Rws.mono {B' : Nat} (h : Rws w B hs xss) (hB : B' ≤ B) : Rws w B' hs xss := ⟨h.len, fun i x xs hi hx => (h.fr i x xs hi hx).mono hB, h.sep⟩
theorem Rws.snoc (h : Rws w B hs xss) (hb : Ext w w') (hB : B ≤ w.heap.size) {A : Option Addr} {m c : Nat} {xs : List Int} (hF : Fr w' w.heap.size 3 1 (.slice A m c) m (cI xs)) : Rws w' B (hs ++ [(A, m, c)]) (xss ++ [xs]) := by
  have hl := h.len
  have new : ∀ g, Go.Proofs.Yteahiiflgiimnaa.blkC (A, m, c) = some g → w.heap.size ≤ g := fun g hg => (Fr.blkC (h := (A, m, c)) hF hg).1
  have old : ∀ (i : Nat) (x : Hd) (g : Nat), hs[i]? = some x → Go.Proofs.Yteahiiflgiimnaa.blkC x = some g → g < w.heap.size := fun i x g hi hg => by
    obtain ⟨xs', _, hF'⟩ := h.get hi
    exact (hF'.blkC hg).2
  refine ⟨by simp [hl], fun i x ys hi hx => ?_, fun i j x x' g hi hj hg hg' => ?_⟩
  · by_cases hlt : i < hs.length
    · rw [List.getElem?_append_left hlt] at hi
      rw [List.getElem?_append_left (by omega)] at hx
      exact ((h.below hb).fr i x ys hi hx)
    · have h1 := (List.getElem?_eq_some_iff.1 hi).1
      simp only [List.length_append, List.length_singleton] at h1
      have : i = hs.length := by omega
      subst this
      rw [List.getElem?_append_right (Nat.le_refl _), Nat.sub_self] at hi
      rw [List.getElem?_append_right (by omega), hl, Nat.sub_self] at hx
      simp only [List.getElem?_cons_zero, Option.some.injEq] at hi hx
      subst hi hx
      exact Fr.mono hF hB
  · have side : ∀ (i : Nat) (x : Hd), (hs ++ [(A, m, c)])[i]? = some x → (i < hs.length ∧ hs[i]? = some x) ∨ (i = hs.length ∧ x = (A, m, c)) := fun i x hi => by
      by_cases hlt : i < hs.length
      · rw [List.getElem?_append_left hlt] at hi; exact .inl ⟨hlt, hi⟩
      · have h1 := (List.getElem?_eq_some_iff.1 hi).1
        simp only [List.length_append, List.length_singleton] at h1
        have : i = hs.length := by omega
        subst this
        rw [List.getElem?_append_right (Nat.le_refl _), Nat.sub_self] at hi
        simp only [List.getElem?_cons_zero, Option.some.injEq] at hi
        exact .inr ⟨rfl, hi.symm⟩
    rcases side i x hi with ⟨_, h1⟩ | ⟨h1, rfl⟩ <;> rcases side j x' hj with ⟨_, h2⟩ | ⟨h2, rfl⟩
    · exact h.sep i j x x' g h1 h2 hg hg'
    · have := old i x g h1 hg; have := new g hg'; omega
    · have := old j x' g h2 hg'; have := new g hg; omega
    · omega
/-- One row written in place. -/
theorem Rws.write (h : Rws w B hs xss) {i : Nat} {x : Hd} {ys : List Int} {row : Option Nat} (hx : hs[i]? = some x) (hg : w.grownBy w' row) (hr : ∀ k, row = some k → Go.Proofs.Yteahiiflgiimnaa.blkC x = some k) (hF : Fr w' B 3 1 (hv x) x.2.1 (cI ys)) : Rws w' B hs (xss.set i ys) := by
  refine ⟨by rw [List.length_set]; exact h.len, fun j y zs hj hz => ?_, h.sep⟩
  by_cases hij : i = j
  · subst hij
    rw [hx] at hj; cases hj
    have hlt : i < xss.length := by have := (List.getElem?_eq_some_iff.1 hx).1; have := h.len; omega
    rw [List.getElem?_set_self hlt] at hz
    cases hz
    exact hF
  · rw [List.getElem?_set_ne hij] at hz
    exact (h.fr j y zs hj hz).keepC fun g hg' hlt => hg.block g hlt fun e => hij (h.sep i j x y g hx hj (hr g e.symm) hg')
theorem Rws.blk (h : Rws w B hs xss) {i g : Nat} {x : Hd} (hx : hs[i]? = some x) (hg : Go.Proofs.Yteahiiflgiimnaa.blkC x = some g) : B ≤ g ∧ g < w.heap.size := by
  obtain ⟨xs, _, hF⟩ := h.get hx
  exact hF.blkC hg
end

/-- A slice of slices that the call made: its blocks lie from B on, the rows' below E. -/
structure FrR (w : World) (B E : Nat) (A : Option Addr) (n c : Nat) (xss : List (List Int)) : Prop where
  ex : ∃ hs : List Hd, Fr w B 48 1 (.slice A n c) n (hs.map hv) ∧ hs.length = n ∧ Rws w B hs xss ∧ (∀ (i : Nat) (x : Hd) (g : Nat), hs[i]? = some x → blkC x = some g → g < E)
/-- Only blocks of S have been written, and new ones laid. -/
structure Tch (w w' : World) (S : Nat → Prop) : Prop where
  os : w'.os = w.os
  tape : w'.tape = w.tape
  output : w'.output = w.output
  size : w.heap.size ≤ w'.heap.size
  block : ∀ k, k < w.heap.size → ¬ S k → w'.heap[k]? = w.heap[k]?
section
variable {w w' : World} {B E : Nat} {A : Option Addr} {n c : Nat} {xss : List (List Int)}
theorem FrR.rdR (h : FrR w B E A n c xss) : RdR w A n c xss := by
  obtain ⟨hs, h1, h2, h3, _⟩ := h.ex
  refine ⟨hs, h1.rd'.2, h3.len, fun i x xs hi hx => ?_⟩
  have := h3.fr i x xs hi hx
  exact (Fr.rd' (A := x.1) (m := x.2.1) (c := x.2.2) this).2
theorem FrR.below (h : FrR w B E A n c xss) (hb : Below w.heap.size w w') : FrR w' B E A n c xss := by
  obtain ⟨hs, h1, h2, h3, h4⟩ := h.ex
  exact ⟨hs, h1.below hb, h2, h3.below hb, h4⟩
theorem FrR.mono {B' : Nat} (h : FrR w B E A n c xss) (hB : B' ≤ B) : FrR w B' E A n c xss := by
  obtain ⟨hs, h1, h2, h3, h4⟩ := h.ex
  exact ⟨hs, h1.mono hB, h2, h3.mono hB, h4⟩
theorem FrR.lenR (h : FrR w B E A n c xss) : xss.length = n := h.rdR.lenR
theorem Tch.refl (w : World) (S : Nat → Prop) : Tch w w S := ⟨rfl, rfl, rfl, Nat.le_refl _, fun _ _ _ => rfl⟩
theorem Tch.trans {w'' : World} {S : Nat → Prop} (h : Tch w w' S) (k : Tch w' w'' S) : Tch w w'' S :=
  ⟨k.os.trans h.os, k.tape.trans h.tape, k.output.trans h.output, Nat.le_trans h.size k.size, fun b hb hs => (k.block b (Nat.lt_of_lt_of_le hb h.size) hs).trans (h.block b hb hs)⟩
theorem Tch.of_grown {row : Option Nat} {S : Nat → Prop} (h : w.grownBy w' row) (hs : ∀ k, row = some k → S k) : Tch w w' S :=
  ⟨h.os, h.tape, h.output, h.size, fun b hb hn => h.block b hb fun e => hn (hs b e.symm)⟩
theorem ext_tch {a : World} {S : Nat → Prop} (h : Ext a w) (ht : Tch w w' S) (hs : ∀ k, S k → a.heap.size ≤ k) : Ext a w' :=
  ⟨ht.os.trans h.os, ht.tape.trans h.tape, ht.output.trans h.output, Nat.le_trans h.size ht.size, fun b hb => (ht.block b (Nat.lt_of_lt_of_le hb h.size) fun hS => by have := hs b hS; omega).trans (h.block b hb)⟩
theorem Fr.pastT {e sz : Nat} {v : Value} {xs : List Value} {S : Nat → Prop} (h : Fr w B e sz v n xs) (ht : Tch w w' S) (hs : ∀ k, S k → k < B) : Fr w' B e sz v n xs :=
  h.keepB fun g _ hB hlt => ht.block g hlt fun hS => by have := hs g hS; omega
theorem FrR.pastT {S : Nat → Prop} (h : FrR w B E A n c xss) (ht : Tch w w' S) (hs : ∀ k, S k → k < B) : FrR w' B E A n c xss := by
  obtain ⟨hs', h1, h2, h3, h4⟩ := h.ex
  exact ⟨hs', h1.pastT ht hs, h2, h3.keep fun i x g hi hg hlt => ht.block g hlt (fun hS => by have := hs g hS; have := (h3.blk hi hg).1; omega), h4⟩
end
theorem hv_fill {hs : List Hd} {k n : Nat} (hl : hs.length = k) (hk : k < n) (h : Hd) (z : Value) : (hs.map hv ++ List.replicate (n - k) z).set k (hv h) = (hs ++ [h]).map hv ++ List.replicate (n - (k + 1)) z := by
  have e : n - k = (n - (k + 1)) + 1 := by omega
  rw [List.set_append_right _ _ (by rw [List.length_map]; omega), List.length_map, hl, Nat.sub_self, e, List.replicate_succ, List.set_cons_zero, List.map_append, List.append_assoc]
  rfl
end Go.Proofs.Yteahiiflgiimnaa
