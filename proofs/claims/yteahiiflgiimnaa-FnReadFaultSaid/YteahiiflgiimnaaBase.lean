/-
  Words for memory that the walks of this seat share: a slice that reads as a list of cells, a slice that the call itself made, and small laws on lists. No program is in sight here.
-/
import Derived.WalkKit
import Derived.WalkSpells
import Derived.WalkLawsBesides
import Derived.Lib.Hide
import Derived.Deep.QuietTactic
import Derived.BigQuiet
import Derived.Maps.AppendAt
namespace Go.Proofs.Yteahiiflgiimnaa
open Go.RowKit

/-- The slice (A, n, c) reads as the cells xs, sz cells an element. -/
structure Rd (w : World) (sz : Nat) (A : Option Addr) (n c : Nat) (xs : List Value) : Prop where
  len : xs.length = n * sz
  le : n ≤ c
  top : c ≤ 9223372036854775807
  cells : 0 < n → ∃ b off, A = some ⟨b, off, none⟩ ∧ ∀ j u, xs[j]? = some u → w.cell? ⟨b, off + j, none⟩ = some u

section
variable {w w' : World} {sz n c : Nat} {A : Option Addr} {xs : List Value}

theorem Rd.keep (h : Rd w sz A n c xs) (hk : ∀ p v, w.cell? p = some v → w'.cell? p = some v) : Rd w' sz A n c xs :=
  ⟨h.len, h.le, h.top, fun hn => by
    obtain ⟨b, off, e, hc⟩ := h.cells hn
    exact ⟨b, off, e, fun j u hu => hk _ _ (hc j u hu)⟩⟩

theorem kept_of_below {w w' : World} (hb : Below w.heap.size w w') (p : Addr) (v : Value) (h : w.cell? p = some v) : w'.cell? p = some v :=
  (hb.cell (World.block_lt_of_cell? _ _ h)).trans h

theorem Rd.below (h : Rd w sz A n c xs) (hb : Below w.heap.size w w') : Rd w' sz A n c xs := h.keep (kept_of_below hb)

/-- Only the blocks that are not `g` are known to be kept. -/
theorem Rd.keepB (h : Rd w sz A n c xs) (hk : ∀ b off, A = some ⟨b, off, none⟩ → 0 < n → b < w.heap.size → w'.heap[b]? = w.heap[b]?) : Rd w' sz A n c xs :=
  ⟨h.len, h.le, h.top, fun hn => by
    obtain ⟨b, off, e, hc⟩ := h.cells hn
    refine ⟨b, off, e, fun j u hu => ?_⟩
    have h1 := hc j u hu
    have hlt : b < w.heap.size := World.block_lt_of_cell? w ⟨b, off + j, none⟩ h1
    exact (World.cell?_of_block (hk b off e hn hlt)).trans h1⟩

theorem Rd.nil (hc : c ≤ 9223372036854775807) : Rd w sz A 0 c [] := ⟨by simp, Nat.zero_le _, hc, fun h => absurd h (by omega)⟩

theorem Rd.of_own {B e : Nat} {c : Nat} (h : w.ownsRow B e sz (.slice A n c) n xs) : Rd w sz A n c xs := by
  refine ⟨h.1, ?_, ?_, fun hn => ?_⟩
  · rcases h.2 with ⟨h1, _⟩ | ⟨g, cap, cur, h1, _, _, h2, _⟩
    · simp only [Value.slice.injEq] at h1; omega
    · simp only [Value.slice.injEq] at h1; omega
  · rcases h.2 with ⟨h1, _⟩ | ⟨g, cap, cur, h1, _, _, _, h2, _⟩
    · simp only [Value.slice.injEq] at h1; omega
    · simp only [Value.slice.injEq] at h1; unfold maxLen at h2; omega
  · rcases h.2 with ⟨h1, _⟩ | ⟨g, cap, cur, h1, _⟩
    · simp only [Value.slice.injEq] at h1; omega
    · simp only [Value.slice.injEq] at h1
      obtain ⟨rfl, _, rfl⟩ := h1
      refine ⟨g, 0, rfl, fun j u hu => ?_⟩
      have hj : j < n * sz := by
        rw [← h.1]
        exact (List.getElem?_eq_some_iff.1 hu).1
      rw [Nat.zero_add, h.cellAt j hj]
      exact hu
end

/-- A row that the call made: the slice begins at the head of block g, which nobody has frozen; its first cells are xs. (The block may be longer than the capacity says.) -/
structure Row (w : World) (B : Nat) (e : TypeId) (sz : Nat) (v : Value) (n : Nat) (xs : List Value) : Prop where
  len : xs.length = n * sz
  blk : ∃ g c cur, v = .slice (some ⟨g, 0, none⟩) n c ∧ B ≤ g ∧ w.heap[g]? = some (.cells cur e (0, 0)) ∧ n ≤ c ∧ c ≤ maxLen ∧ c * sz ≤ cur.size ∧ cur.toList.take (n * sz) = xs

section
variable {w w' : World} {B e sz n c g : Nat} {v : Value} {xs : List Value}
theorem Row.of_own (h : w.ownsRow B e sz (.slice (some ⟨g, 0, none⟩) n c) n xs) : Row w B e sz (.slice (some ⟨g, 0, none⟩) n c) n xs := by
  refine ⟨h.1, ?_⟩
  rcases h.2 with ⟨h1, _⟩ | ⟨g', cap, cur, h1, h2, h3, h4, h5, h6, h7⟩
  · simp at h1
  · exact ⟨g', cap, cur, h1, h2, h3, h4, h5, by omega, h7⟩
theorem Row.inv (h : Row w B e sz (.slice (some ⟨g, 0, none⟩) n c) n xs) : B ≤ g ∧ n ≤ c ∧ c ≤ maxLen ∧ ∃ cur, w.heap[g]? = some (.cells cur e (0, 0)) ∧ c * sz ≤ cur.size ∧ cur.toList.take (n * sz) = xs := by
  obtain ⟨g', c', cur, h1, h2, h3, h4, h5, h6, h7⟩ := h.blk
  simp only [Value.slice.injEq, Option.some.injEq, Addr.mk.injEq, and_true, true_and] at h1
  obtain ⟨rfl, rfl⟩ := h1
  exact ⟨h2, h4, h5, cur, h3, h6, h7⟩
theorem Row.shape (h : Row w B e sz v n xs) : ∃ g c, v = .slice (some ⟨g, 0, none⟩) n c := by
  obtain ⟨g, c, _, hv, _⟩ := h.blk; exact ⟨g, c, hv⟩
theorem Row.mk_ {cur : Array Value} (hl : xs.length = n * sz) (hB : B ≤ g) (hh : w.heap[g]? = some (.cells cur e (0, 0))) (hn : n ≤ c) (hc : c ≤ maxLen) (hs : c * sz ≤ cur.size) (ht : cur.toList.take (n * sz) = xs) :
    Row w B e sz (.slice (some ⟨g, 0, none⟩) n c) n xs := ⟨hl, g, c, cur, rfl, hB, hh, hn, hc, hs, ht⟩
theorem Row.cellAt (h : Row w B e sz (.slice (some ⟨g, 0, none⟩) n c) n xs) (j : Nat) (hj : j < n * sz) : w.cell? ⟨g, j, none⟩ = xs[j]? := by
  obtain ⟨_, _, _, cur, hh, _, ht⟩ := h.inv
  rw [cell_of_row w g j cur e (0, 0) hh, ← ht, List.getElem?_take, if_pos hj]
  simp
theorem Row.frozenAt (h : Row w B e sz (.slice (some ⟨g, 0, none⟩) n c) n xs) (j : Nat) : w.frozen? ⟨g, j, none⟩ = false := by
  obtain ⟨_, _, _, cur, hh, _, _⟩ := h.inv
  exact frozen_of_row w g j cur e hh
theorem Row.stored (h : Row w B e sz (.slice (some ⟨g, 0, none⟩) n c) n xs) (j : Nat) (u : Value) : Row (w.setCell ⟨g, j, none⟩ u) B e sz (.slice (some ⟨g, 0, none⟩) n c) n (xs.set j u) := by
  obtain ⟨hB, hn, hc, cur, hh, hs, ht⟩ := h.inv
  refine Row.mk_ (by rw [List.length_set]; exact h.len) hB (heap_setCell_same w g j cur e u hh) hn hc (by simpa using hs) ?_
  rw [Array.toList_setIfInBounds, ← ht, List.take_set]
theorem Row.keepB (h : Row w B e sz v n xs) (hk : ∀ g, v.ownBlock = some g → B ≤ g → g < w.heap.size → w'.heap[g]? = w.heap[g]?) : Row w' B e sz v n xs := by
  obtain ⟨g, c, cur, rfl, hB, hh, r⟩ := h.blk
  exact ⟨h.len, g, c, cur, rfl, hB, by rw [hk g rfl hB ((Array.getElem?_eq_some_iff.1 hh).1)]; exact hh, r⟩
theorem Row.below (h : Row w B e sz v n xs) (hb : Below w.heap.size w w') : Row w' B e sz v n xs := h.keepB fun g _ _ hg => hb.block g hg
theorem Row.mono {B' : Nat} (h : Row w B e sz v n xs) (hB : B' ≤ B) : Row w B' e sz v n xs := by
  obtain ⟨g, c, cur, hv, hB', r⟩ := h.blk
  exact ⟨h.len, g, c, cur, hv, Nat.le_trans hB hB', r⟩
theorem Row.lt (h : Row w B e sz v n xs) : ∀ k, v.ownBlock = some k → B ≤ k ∧ k < w.heap.size := by
  obtain ⟨g, c, cur, rfl, hB, hh, _⟩ := h.blk
  intro k hk
  simp only [Value.ownBlock, Option.some.injEq] at hk
  subst hk
  exact ⟨hB, (Array.getElem?_eq_some_iff.1 hh).1⟩
/-- Cut at its length. -/
theorem Row.clip (h : Row w B e sz (.slice (some ⟨g, 0, none⟩) n c) n xs) : Row w B e sz (.slice (some ⟨g, 0, none⟩) n n) n xs := by
  obtain ⟨hB, hn, hc, cur, hh, hs, ht⟩ := h.inv
  exact Row.mk_ h.len hB hh (Nat.le_refl _) (Nat.le_trans hn hc) (Nat.le_trans (Nat.mul_le_mul_right _ hn) hs) ht
/-- Its beginning. -/
theorem Row.init (h : Row w B e sz (.slice (some ⟨g, 0, none⟩) n c) n xs) {m : Nat} (hm : m ≤ n) : Row w B e sz (.slice (some ⟨g, 0, none⟩) m c) m (xs.take (m * sz)) := by
  obtain ⟨hB, hn, hc, cur, hh, hs, ht⟩ := h.inv
  have h1 : m * sz ≤ n * sz := Nat.mul_le_mul_right _ hm
  refine Row.mk_ (by rw [List.length_take, h.len]; omega) hB hh (Nat.le_trans hm hn) hc hs ?_
  rw [← ht, List.take_take, Nat.min_eq_left h1]
theorem Rd.of_row {A : Option Addr} (h : Row w B e sz (.slice A n c) n xs) : Rd w sz A n c xs := by
  obtain ⟨g, c', hv⟩ := h.shape
  simp only [Value.slice.injEq] at hv
  obtain ⟨rfl, _, rfl⟩ := hv
  obtain ⟨_, hn, hc, _⟩ := h.inv
  refine ⟨h.len, hn, by unfold maxLen at hc; exact hc, fun _ => ⟨g, 0, rfl, fun j u hu => ?_⟩⟩
  have hj : j < n * sz := by rw [← h.len]; exact (List.getElem?_eq_some_iff.1 hu).1
  rw [Nat.zero_add, h.cellAt j hj]
  exact hu
end

/-- What a call hands back as a new slice: nothing at all (whatever its address), or a row of its own, from block B on. -/
def Fr (w : World) (B : Nat) (e : TypeId) (sz : Nat) (v : Value) (n : Nat) (xs : List Value) : Prop :=
  (∃ A, v = .slice A 0 0 ∧ n = 0 ∧ xs = []) ∨ Row w B e sz v n xs

theorem Fr.rd {w : World} {B e sz n : Nat} {v : Value} {xs : List Value} (h : Fr w B e sz v n xs) : ∃ A c, v = .slice A n c ∧ Rd w sz A n c xs := by
  rcases h with ⟨A, rfl, rfl, rfl⟩ | h
  · exact ⟨A, 0, rfl, Rd.nil (by omega)⟩
  · obtain ⟨g, c, rfl⟩ := h.shape
    exact ⟨_, c, rfl, Rd.of_row h⟩

theorem Fr.of_own {w : World} {B e sz n : Nat} {v : Value} {xs : List Value} (h : w.ownsRow B e sz v n xs) : Fr w B e sz v n xs := by
  rcases h.2 with ⟨rfl, rfl⟩ | ⟨g, cap, cur, rfl, _⟩
  · exact .inl ⟨none, rfl, rfl, List.eq_nil_of_length_eq_zero (by have := h.1; omega)⟩
  · exact .inr (Row.of_own h)

theorem Fr.rd' {w : World} {B e sz n m c : Nat} {A : Option Addr} {xs : List Value} (h : Fr w B e sz (.slice A m c) n xs) : m = n ∧ Rd w sz A n c xs := by
  obtain ⟨A', c', he, hr⟩ := h.rd
  simp only [Value.slice.injEq] at he
  obtain ⟨rfl, rfl, rfl⟩ := he
  exact ⟨rfl, hr⟩

theorem Fr.mono {w : World} {B B' e sz n : Nat} {v : Value} {xs : List Value} (h : Fr w B e sz v n xs) (hB : B' ≤ B) : Fr w B' e sz v n xs := h.imp id fun h => h.mono hB

/-- Kept where its own block is kept. -/
theorem Fr.keepB {w w' : World} {B e sz n : Nat} {v : Value} {xs : List Value} (h : Fr w B e sz v n xs) (hk : ∀ g, v.ownBlock = some g → B ≤ g → g < w.heap.size → w'.heap[g]? = w.heap[g]?) : Fr w' B e sz v n xs := h.imp id fun h => h.keepB hk

theorem Fr.below {w w' : World} {B e sz n : Nat} {v : Value} {xs : List Value} (h : Fr w B e sz v n xs) (hb : Below w.heap.size w w') : Fr w' B e sz v n xs :=
  h.keepB fun g _ _ hg => hb.block g hg

theorem own_keepB {w w' : World} {B e sz n : Nat} {v : Value} {xs : List Value} (h : w.ownsRow B e sz v n xs) (hk : ∀ g, v.ownBlock = some g → B ≤ g → g < w.heap.size → w'.heap[g]? = w.heap[g]?) : w'.ownsRow B e sz v n xs := by
  refine ⟨h.1, ?_⟩
  rcases h.2 with h2 | ⟨g, cap, cur, rfl, hg, hh, r⟩
  · exact .inl h2
  · exact .inr ⟨g, cap, cur, rfl, hg, by rw [hk g rfl hg ((Array.getElem?_eq_some_iff.1 hh).1)]; exact hh, r⟩
theorem own_below {w w' : World} {B e sz n : Nat} {v : Value} {xs : List Value} (h : w.ownsRow B e sz v n xs) (hb : Below w.heap.size w w') : w'.ownsRow B e sz v n xs :=
  own_keepB h fun g _ _ hg => hb.block g hg
theorem own_mono {w : World} {B B' e sz n : Nat} {v : Value} {xs : List Value} (h : w.ownsRow B e sz v n xs) (hB : B' ≤ B) : w.ownsRow B' e sz v n xs := by
  refine ⟨h.1, ?_⟩
  rcases h.2 with h2 | ⟨g, cap, cur, hv, hg, r⟩
  · exact .inl h2
  · exact .inr ⟨g, cap, cur, hv, by omega, r⟩

theorem Below.drewN {B : Nat} {a w : World} (h : Below B a w) (n : Nat) : Below B a (w.drewN n) := ⟨h.os, h.tape, h.output, h.size, h.block⟩

/-- All that lay before the call is as it was: one name for the frame of a call that only makes memory. -/
abbrev Ext (w w' : World) : Prop := Below w.heap.size w w'

theorem Ext.trans {a b c : World} (h : Ext a b) (k : Ext b c) : Ext a c := Below.trans h (k.mono h.size)

theorem quiet_left {P : Program} {f : FuncId} {args : Array Value} {w : World} {n : Nat} {v : Value}
    (h : Calls P f args (w.drewN n) fun e w' => e = .returned v ∧ w.drewN n = w') : Calls P f args (w.drewN n) fun e w' => e = .returned v ∧ ∃ m, w' = w.drewN m :=
  h.mono fun _ _ ⟨he, hm⟩ => ⟨he, n, hm.symm⟩

/-- A world that came later: all that lay in w is as it was. -/
structure Later (w : World) where
  out : World
  ext : Below w.heap.size w out
instance (w : World) : Nonempty (Later w) := ⟨⟨w, Below.refl _ _⟩⟩
theorem later_cell {w : World} {p : Addr} {v : Value} (h : w.cell? p = some v) (n : Later w) : n.out.cell? p = some v := kept_of_below n.ext p v h
theorem later_of {P : Program} {f : FuncId} {args : Array Value} {w : World} {v : Value} (n : Later w)
    (h : Calls P f args n.out fun e w' => e = .returned v ∧ Ext n.out w') : Calls P f args n.out fun e w'' => e = .returned v ∧ ∃ m : Later w, w'' = m.out :=
  h.mono fun _ w' ⟨he, hm⟩ => ⟨he, ⟨w', Ext.trans n.ext hm⟩, rfl⟩
theorem later_same {P : Program} {f : FuncId} {args : Array Value} {w : World} {v : Value} (n : Later w)
    (h : Calls P f args n.out fun e w' => e = .returned v ∧ n.out = w') : Calls P f args n.out fun e w'' => e = .returned v ∧ ∃ m : Later w, w'' = m.out :=
  h.mono fun _ _ ⟨he, hm⟩ => ⟨he, n, hm.symm⟩
/-- A region that draws its order, whose operations only read and whose callees only make new memory: one walk, in the order of the text. -/
theorem wp_region_later {P : Program} {id : Nat} {Q : Exit → Act → World → Prop} {a : Act} {w : World} {l : List Oper} (hm : P.follows .mixedOrders = true) (hB : Region.lexB .any l.toArray = true)
    (h : wpQuiet P l.toArray (fun w' => ∃ n : Later w, w' = n.out) (fun a' => ∀ w', Ext w w' → Q .normal a' w') l a) : (Code.region id l.toArray true).wp P Q a w := by
  refine wp_region_quiet (C := fun w' => ∃ n : Later w, w' = n.out) hm hB ⟨⟨w.drew, (Below.refl _ _).drew⟩, rfl⟩ ?_
  have e : (fun a' => ∀ w', Ext w w' → Q .normal a' w') = (fun a' => ∀ w', (∃ n : Later w, w' = n.out) → Q .normal a' w') := by
    funext a'
    exact propext ⟨fun h _ ⟨n, hn⟩ => hn ▸ h n.out n.ext, fun h _ hw => h _ ⟨⟨_, hw⟩, rfl⟩⟩
  rw [e] at h
  simpa using h

theorem calls_eq {P : Program} {f : FuncId} {args : Array Value} {w : World} {v v' : Value} (h : v = v')
    (hc : Calls P f args w fun e w' => e = .returned v ∧ w = w') : Calls P f args w fun e w' => e = .returned v' ∧ w = w' := h ▸ hc

theorem ret_bool {a b : Bool} (h : a = b) : Ending.returned (.bool a) = .returned (.bool b) := by rw [h]
theorem ret_int {k : IntKind} {a b : Int} (h : a = b) : Ending.returned (.int k a) = .returned (.int k b) := by rw [h]

/-- A number in a range, as both packages ask it. -/
def inB (n lo hi : Int) : Bool := decide (lo ≤ n) && decide (n ≤ hi)
theorem inB_iff {n lo hi : Int} : inB n lo hi = true ↔ lo ≤ n ∧ n ≤ hi := by simp [inB]
theorem inB_not {n lo hi : Int} : inB n lo hi = false ↔ n < lo ∨ hi < n := by
  rw [← Bool.not_eq_true, inB_iff]; omega

section
variable {α : Type}
theorem drop_of_get {xs : List α} {k : Nat} {x : α} (h : xs[k]? = some x) : xs.drop k = x :: xs.drop (k + 1) := by
  obtain ⟨hk, rfl⟩ := List.getElem?_eq_some_iff.1 h
  exact List.drop_eq_getElem_cons hk
theorem take_of_get {xs : List α} {k : Nat} {x : α} (h : xs[k]? = some x) : xs.take (k + 1) = xs.take k ++ [x] := by
  obtain ⟨hk, rfl⟩ := List.getElem?_eq_some_iff.1 h
  exact List.take_succ_eq_append_getElem hk
theorem drop_all {xs : List α} {k n : Nat} (h : xs.length = n) (hk : n ≤ k) : xs.drop k = [] := List.drop_eq_nil_of_le (by omega)
theorem take_all {xs : List α} {k n : Nat} (h : xs.length = n) (hk : n ≤ k) : xs.take k = xs := List.take_of_length_le (by omega)
theorem get_of_lt {xs : List α} {k n : Nat} (h : xs.length = n) (hk : k < n) : ∃ x, xs[k]? = some x := ⟨xs[k]'(by omega), List.getElem?_eq_getElem (by omega)⟩

theorem find_congr {p q : α → Bool} : ∀ {l : List α}, (∀ x ∈ l, p x = q x) → l.find? p = l.find? q
  | [], _ => rfl
  | a :: r, h => by rw [List.find?_cons, List.find?_cons, h a (by simp), find_congr fun x hx => h x (by simp [hx])]
/-- Elements laid out as cells, each of the same number of them. -/
theorem flat_length {enc : α → List Value} {sz : Nat} (hs : ∀ x, (enc x).length = sz) : ∀ xs : List α, (xs.flatMap enc).length = xs.length * sz
  | [] => by simp
  | x :: xs => by rw [List.flatMap_cons, List.length_append, hs, flat_length hs xs, List.length_cons, Nat.succ_mul, Nat.add_comm]
theorem flat_get {enc : α → List Value} {sz : Nat} (hs : ∀ x, (enc x).length = sz) : ∀ (xs : List α) (k j : Nat) (x : α) (u : Value), xs[k]? = some x → (enc x)[j]? = some u → (xs.flatMap enc)[k * sz + j]? = some u
  | [], k, j, x, u, h, _ => by simp at h
  | y :: xs, 0, j, x, u, h, hj => by
    simp only [List.getElem?_cons_zero, Option.some.injEq] at h
    subst h
    have hl := (List.getElem?_eq_some_iff.1 hj).1
    rw [List.flatMap_cons, Nat.zero_mul, Nat.zero_add, List.getElem?_append_left hl]
    exact hj
  | y :: xs, k + 1, j, x, u, h, hj => by
    rw [List.getElem?_cons_succ] at h
    rw [List.flatMap_cons, List.getElem?_append_right (by rw [hs, Nat.succ_mul]; omega), hs]
    have e : (k + 1) * sz + j - sz = k * sz + j := by rw [Nat.succ_mul]; omega
    rw [e]
    exact flat_get hs xs k j x u h hj
end

theorem flat_take {α : Type} {enc : α → List Value} {sz : Nat} (hs : ∀ x, (enc x).length = sz) : ∀ (xs : List α) (k : Nat), (xs.take k).flatMap enc = (xs.flatMap enc).take (k * sz)
  | [], k => by simp
  | x :: xs, 0 => by simp
  | x :: xs, k + 1 => by
    have e : (k + 1) * sz = (enc x).length + k * sz := by rw [hs, Nat.succ_mul]; omega
    rw [List.take_succ_cons, List.flatMap_cons, List.flatMap_cons, e, List.take_length_add_append, flat_take hs xs k]
theorem flat_drop {α : Type} {enc : α → List Value} {sz : Nat} (hs : ∀ x, (enc x).length = sz) : ∀ (xs : List α) (k : Nat), (xs.drop k).flatMap enc = (xs.flatMap enc).drop (k * sz)
  | [], k => by simp
  | x :: xs, 0 => by simp
  | x :: xs, k + 1 => by
    have e : (k + 1) * sz = (enc x).length + k * sz := by rw [hs, Nat.succ_mul]; omega
    rw [List.drop_succ_cons, List.flatMap_cons, e, List.drop_length_add_append, flat_drop hs xs k]

/-- A slice of numbers, as cells. -/
def cI (zs : List Int) : List Value := zs.map (Value.int .i64)
theorem cI_len (zs : List Int) : (cI zs).length = zs.length := by simp [cI]
theorem Rd.lenI {w : World} {A : Option Addr} {n c : Nat} {zs : List Int} (h : Rd w 1 A n c (cI zs)) : zs.length = n := by
  have := h.len; simpa [cI] using this
theorem Rd.atI {w : World} {A : Option Addr} {n c k : Nat} {zs : List Int} (h : Rd w 1 A n c (cI zs)) (hk : k < n) :
    ∃ b off x, A = some ⟨b, off, none⟩ ∧ Hid (zs[k]? = some x) ∧ w.cell? ⟨b, off + k, none⟩ = some (.int .i64 x) := by
  obtain ⟨b, off, e, hc⟩ := h.cells (by omega)
  obtain ⟨x, hx⟩ := get_of_lt h.lenI hk
  exact ⟨b, off, x, e, hx, hc k _ (by simp [cI, hx])⟩

/-- A slice of structs of three numbers, as cells. -/
def e3 (m : Int × Int × Int) : List Value := [.int .i64 m.1, .int .i64 m.2.1, .int .i64 m.2.2]
def c3 (ms : List (Int × Int × Int)) : List Value := ms.flatMap e3
theorem e3_len (m : Int × Int × Int) : (e3 m).length = 3 := rfl
theorem c3_len (ms : List (Int × Int × Int)) : (c3 ms).length = ms.length * 3 := flat_length e3_len ms
theorem c3_nil : c3 [] = [] := rfl
theorem c3_take (ms : List (Int × Int × Int)) (k : Nat) : c3 (ms.take k) = (c3 ms).take (k * 3) := flat_take e3_len ms k
theorem c3_drop (ms : List (Int × Int × Int)) (k : Nat) : c3 (ms.drop k) = (c3 ms).drop (k * 3) := flat_drop e3_len ms k
theorem c3_append (a b : List (Int × Int × Int)) : c3 (a ++ b) = c3 a ++ c3 b := List.flatMap_append
theorem Rd.len3 {w : World} {A : Option Addr} {n c : Nat} {ms : List (Int × Int × Int)} (h : Rd w 3 A n c (c3 ms)) : ms.length = n := by
  have := h.len; rw [c3_len] at this; omega
theorem Rd.at3 {w : World} {A : Option Addr} {n c k : Nat} {ms : List (Int × Int × Int)} (h : Rd w 3 A n c (c3 ms)) (hk : k < n) :
    ∃ b off p f r, A = some ⟨b, off, none⟩ ∧ Hid (ms[k]? = some (p, f, r)) ∧ w.cell? ⟨b, off + k * 3, none⟩ = some (.int .i64 p) ∧ w.cell? ⟨b, off + k * 3 + 1, none⟩ = some (.int .i64 f) ∧
      w.cell? ⟨b, off + k * 3 + 2, none⟩ = some (.int .i64 r) := by
  obtain ⟨b, off, e, hc⟩ := h.cells (by omega)
  obtain ⟨⟨p, f, r⟩, hx⟩ := get_of_lt h.len3 hk
  refine ⟨b, off, p, f, r, e, hx, ?_, ?_, ?_⟩
  · exact hc (k * 3 + 0) _ (flat_get e3_len ms k 0 _ _ hx rfl)
  · rw [Nat.add_assoc]; exact hc (k * 3 + 1) _ (flat_get e3_len ms k 1 _ _ hx rfl)
  · rw [Nat.add_assoc]; exact hc (k * 3 + 2) _ (flat_get e3_len ms k 2 _ _ hx rfl)

/-- A new slice of structs of three numbers, zero all of them. -/
def z3 : Int × Int × Int := (0, 0, 0)
theorem c3_replicate (n : Nat) : (madeCells #[.int .i64 0, .int .i64 0, .int .i64 0] (n * 3)).toList = c3 (List.replicate n z3) := by
  apply List.ext_getElem?
  intro i
  by_cases hi : i < n * 3
  · have h1 : i = i / 3 * 3 + i % 3 := by omega
    have hk : (List.replicate n z3)[i / 3]? = some z3 := by rw [List.getElem?_replicate, if_pos (by omega)]
    have h3 : i % 3 < 3 := Nat.mod_lt _ (by omega)
    have hj : (e3 z3)[i % 3]? = some (.int .i64 0) := by
      rcases (show i % 3 = 0 ∨ i % 3 = 1 ∨ i % 3 = 2 from by omega) with h | h | h <;> rw [h] <;> rfl
    have h2 := flat_get e3_len _ _ _ _ _ hk hj
    rw [← h1] at h2
    rw [show c3 (List.replicate n z3) = (List.replicate n z3).flatMap e3 from rfl, h2]
    unfold madeCells
    rw [Array.getElem?_toList, Array.getElem?_map, Array.getElem?_range, if_pos hi]
    show some (#[Value.int .i64 0, .int .i64 0, .int .i64 0][i % 3]!) = _
    rcases (show i % 3 = 0 ∨ i % 3 = 1 ∨ i % 3 = 2 from by omega) with h | h | h <;> rw [h] <;> rfl
  · rw [List.getElem?_eq_none (by rw [Array.length_toList, size_madeCells]; omega), List.getElem?_eq_none (by rw [c3_len, List.length_replicate]; omega)]

theorem c3_set (ms : List (Int × Int × Int)) (k : Nat) (p f r : Int) (hk : k < ms.length) :
    (((c3 ms).set (k * 3) (.int .i64 p)).set (k * 3 + 1) (.int .i64 f)).set (k * 3 + 2) (.int .i64 r) = c3 (ms.set k (p, f, r)) := by
  induction ms generalizing k with
  | nil => simp at hk
  | cons m ms ih =>
    cases k with
    | zero => rfl
    | succ k =>
      have := ih k (by simpa using hk)
      show (((e3 m ++ c3 ms).set _ _).set _ _).set _ _ = e3 m ++ c3 (ms.set k (p, f, r))
      rw [← this]
      have e1 : (k + 1) * 3 = 3 + k * 3 := by omega
      rw [e1]
      rw [List.set_append_right _ _ (by rw [e3_len]; omega), List.set_append_right _ _ (by rw [e3_len]; omega), List.set_append_right _ _ (by rw [e3_len]; omega)]
      simp only [e3_len, show 3 + k * 3 - 3 = k * 3 from by omega, show 3 + k * 3 + 1 - 3 = k * 3 + 1 from by omega, show 3 + k * 3 + 2 - 3 = k * 3 + 2 from by omega]

/-- An owned row of structs of three numbers: its cells, and what a store of a whole struct leaves. -/
theorem own3_at {w : World} {B e g n cap k : Nat} {ms : List (Int × Int × Int)} (h : Row w B e 3 (.slice (some ⟨g, 0, none⟩) n cap) n (c3 ms)) (hk : k < n) :
    ∃ p f r, Hid (ms[k]? = some (p, f, r)) ∧ w.cell? ⟨g, k * 3, none⟩ = some (.int .i64 p) ∧ w.cell? ⟨g, k * 3 + 1, none⟩ = some (.int .i64 f) ∧ w.cell? ⟨g, k * 3 + 2, none⟩ = some (.int .i64 r) := by
  have hl : ms.length = n := by have := h.len; rw [c3_len] at this; omega
  obtain ⟨⟨p, f, r⟩, hx⟩ := get_of_lt hl hk
  refine ⟨p, f, r, hx, ?_, ?_, ?_⟩
  · rw [h.cellAt _ (by omega)]; exact flat_get e3_len ms k 0 _ _ hx rfl
  · rw [h.cellAt _ (by omega)]; exact flat_get e3_len ms k 1 _ _ hx rfl
  · rw [h.cellAt _ (by omega)]; exact flat_get e3_len ms k 2 _ _ hx rfl
theorem own3_set {w : World} {B e g n cap k : Nat} {ms : List (Int × Int × Int)} (h : Row w B e 3 (.slice (some ⟨g, 0, none⟩) n cap) n (c3 ms)) (hk : k < n) (p f r : Int) :
    Row (((w.setCell ⟨g, k * 3, none⟩ (.int .i64 p)).setCell ⟨g, k * 3 + 1, none⟩ (.int .i64 f)).setCell ⟨g, k * 3 + 2, none⟩ (.int .i64 r)) B e 3 (.slice (some ⟨g, 0, none⟩) n cap) n (c3 (ms.set k (p, f, r))) := by
  have hl : ms.length = n := by have := h.len; rw [c3_len] at this; omega
  have h3 := ((h.stored (k * 3) (.int .i64 p)).stored (k * 3 + 1) (.int .i64 f)).stored (k * 3 + 2) (.int .i64 r)
  rw [c3_set ms k p f r (by omega)] at h3
  exact h3

/-- An owned row that is not empty lies at the head of a block. -/
theorem Fr.form {w : World} {B e sz n c : Nat} {A : Option Addr} {xs : List Value} (h : Fr w B e sz (.slice A n c) n xs) (hn : 0 < n) :
    ∃ g, A = some ⟨g, 0, none⟩ ∧ B ≤ g ∧ g < w.heap.size ∧ Row w B e sz (.slice (some ⟨g, 0, none⟩) n c) n xs := by
  rcases h with ⟨A', _, h0, _⟩ | h
  · omega
  · obtain ⟨g, c', hv⟩ := h.shape
    simp only [Value.slice.injEq] at hv
    obtain ⟨rfl, _, rfl⟩ := hv
    have := h.lt g rfl
    exact ⟨g, rfl, this.1, this.2, h⟩
theorem grown_set {w w' : World} {g : Nat} (h : w.grownBy w' (some g)) {p : Addr} (hp : p.block = g) (u : Value) : w.grownBy (w'.setCell p u) (some g) :=
  ⟨h.os, h.tape, h.output, by simpa [World.setCell] using h.size, fun i hi hne => (Below.heap_setCell w' p u i (fun e => hne (by rw [e, hp]))).trans (h.block i hi hne)⟩
/-- What was there before the written row was made is as it was. -/
theorem ext_grown {a w w' : World} {row : Option Nat} (h : Ext a w) (hg : w.grownBy w' row) (hr : ∀ k, row = some k → a.heap.size ≤ k) : Ext a w' := Below.grown h hg h.size hr
/-- Another row that was made later is as it was. -/
theorem Fr.past {w w' : World} {B e sz n : Nat} {v : Value} {xs : List Value} {row : Option Nat} (h : Fr w B e sz v n xs) (hg : w.grownBy w' row) (hr : ∀ k, row = some k → k < B) : Fr w' B e sz v n xs :=
  h.keepB fun g _ hB hlt => hg.block g hlt fun e => by have := hr g e.symm; omega
/-- The block that a write into the slice may turn: none, where it is empty. -/
def ownB (v : Value) (n : Nat) : Option Nat := if n = 0 then none else v.ownBlock
theorem ownB_pos {v : Value} {n : Nat} (h : 0 < n) : ownB v n = v.ownBlock := by unfold ownB; rw [if_neg (by omega)]
theorem Fr.blkB {w : World} {B e sz n : Nat} {v : Value} {xs : List Value} (h : Fr w B e sz v n xs) : ∀ k, ownB v n = some k → B ≤ k ∧ k < w.heap.size := by
  intro k hk
  unfold ownB at hk
  split at hk
  · cases hk
  · rcases h with ⟨A', _, h0, _⟩ | h
    · omega
    · exact h.lt k hk
theorem Fr.blk {w : World} {B e sz n : Nat} {v : Value} {xs : List Value} (h : Fr w B e sz v n xs) (hn : 0 < n) : ∀ k, v.ownBlock = some k → B ≤ k ∧ k < w.heap.size := by
  rcases h with ⟨A', _, h0, _⟩ | h
  · omega
  · exact h.lt

section
variable {α : Type}
/-- Marks in the making. -/
def marks (f : Int → α) (sz : Int) (k : Int) (n : Nat) : List α := (List.range n).map fun (i : Nat) => f (k + sz * i)
theorem marks_len (f : Int → α) (sz k : Int) (n : Nat) : (marks f sz k n).length = n := by simp [marks]
theorem marks_get (f : Int → α) (sz k : Int) (n i : Nat) (h : i < n) : (marks f sz k n)[i]? = some (f (k + sz * i)) := by simp [marks, h]
theorem marks_start (f : Int → α) (sz k : Int) (xs : List α) : marks f sz k 0 ++ xs.drop 0 = xs := by simp [marks]
theorem marks_step (f : Int → α) (sz k : Int) {xs : List α} {j n : Nat} (hl : xs.length = n) (hj : j < n) : (marks f sz k j ++ xs.drop j).set j (f (k + sz * j)) = marks f sz k (j + 1) ++ xs.drop (j + 1) := by
  obtain ⟨x, hx⟩ := get_of_lt hl hj
  rw [drop_of_get hx, List.set_append_right _ _ (by rw [marks_len]; exact Nat.le_refl _), marks_len, Nat.sub_self, List.set_cons_zero]
  have e : marks f sz k (j + 1) = marks f sz k j ++ [f (k + sz * j)] := by unfold marks; rw [List.range_succ, List.map_append]; rfl
  rw [e, List.append_assoc]; rfl
theorem marks_end (f : Int → α) (sz k : Int) {xs : List α} {n : Nat} (hl : xs.length = n) : marks f sz k n ++ xs.drop n = marks f sz k n := by
  rw [List.drop_eq_nil_of_le (by omega), List.append_nil]
theorem marks_all_len (f : Int → α) (sz k : Int) {xs : List α} {n j : Nat} (hl : xs.length = n) (hj : j ≤ n) : (marks f sz k j ++ xs.drop j).length = n := by
  rw [List.length_append, marks_len, List.length_drop]; omega
/-- A copy in the making: the first k elements are there, the others are as they were made. -/
theorem fill_start (xs : List α) (n : Nat) (z : α) : xs.take 0 ++ List.replicate (n - 0) z = List.replicate n z := by simp
theorem fill_step {xs : List α} {k n : Nat} {z x : α} (hl : xs.length = n) (hk : k < n) (hx : xs[k]? = some x) : (xs.take k ++ List.replicate (n - k) z).set k x = xs.take (k + 1) ++ List.replicate (n - (k + 1)) z := by
  have hlen : (xs.take k).length = k := by rw [List.length_take]; omega
  rw [take_of_get hx, List.append_assoc, List.set_append_right _ _ (by omega), hlen, Nat.sub_self]
  have e : n - k = (n - (k + 1)) + 1 := by omega
  rw [e, List.replicate_succ, List.set_cons_zero]
  rfl
theorem fill_end {xs : List α} {n : Nat} {z : α} (hl : xs.length = n) : xs.take n ++ List.replicate (n - n) z = xs := by
  rw [Nat.sub_self, List.replicate_zero, List.append_nil, List.take_of_length_le (by omega)]
end

end Go.Proofs.Yteahiiflgiimnaa
