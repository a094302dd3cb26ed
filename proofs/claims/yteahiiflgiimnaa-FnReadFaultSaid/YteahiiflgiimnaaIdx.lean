/-
  The place of the first element that passes a test: plain Lean.
-/
import Derived.Test.YteahiiflgiimnaaBase
namespace Go.Proofs.Yteahiiflgiimnaa
open Go.RowKit

def shiftIx (k : Nat) (i : Int) : Int := if i < 0 then -1 else i + k
def idxOr {α : Type} (q : α → Bool) : List α → Int
  | [] => -1
  | x :: r => if q x then 0 else shiftIx 1 (idxOr q r)
theorem shiftIx_add (k m : Nat) (i : Int) : shiftIx k (shiftIx m i) = shiftIx (k + m) i := by
  unfold shiftIx; split <;> (try split) <;> omega
theorem idxOr_ge {α : Type} (q : α → Bool) : ∀ l : List α, -1 ≤ idxOr q l
  | [] => by simp [idxOr]
  | x :: r => by unfold idxOr shiftIx; have := idxOr_ge q r; split <;> (try split) <;> omega
theorem shiftIx_zero {α : Type} (q : α → Bool) (l : List α) : shiftIx 0 (idxOr q l) = idxOr q l := by
  have := idxOr_ge q l; unfold shiftIx; split <;> omega
theorem idxOr_none {α : Type} (q : α → Bool) : ∀ l : List α, idxOr q l = -1 → ∀ x ∈ l, q x = false
  | [], _ => by simp
  | x :: r, h => by
    unfold idxOr at h
    cases t : q x with
    | true => rw [t] at h; simp at h
    | false =>
      rw [t] at h
      have := idxOr_ge q r
      have h2 : idxOr q r = -1 := by unfold shiftIx at h; simp only [Bool.false_eq_true, if_false] at h; split at h <;> omega
      intro y hy
      rcases List.mem_cons.1 hy with rfl | hy
      · exact t
      · exact idxOr_none q r h2 y hy
theorem idxOr_some {α : Type} (q : α → Bool) : ∀ (l : List α) (i : Nat), idxOr q l = i → ∃ x, l[i]? = some x ∧ q x = true ∧ ∀ y ∈ l.take i, q y = false
  | [], i, h => by unfold idxOr at h; omega
  | x :: r, i, h => by
    unfold idxOr at h
    cases t : q x with
    | true =>
      rw [t] at h
      simp only [if_true] at h
      obtain rfl : i = 0 := by omega
      exact ⟨x, rfl, t, by simp⟩
    | false =>
      rw [t] at h
      have hg := idxOr_ge q r
      obtain ⟨j, hj, hij⟩ : ∃ j : Nat, idxOr q r = j ∧ i = j + 1 := by
        unfold shiftIx at h; simp only [Bool.false_eq_true, if_false] at h
        split at h
        · omega
        · exact ⟨(idxOr q r).toNat, by omega, by omega⟩
      subst hij
      obtain ⟨y, h1, h2, h3⟩ := idxOr_some q r j hj
      refine ⟨y, by simpa using h1, h2, ?_⟩
      rw [List.take_succ_cons]
      intro z hz
      rcases List.mem_cons.1 hz with rfl | hz
      · exact t
      · exact h3 z hz
theorem idxOr_lt {α : Type} (q : α → Bool) (l : List α) (i : Nat) (h : idxOr q l = i) : i < l.length := by
  obtain ⟨x, hx, _⟩ := idxOr_some q l i h
  exact (List.getElem?_eq_some_iff.1 hx).1
theorem idxOr_any {α : Type} (q : α → Bool) : ∀ l : List α, decide (0 ≤ idxOr q l) = l.any q
  | [] => by simp [idxOr]
  | x :: r => by
    have ih := idxOr_any q r
    have := idxOr_ge q r
    have e : idxOr q (x :: r) = if q x then 0 else shiftIx 1 (idxOr q r) := rfl
    rw [List.any_cons, ← ih, e]
    unfold shiftIx
    cases q x with
    | true => simp
    | false => simp only [Bool.false_eq_true, if_false, Bool.false_or, decide_eq_decide]; split <;> omega
theorem filter_snoc {α : Type} (q : α → Bool) {xs : List α} {k : Nat} {x : α} (h : xs[k]? = some x) : (xs.take (k + 1)).filter q = (xs.take k).filter q ++ (if q x = true then [x] else []) := by
  rw [List.take_add_one, h, List.filter_append]
  simp [List.filter_cons]
/-- A list of which a part is written over with what is kept: one step. -/
theorem keep_step {α : Type} {q : α → Bool} {ms ys : List α} {a b n : Nat} {x : α} (hl : ys.length = n) (hx : ms[b]? = some x) (hab : a ≤ b) (hb : b < n) (h1 : ys.take a = (ms.take b).filter q) (h2 : ys.drop b = ms.drop b) (hq : q x = true) :
    (ys.set a x).take (a + 1) = (ms.take (b + 1)).filter q ∧ (ys.set a x).drop (b + 1) = ms.drop (b + 1) := by
  constructor
  · rw [filter_snoc q hx, if_pos hq, ← h1, List.take_add_one, List.take_set_of_le (by omega), List.getElem?_set_self (by omega)]; rfl
  · have := congrArg (List.drop 1) h2
    rw [List.drop_drop, List.drop_drop] at this
    rw [List.drop_set_of_lt (by omega)]; exact this
theorem keep_skip {α : Type} {q : α → Bool} {ms ys : List α} {a b : Nat} {x : α} (hx : ms[b]? = some x) (h1 : ys.take a = (ms.take b).filter q) (h2 : ys.drop b = ms.drop b) (hq : q x = false) :
    ys.take a = (ms.take (b + 1)).filter q ∧ ys.drop (b + 1) = ms.drop (b + 1) := by
  constructor
  · rw [filter_snoc q hx, if_neg (by rw [hq]; exact Bool.false_ne_true), List.append_nil, h1]
  · have := congrArg (List.drop 1) h2
    rw [List.drop_drop, List.drop_drop] at this
    exact this
theorem filter_all {α : Type} {q : α → Bool} {l : List α} (h : ∀ x ∈ l, q x = false) : l.filter (fun x => !q x) = l := by
  rw [List.filter_eq_self]; intro x hx; rw [h x hx]; rfl
theorem keep_start {α : Type} {q : α → Bool} {ms : List α} {i : Nat} (h : idxOr q ms = i) : ms.take i = (ms.take (i + 1)).filter (fun x => !q x) := by
  obtain ⟨x, hx, hq, hp⟩ := idxOr_some q ms i h
  rw [filter_snoc _ hx, if_neg (by simp [hq]), List.append_nil, filter_all hp]
/-- A row of other elements lies in another block. -/
theorem Fr.aside {w w' : World} {B B2 e e2 sz sz2 n n2 : Nat} {v v2 : Value} {xs xs2 : List Value} (h : Fr w B e sz v n xs) (h2 : Fr w B2 e2 sz2 v2 n2 xs2) (hne : e ≠ e2) (hg : w.grownBy w' (ownB v2 n2)) : Fr w' B e sz v n xs := by
  refine h.imp id fun hr => hr.keepB fun g hv _ hlt => hg.block g hlt fun he => ?_
  unfold ownB at he
  split at he
  · cases he
  · rcases h2 with ⟨_, _, h0, _⟩ | h2
    · omega
    · obtain ⟨g1, c1, cur1, rfl, _, hh1, _⟩ := hr.blk
      obtain ⟨g2, c2, cur2, rfl, _, hh2, _⟩ := h2.blk
      simp only [Value.ownBlock, Option.some.injEq] at hv he
      subst hv he
      rw [hh1] at hh2
      simp only [Option.some.injEq, Obj.cells.injEq] at hh2
      exact hne hh2.2.1
theorem Row.aside {w w' : World} {B B2 e e2 sz sz2 n n2 : Nat} {v v2 : Value} {xs xs2 : List Value} {row : Option Nat} (h : Row w B e sz v n xs) (h2 : Row w B2 e2 sz2 v2 n2 xs2) (hne : e ≠ e2) (hg : w.grownBy w' row) (hr : ∀ k, row = some k → v2.ownBlock = some k) : Row w' B e sz v n xs := by
  refine h.keepB fun g hv _ hlt => hg.block g hlt fun he => ?_
  have hv2 := hr g he.symm
  obtain ⟨g1, c1, cur1, rfl, _, hh1, _⟩ := h.blk
  obtain ⟨g2, c2, cur2, rfl, _, hh2, _⟩ := h2.blk
  simp only [Value.ownBlock, Option.some.injEq] at hv hv2
  subst hv hv2
  rw [hh1] at hh2
  simp only [Option.some.injEq, Obj.cells.injEq] at hh2
  exact hne hh2.2.1
theorem Fr.row {w : World} {B e sz n c : Nat} {A : Option Addr} {xs : List Value} (h : Fr w B e sz (.slice A n c) n xs) (hn : 0 < n) : Row w B e sz (.slice A n c) n xs := by
  obtain ⟨g, rfl, _, _, r⟩ := h.form hn; exact r
end Go.Proofs.Yteahiiflgiimnaa
