/-
  Sets of rights within each other, as the program and as the reference ask it; two lists element by element.
-/
import Derived.Test.YtbljkahdhckegaaBase
namespace Go.Proofs.Ytbljkahdhckegaa
open Go.RowKit
/-- r has nothing that q lacks, as the program asks it. -/
def cvB (r q : Int) : Bool := bits .andNot .i64 r q == 0
/-- .. and as the reference asks it. -/
def cvA (r q : Int) : Bool := bits .and .i64 r q == r
theorem cv_nat : ∀ a b : Fin 16, (bits .and .i64 ((a : Nat) : Int) ((b : Nat) : Int) == ((a : Nat) : Int)) = (bits .andNot .i64 ((a : Nat) : Int) ((b : Nat) : Int) == 0) := by decide +kernel
theorem cv_same {r q : Int} (hr : 0 ≤ r ∧ r ≤ 15) (hq : 0 ≤ q ∧ q ≤ 15) : cvA r q = cvB r q := by
  have h := cv_nat ⟨r.toNat, by omega⟩ ⟨q.toNat, by omega⟩
  simp only [Int.toNat_of_nonneg hr.1, Int.toNat_of_nonneg hq.1] at h
  exact h
def all2 {α β : Type} (p : α → β → Bool) : List α → List β → Bool
  | x :: xs, y :: ys => p x y && all2 p xs ys
  | _, _ => true
theorem all2_step {α β : Type} {p : α → β → Bool} {xs : List α} {ys : List β} {k : Nat} {x : α} {y : β} (hx : xs[k]? = some x) (hy : ys[k]? = some y) : all2 p (xs.drop k) (ys.drop k) = (p x y && all2 p (xs.drop (k + 1)) (ys.drop (k + 1))) := by
  rw [drop_of_get hx, drop_of_get hy]; rfl
theorem all2_end {α β : Type} {p : α → β → Bool} {xs : List α} {ys : List β} {k : Nat} (h : xs.length ≤ k) : all2 p (xs.drop k) (ys.drop k) = true := by
  rw [List.drop_eq_nil_of_le h]; rfl
theorem all2_iff {α β : Type} {p : α → β → Bool} : ∀ {xs : List α} {ys : List β}, xs.length = ys.length → (all2 p xs ys = true ↔ ∀ (i : Nat) x y, xs[i]? = some x → ys[i]? = some y → p x y = true)
  | [], [], _ => by simp [all2]
  | x :: xs, [], h => by simp at h
  | [], y :: ys, h => by simp at h
  | x :: xs, y :: ys, h => by
    have ih := all2_iff (p := p) (xs := xs) (ys := ys) (by simpa using h)
    simp only [all2, Bool.and_eq_true, ih]
    constructor
    · rintro ⟨h1, h2⟩ i a b ha hb
      cases i with
      | zero => simp only [List.getElem?_cons_zero, Option.some.injEq] at ha hb; subst ha hb; exact h1
      | succ i => exact h2 i a b (by simpa using ha) (by simpa using hb)
    · intro h1
      exact ⟨h1 0 x y rfl rfl, fun i a b ha hb => h1 (i + 1) a b (by simpa using ha) (by simpa using hb)⟩
end Go.Proofs.Ytbljkahdhckegaa
