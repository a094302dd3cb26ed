/-
  The library's Clone and Clip, and the program's clone, at slices of impl.Mapping.
-/
import Derived.Test.YteahiiflgiimnaaRun
import Derived.Test.YteahiiflgiimnaaTypes
namespace Go.Proofs.Yteahiiflgiimnaa
open Go.RowKit

set_option maxHeartbeats 400000 in
theorem CloneMp_any (A : Option Addr) (n c : Nat) (xs : List Value) (w : World) (h : Rd w 3 A n c xs) (h1 : ∀ u ∈ xs, u.oneCell' = true) (hn : n ≤ 1048576) :
    Calls Try.prog 92 #[.slice A n c] w fun e w' => ∃ A' c', e = .returned (.slice A' n c') ∧ Fr w' w.heap.size 76 3 (.slice A' n c') n xs ∧ Ext w w' := by
  obtain ⟨i0, hi, hz0, hz1, hz2⟩ := info_parts Try.infoMp
  have heq : ∀ w', (binOp .eql 28 (.slice A n c) (.slice none 0 0)).run Try.prog w' = .ok (.bool A.isNone) w' := fun w' => Lib.run_eql_slice_nil w' _ _ A n c 0 0 Try.underlying28
  cases A with
  | none =>
    have hn0 : n = 0 := by
      rcases Nat.eq_zero_or_pos n with h0 | h0
      · exact h0
      · obtain ⟨_, _, e, _⟩ := h.cells h0; cases e
    have hx : xs = [] := List.eq_nil_of_length_eq_zero (by have := h.len; rw [hn0] at this; omega)
    subst hn0 hx
    simp only [Option.isNone_none] at heq
    clear h
    go_enter Try.func92, Try.ntmps92
    go_wp2
    go_ret
    exact ⟨none, 0, rfl, .inl ⟨none, rfl, rfl, rfl⟩, Below.refl _ _⟩
  | some ad =>
    simp only [Option.isNone_some] at heq
    have hF : Fr (w.alloc (.cells #[] 76)) w.heap.size 76 3 (.slice (some ⟨w.heap.size, 0, none⟩) 0 0) 0 [] := .inr (Row.lit (n := 0) #[] (by simp) (by unfold maxLen; omega) (Nat.le_refl _))
    have hR := h.keep (kept_of_below (w' := w.alloc (.cells #[] 76)) ((Below.refl _ _).alloc (Nat.le_refl _) _))
    go_enter Try.func92, Try.ntmps92
    go_wp2_with (at_builtin; refine wpList_append_fr _ rfl _ _ 28 rfl w.heap.size 76 i0 _ 3 24 Try.underlying28 hi hz0 hz1 hz2 rfl (by omega) _ 0 [] rfl hF _ n c xs rfl hR h1 (by unfold maxLen; omega) (by omega) (by simp) ?_; intro A' c' w1 row hF1 hg hrow)
    go_ret
    rw [Nat.zero_add, List.nil_append] at hF1
    exact ⟨A', c', rfl, hF1, Below.grown ((Below.refl _ _).alloc (Nat.le_refl _) _) hg (by simp) (fun k hk => (hrow k hk).1)⟩

theorem Fr.clipMp {w : World} {B e n c : Nat} {A : Option Addr} {xs : List Value} (h : Fr w B e 3 (.slice A n c) n xs) : Fr w B e 3 (.slice A n n) n xs := by
  rcases h with ⟨A', hv, rfl, rfl⟩ | h
  · simp only [Value.slice.injEq] at hv
    obtain ⟨rfl, _, rfl⟩ := hv
    exact .inl ⟨_, rfl, rfl, rfl⟩
  · obtain ⟨g, c', hv⟩ := h.shape
    simp only [Value.slice.injEq] at hv
    obtain ⟨rfl, _, rfl⟩ := hv
    exact .inr h.clip
set_option maxHeartbeats 400000 in
theorem ClipMp_any (A : Option Addr) (n c : Nat) (w : World) (hn : n ≤ c) (_hc : c ≤ 9223372036854775807) :
    Calls Try.prog 91 #[.slice A n c] w fun e w' => e = .returned (.slice A n n) ∧ w = w' := by
  go_enter Try.func91, Try.ntmps91
  go_wp2
  go_ret
  exact ⟨rfl, rfl⟩

set_option maxHeartbeats 400000 in
theorem cloneMp_any (A : Option Addr) (n c : Nat) (xs : List Value) (w : World) (h : Rd w 3 A n c xs) (h1 : ∀ u ∈ xs, u.oneCell' = true) (hn : n ≤ 1048576) :
    Calls Try.prog 53 #[.slice A n c] w fun e w' => ∃ A' c', e = .returned (.slice A' n c') ∧ Fr w' w.heap.size 76 3 (.slice A' n c') n xs ∧ Ext w w' := by
  go_enter Try.func53, Try.ntmps53
  go_wp2_with fail
  refine (CloneMp_any _ _ _ _ _ h h1 hn).mono ?_; rintro e w1 ⟨A1, c1, rfl, f1, hb1⟩
  have hl := f1.rd'.2.le
  have ht := f1.rd'.2.top
  go_wp2_with fail
  refine (ClipMp_any _ _ _ _ hl ht).mono ?_; rintro e w' ⟨rfl, rfl⟩
  go_wp2
  go_ret
  exact ⟨_, _, rfl, f1.clipMp, hb1⟩
end Go.Proofs.Yteahiiflgiimnaa
