/-
  Whether a capability is valid, as the program and as the reference ask it.
-/
import Derived.Test.YteahiiflgiimnaaSmall
import Derived.Laws.StructEq
namespace Go.Proofs.Yteahiiflgiimnaa
open Go.RowKit

def badgedB (k : Int) : Bool := k == 4 || k == 5
def capB (k o r b : Int) : Bool := if k == 0 then (o == 0 && r == 0 && b == 0) else inB k 1 7 && inB o 0 99 && inB r 0 15 && (b == 0 || badgedB k && inB b 0 999)

set_option maxHeartbeats 400000 in
theorem l2Badged_any (k : Int) (w : World) : Calls Try.prog 99 #[.int .i64 k] w fun e w' => e = .returned (.bool (badgedB k)) ∧ w = w' := by
  go_enter Try.func99, Try.ntmps99
  go_wp2
  all_goals go_ret
  all_goals simp_all [badgedB]
set_option maxHeartbeats 400000 in
theorem badged_any (k : Int) (w : World) : Calls Try.prog 90 #[.int .i64 k] w fun e w' => e = .returned (.bool (badgedB k)) ∧ w = w' := by
  go_enter Try.func90, Try.ntmps90
  go_wp2
  all_goals go_ret
  all_goals simp_all [badgedB]

set_option maxHeartbeats 1000000 in
theorem specCapValid_any (k o r b : Int) (w : World) :
    Calls Try.prog 88 #[.agg #[.int .i64 k, .int .i64 o, .int .i64 r, .int .i64 b]] w fun e w' => e = .returned (.bool (capB k o r b)) ∧ Ext w w' := by
  cases hk : (k == 0) with
  | true =>
    go_enter Try.func88, Try.ntmps88
    go_wp2
    all_goals go_ret
    all_goals exact ⟨ret_bool (by simp_all [capB]), (Below.refl _ _).alloc (Nat.le_refl _) _⟩
  | false =>
    go_enter Try.func88, Try.ntmps88
    go_wp2_with (first | ((go_at_call 46; refine (l1In_any _ _ _ _).mono ?_; rintro e w' ⟨rfl, rfl⟩)) | ((go_at_call 45; refine (specRightsValid_any _ _).mono ?_; rintro e w' ⟨rfl, rfl⟩)) | ((go_at_call 99; refine (l2Badged_any _ _).mono ?_; rintro e w' ⟨rfl, rfl⟩)))
    all_goals go_ret
    all_goals exact ⟨ret_bool (by simp_all [capB]), (Below.refl _ _).alloc (Nat.le_refl _) _⟩
set_option maxHeartbeats 1000000 in
theorem CapValid_any (k o r b : Int) (w : World) :
    Calls Try.prog 52 #[.agg #[.int .i64 k, .int .i64 o, .int .i64 r, .int .i64 b]] w fun e w' => e = .returned (.bool (capB k o r b)) ∧ Ext w w' := by
  cases hk : (k == 0) with
  | true =>
    go_enter Try.func52, Try.ntmps52
    go_wp2
    all_goals go_ret
    all_goals exact ⟨ret_bool (by simp_all [capB]), (Below.refl _ _).alloc (Nat.le_refl _) _⟩
  | false =>
    go_enter Try.func52, Try.ntmps52
    go_wp2_with (first | ((go_at_call 72; refine (in_any _ _ _ _).mono ?_; rintro e w' ⟨rfl, rfl⟩)) | ((go_at_call 81; refine (isObject_any _ _).mono ?_; rintro e w' ⟨rfl, rfl⟩)) | ((go_at_call 58; refine (RightsValid_any _ _).mono ?_; rintro e w' ⟨rfl, rfl⟩)) | ((go_at_call 90; refine (badged_any _ _).mono ?_; rintro e w' ⟨rfl, rfl⟩)))
    all_goals go_ret
    all_goals exact ⟨ret_bool (by simp_all [capB]), (Below.refl _ _).alloc (Nat.le_refl _) _⟩
end Go.Proofs.Yteahiiflgiimnaa
