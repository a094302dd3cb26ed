/-
  The small functions that all chapters ask: ranges and sets of rights.
-/
import Derived.Test.YteahiiflgiimnaaTypes
namespace Go.Proofs.Yteahiiflgiimnaa
open Go.RowKit
set_option maxHeartbeats 400000 in
theorem in_any (n lo hi : Int) (w : World) :
    Calls Try.prog 72 #[.int .i64 n, .int .i64 lo, .int .i64 hi] w fun e w' => e = .returned (.bool (inB n lo hi)) ∧ w = w' := by
  go_enter Try.func72, Try.ntmps72
  go_wp2
  all_goals go_ret
  all_goals simp [inB, *]
  omega
theorem in_eq {n lo hi : Int} {t : Bool} {w : World} (h : inB n lo hi = t) :
    Calls Try.prog 72 #[.int .i64 n, .int .i64 lo, .int .i64 hi] w fun e w' => e = .returned (.bool t) ∧ w = w' := h ▸ in_any n lo hi w

set_option maxHeartbeats 400000 in
theorem l1In_any (n lo hi : Int) (w : World) :
    Calls Try.prog 46 #[.int .i64 n, .int .i64 lo, .int .i64 hi] w fun e w' => e = .returned (.bool (inB n lo hi)) ∧ w = w' := by
  go_enter Try.func46, Try.ntmps46
  go_wp2
  all_goals go_ret
  all_goals simp [inB, *]
  omega
theorem l1In_eq {n lo hi : Int} {t : Bool} {w : World} (h : inB n lo hi = t) :
    Calls Try.prog 46 #[.int .i64 n, .int .i64 lo, .int .i64 hi] w fun e w' => e = .returned (.bool t) ∧ w = w' := h ▸ l1In_any n lo hi w

set_option maxHeartbeats 400000 in
theorem isObject_any (n : Int) (w : World) :
    Calls Try.prog 81 #[.int .i64 n] w fun e w' => e = .returned (.bool (inB n 0 99)) ∧ w = w' := by
  go_enter Try.func81, Try.ntmps81
  go_wp2_with ((go_at_call 72; refine (in_any _ _ _ _).mono ?_; rintro e w' ⟨rfl, rfl⟩))
  all_goals go_ret
  all_goals simp [*]

theorem RightsValid_any (n : Int) (w : World) : Calls Try.prog 58 #[.int .i64 n] w fun e w' => e = .returned (.bool (inB n 0 15)) ∧ w = w' := by
  go_enter Try.func58, Try.ntmps58
  go_wp2_with ((go_at_call 72; refine (in_any _ _ _ _).mono ?_; rintro e w' ⟨rfl, rfl⟩))
  go_ret
  exact ⟨rfl, rfl⟩
theorem RightsValid_eq {n : Int} {t : Bool} {w : World} (h : inB n 0 15 = t) : Calls Try.prog 58 #[.int .i64 n] w fun e w' => e = .returned (.bool t) ∧ w = w' := h ▸ RightsValid_any n w
theorem specRightsValid_any (n : Int) (w : World) : Calls Try.prog 45 #[.int .i64 n] w fun e w' => e = .returned (.bool (inB n 0 15)) ∧ w = w' := by
  go_enter Try.func45, Try.ntmps45
  go_wp2_with ((go_at_call 46; refine (l1In_any _ _ _ _).mono ?_; rintro e w' ⟨rfl, rfl⟩))
  go_ret
  exact ⟨rfl, rfl⟩
theorem specRightsValid_eq {n : Int} {t : Bool} {w : World} (h : inB n 0 15 = t) : Calls Try.prog 45 #[.int .i64 n] w fun e w' => e = .returned (.bool t) ∧ w = w' := h ▸ specRightsValid_any n w
theorem isAddress_any (n : Int) (w : World) : Calls Try.prog 89 #[.int .i64 n] w fun e w' => e = .returned (.bool (inB n 0 65535)) ∧ w = w' := by
  go_enter Try.func89, Try.ntmps89
  go_wp2_with ((go_at_call 72; refine (in_any _ _ _ _).mono ?_; rintro e w' ⟨rfl, rfl⟩))
  go_ret
  exact ⟨rfl, rfl⟩

/-- What is left of a number when n are counted: -1 where it does not suffice. -/
def szB (left n : Int) : Int := if left - n < 0 then -1 else left - n
end Go.Proofs.Yteahiiflgiimnaa
