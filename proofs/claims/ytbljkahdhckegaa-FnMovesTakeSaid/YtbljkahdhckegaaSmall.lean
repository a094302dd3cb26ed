/-
  The small functions that all chapters ask: ranges and sets of rights.
-/
import Derived.Test.YtbljkahdhckegaaTypes
namespace Go.Proofs.Ytbljkahdhckegaa
open Go.RowKit
set_option maxHeartbeats 400000 in
theorem in_any (n lo hi : Int) (w : World) :
    Calls Try.prog 52 #[.int .i64 n, .int .i64 lo, .int .i64 hi] w fun e w' => e = .returned (.bool (inB n lo hi)) ∧ w = w' := by
  go_enter Try.func52, Try.ntmps52
  go_wp2
  all_goals go_ret
  all_goals simp [inB, *]
  omega
theorem in_eq {n lo hi : Int} {t : Bool} {w : World} (h : inB n lo hi = t) :
    Calls Try.prog 52 #[.int .i64 n, .int .i64 lo, .int .i64 hi] w fun e w' => e = .returned (.bool t) ∧ w = w' := h ▸ in_any n lo hi w

set_option maxHeartbeats 400000 in
theorem l1In_any (n lo hi : Int) (w : World) :
    Calls Try.prog 60 #[.int .i64 n, .int .i64 lo, .int .i64 hi] w fun e w' => e = .returned (.bool (inB n lo hi)) ∧ w = w' := by
  go_enter Try.func60, Try.ntmps60
  go_wp2
  all_goals go_ret
  all_goals simp [inB, *]
  omega
theorem l1In_eq {n lo hi : Int} {t : Bool} {w : World} (h : inB n lo hi = t) :
    Calls Try.prog 60 #[.int .i64 n, .int .i64 lo, .int .i64 hi] w fun e w' => e = .returned (.bool t) ∧ w = w' := h ▸ l1In_any n lo hi w


theorem RightsValid_any (n : Int) (w : World) : Calls Try.prog 50 #[.int .i64 n] w fun e w' => e = .returned (.bool (inB n 0 15)) ∧ w = w' := by
  go_enter Try.func50, Try.ntmps50
  go_wp2_with ((go_at_call 52; refine (in_any _ _ _ _).mono ?_; rintro e w' ⟨rfl, rfl⟩))
  go_ret
  exact ⟨rfl, rfl⟩
theorem RightsValid_eq {n : Int} {t : Bool} {w : World} (h : inB n 0 15 = t) : Calls Try.prog 50 #[.int .i64 n] w fun e w' => e = .returned (.bool t) ∧ w = w' := h ▸ RightsValid_any n w
theorem specRightsValid_any (n : Int) (w : World) : Calls Try.prog 49 #[.int .i64 n] w fun e w' => e = .returned (.bool (inB n 0 15)) ∧ w = w' := by
  go_enter Try.func49, Try.ntmps49
  go_wp2_with ((go_at_call 60; refine (l1In_any _ _ _ _).mono ?_; rintro e w' ⟨rfl, rfl⟩))
  go_ret
  exact ⟨rfl, rfl⟩
theorem specRightsValid_eq {n : Int} {t : Bool} {w : World} (h : inB n 0 15 = t) : Calls Try.prog 49 #[.int .i64 n] w fun e w' => e = .returned (.bool t) ∧ w = w' := h ▸ specRightsValid_any n w

/-- What is left of a number when n are counted: -1 where it does not suffice. -/
def szB (left n : Int) : Int := if left - n < 0 then -1 else left - n
end Go.Proofs.Ytbljkahdhckegaa
