/-
  Faults copied and compared, as the laws do it.
-/
import Derived.Test.YteahiiflgiimnaaSmall
namespace Go.Proofs.Yteahiiflgiimnaa
open Go.RowKit

set_option maxHeartbeats 400000 in
theorem toFault_any (a b c : Int) (w : World) :
    Calls Try.prog 15 #[.agg #[.int .i64 a, .int .i64 b, .int .i64 c]] w fun e w' => e = .returned (.agg #[.int .i64 a, .int .i64 b, .int .i64 c]) ∧ Ext w w' := by
  go_enter Try.func15, Try.ntmps15
  go_wp2
  refine bodyPost_ret (v := .agg #[.int .i64 a, .int .i64 b, .int .i64 c]) (by simp [results, Try.results15, go_sem]) rfl ⟨rfl, ?_⟩
  exact (((Below.refl _ _).alloc (Nat.le_refl _) _).alloc (by simp) _).alloc (by simp; omega) _
def eqFt (a b : Int × Int × Int) : Bool := a.1 == b.1 && a.2.1 == b.2.1 && a.2.2 == b.2.2
theorem eqFt_self (a : Int × Int × Int) : eqFt a a = true := by simp [eqFt]
set_option maxHeartbeats 400000 in
theorem eqFault_any (a b c x y z : Int) (w : World) :
    Calls Try.prog 23 #[.agg #[.int .i64 a, .int .i64 b, .int .i64 c], .agg #[.int .i64 x, .int .i64 y, .int .i64 z]] w fun e w' => e = .returned (.bool (eqFt (a, b, c) (x, y, z))) ∧ Ext w w' := by
  go_enter Try.func23, Try.ntmps23
  go_wp2
  all_goals go_ret
  all_goals refine ⟨ret_bool (by simp_all [eqFt]), ?_⟩
  all_goals exact ((Below.refl _ _).alloc (Nat.le_refl _) _).alloc (by simp) _
end Go.Proofs.Yteahiiflgiimnaa
