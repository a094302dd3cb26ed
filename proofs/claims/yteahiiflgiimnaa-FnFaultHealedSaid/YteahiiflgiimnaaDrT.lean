/-
  The spaces, addresses and rights that the reference draws for faults.
-/
import Derived.Test.YteahiiflgiimnaaMpT
namespace Go.Proofs.Yteahiiflgiimnaa
open Go.RowKit

theorem DrawFaultOf_any (A : Option Addr) (n c : Nat) (bs : List UInt8) (w : World) (h : Rd w 1 A n c (cU bs)) :
    Calls Try.prog 24 #[.slice A n c] w fun e w' => ∃ A' n' c' ms a r, e = .returned (.tuple #[.slice A' n' c', .int .i64 a, .int .i64 r]) ∧ Rd w' 3 A' n' c' (c3 ms) ∧ n' ≤ 22 ∧ (-1 ≤ a ∧ a ≤ 65536) ∧ (-1 ≤ r ∧ r ≤ 16) ∧ Ext w w' := by
  go_enter Try.func24, Try.ntmps24
  go_wp2_with fail
  refine (DrawTranslate_any _ _ _ _ _ h).mono ?_; rintro e w1 ⟨A1, n, c1, ms, a, r, rfl, hg, h22, ha, hr, hb1⟩
  go_wp2
  (try simp only [Exit.inBlock, Exit.then]); refine bodyPost_ret (results_tmp3 rfl _ _ _) rfl ?_
  exact ⟨_, _, _, _, _, _, rfl, hg, h22, ha, hr, hb1⟩
end Go.Proofs.Yteahiiflgiimnaa
