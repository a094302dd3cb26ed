/-
  Whether rights are within others, as the program asks it.
-/
import Derived.Test.YtbljkahdhckegaaGrT
namespace Go.Proofs.Ytbljkahdhckegaa
open Go.RowKit

def rwB (a b : Int) : Bool := inB a 0 15 && inB b 0 15 && cvB a b
set_option maxHeartbeats 400000 in
theorem RightsWithin_any (a b : Int) (w : World) :
    Calls Try.prog 25 #[.int .i64 a, .int .i64 b] w fun e w' => e = .returned (.bool (rwB a b)) ∧ w = w' := by
  obtain ⟨t1, e1⟩ : ∃ t, inB a 0 15 = t := ⟨_, rfl⟩
  obtain ⟨t2, e2⟩ : ∃ t, inB b 0 15 = t := ⟨_, rfl⟩
  have e : rwB a b = (t1 && t2 && (bits .andNot .i64 a b == 0)) := by unfold rwB cvB; rw [e1, e2]
  rw [e]
  have E1 := Lib.hid e1
  have E2 := Lib.hid e2
  clear e e1 e2
  go_enter Try.func25, Try.ntmps25
  go_wp2_with fail
  refine (RightsValid_any _ _).mono ?_; rintro e w' ⟨rfl, rfl⟩; rw [E1.out]
  cases t1
  · go_wp2
    go_ret
    exact ⟨rfl, rfl⟩
  go_wp2_with fail
  refine (RightsValid_any _ _).mono ?_; rintro e w' ⟨rfl, rfl⟩; rw [E2.out]
  cases t2
  · go_wp2
    go_ret
    exact ⟨rfl, rfl⟩
  go_wp2
  go_ret
  exact ⟨rfl, rfl⟩
theorem rwB_of {a b : Int} (ha : Rg a) (hb : Rg b) (h : cvB a b = true) : rwB a b = true := by
  unfold rwB; rw [inB_iff.2 ha, inB_iff.2 hb, h]; rfl
end Go.Proofs.Ytbljkahdhckegaa
