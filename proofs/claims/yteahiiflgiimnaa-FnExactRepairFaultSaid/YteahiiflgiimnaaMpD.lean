/-
  Marks: a slice of mappings filled with numbers that tell its places apart, and whether they are still there.
-/
import Derived.Test.YteahiiflgiimnaaMpA
namespace Go.Proofs.Yteahiiflgiimnaa
open Go.RowKit

def mk3 (z : Int) : Int × Int × Int := (z, z + 1, z + 1 + 1)
def marks3 (k : Int) (n : Nat) : List (Int × Int × Int) := marks mk3 3 k n

set_option maxHeartbeats 400000 in
theorem markMappingS_any (A : Option Addr) (n c B : Nat) (ms : List (Int × Int × Int)) (k : Int) (w : World) (h : Fr w B 76 3 (.slice A n c) n (c3 ms)) (hl : ms.length = n) (hn : n ≤ 1048576) (h0 : 0 ≤ k) (h1 : k ≤ 100000000) :
    Calls Try.prog 19 #[.slice A n c, .int .i64 k] w fun e w' => e = .returned (.int .i64 (k + 3 * n)) ∧ Fr w' B 76 3 (.slice A n c) n (c3 (marks3 k n)) ∧ w.grownBy w' (ownB (.slice A n c) n) := by
  have HL := Lib.hid hl
  clear hl
  go_enter Try.func19, Try.ntmps19
  go_wp2
  go_loopw [1, 5] (fun kk i wr => ∃ j : Nat, j ≤ n ∧ i = .int .i64 j ∧ kk = .int .i64 (k + 3 * j) ∧ Fr wr B 76 3 (.slice A n c) n (c3 (marks3 k j ++ ms.drop j)) ∧ w.grownBy wr (ownB (.slice A n c) n)) (fun _ i _ => n - (intOf i).toNat)
  case atStart => exact ⟨0, Nat.zero_le _, rfl, by simp, by unfold marks3; rw [marks_start]; exact h, World.grownBy.refl _ _⟩
  case round =>
    obtain ⟨j, hj, rfl, rfl, hF, hg⟩ := hrel
    by_cases hlt : j < n
    · obtain ⟨g, rfl, hB, _, own⟩ := hF.form (by omega)
      obtain ⟨p, f, r, _, q0, q1, q2⟩ := own3_at own hlt
      have f0 := own.frozenAt (j * 3)
      have f1 := own.frozenAt (j * 3 + 1)
      have f2 := own.frozenAt (j * 3 + 2)
      have e := marks_step mk3 3 k HL.out hlt
      have E := Lib.hid e
      clear hF h e HL
      go_wp2
      go_roundw
      case rel =>
        have R := own3_set own hlt (k + 3 * j) (k + 3 * j + 1) (k + 3 * j + 1 + 1)
        rw [show (marks3 k j ++ ms.drop j).set j (k + 3 * j, k + 3 * j + 1, k + 3 * j + 1 + 1) = marks3 k (j + 1) ++ ms.drop (j + 1) from E.out] at R
        have hg' : w.grownBy wr (some g) := by rw [ownB_pos (by omega)] at hg; exact hg
        have G := grown_set (p := ⟨g, j * 3 + 2, none⟩) (grown_set (p := ⟨g, j * 3 + 1, none⟩) (grown_set (p := ⟨g, j * 3, none⟩) hg' rfl (.int .i64 (k + 3 * j))) rfl (.int .i64 (k + 3 * j + 1))) rfl (.int .i64 (k + 3 * j + 1 + 1))
        exact ⟨j + 1, by omega, by go_num, by go_num, .inr R, by rw [ownB_pos (by omega)]; exact G⟩
      case measure => simp [intOf]; omega
    · obtain rfl : j = n := by omega
      unfold marks3 at hF
      rw [marks_end mk3 3 k HL.out] at hF
      clear h HL
      go_wp2
      go_ret
      exact ⟨rfl, hF, hg⟩

set_option maxHeartbeats 400000 in
theorem heldMappingS_any (A : Option Addr) (n c : Nat) (k : Int) (w : World) (h : Rd w 3 A n c (c3 (marks3 k n))) (hn : n ≤ 1048576) (h0 : 0 ≤ k) (h1 : k ≤ 100000000) :
    Calls Try.prog 20 #[.slice A n c, .int .i64 k] w fun e w' => e = .returned (.int .i64 (k + 3 * n)) ∧ w = w' := by
  go_enter Try.func20, Try.ntmps20
  go_wp2
  go_loop [1, 5] (fun kk i => ∃ j : Nat, j ≤ n ∧ i = .int .i64 j ∧ kk = .int .i64 (k + 3 * j)) (fun _ i => n - (intOf i).toNat)
  case atStart => exact ⟨0, Nat.zero_le _, rfl, by simp⟩
  case round =>
    obtain ⟨j, hj, rfl, rfl⟩ := hrel
    by_cases hlt : j < n
    · obtain ⟨b, off, p, f, r, rfl, X, g0, g1, g2⟩ := h.at3 hlt
      have e := X.out.symm.trans (marks_get mk3 3 k n j hlt)
      simp only [mk3, Option.some.injEq, Prod.mk.injEq] at e
      obtain ⟨rfl, rfl, rfl⟩ := e
      clear h X
      go_wp2
      go_round
      case rel => exact ⟨j + 1, by omega, by go_num, by go_num⟩
      case measure => simp [intOf]; omega
    · obtain rfl : j = n := by omega
      clear h
      go_wp2
      go_ret
      exact ⟨rfl, rfl⟩
end Go.Proofs.Yteahiiflgiimnaa
