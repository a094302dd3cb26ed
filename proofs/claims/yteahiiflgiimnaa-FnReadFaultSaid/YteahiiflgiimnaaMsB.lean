/-
  Messages about faults, read back.
-/
import Derived.Test.YteahiiflgiimnaaMsA
namespace Go.Proofs.Yteahiiflgiimnaa
open Go.RowKit

/-- The fault that a message tells. -/
def rdF (l : Int) (ws : List Int) (m : Nat) : (Int × Int × Int) × Bool :=
  match ws with
  | [x, y, z] => if m == 0 && inB x 0 255 && inB y 0 255 && inB z 0 15 && inB l 101 102 then ((l - 100, x * 256 + y, z), true) else ((0, 0, 0), false)
  | _ => ((0, 0, 0), false)
section
variable {l x y z : Int} {m : Nat} {ws : List Int}
theorem rdF_len (h : ws.length ≠ 3) : rdF l ws m = ((0, 0, 0), false) := by
  unfold rdF
  split
  · exact absurd rfl h
  · rfl
theorem rdF_no (h : (m == 0 && inB x 0 255 && inB y 0 255 && inB z 0 15 && inB l 101 102) = false) : rdF l [x, y, z] m = ((0, 0, 0), false) := by
  unfold rdF; simp only [h]; rfl
theorem rdF_caps (h : m ≠ 0) : rdF l [x, y, z] m = ((0, 0, 0), false) := rdF_no (by rw [show (m == 0) = false by simpa using h]; rfl)
theorem rdF_0 (h : inB x 0 255 = false) : rdF l [x, y, z] m = ((0, 0, 0), false) := rdF_no (by rw [h]; simp)
theorem rdF_1 (h : inB y 0 255 = false) : rdF l [x, y, z] m = ((0, 0, 0), false) := rdF_no (by rw [h]; simp)
theorem rdF_2 (h : inB z 0 15 = false) : rdF l [x, y, z] m = ((0, 0, 0), false) := rdF_no (by rw [h]; simp)
theorem rdF_l (h : inB l 101 102 = false) : rdF l [x, y, z] m = ((0, 0, 0), false) := rdF_no (by rw [h]; simp)
theorem rdF_yes (h0 : inB x 0 255 = true) (h1 : inB y 0 255 = true) (h2 : inB z 0 15 = true) (hl : inB l 101 102 = true) : rdF l [x, y, z] 0 = ((l - 100, x * 256 + y, z), true) := by
  unfold rdF; simp only [h0, h1, h2, hl]; rfl
end

set_option maxHeartbeats 400000 in
theorem Equal_any (A A' : Option Addr) (n c n' c' : Nat) (ms ms' : List Int) (w : World) (h : Rd w 1 A n c (cI ms)) (h' : Rd w 1 A' n' c' (cI ms')) :
    Calls Try.prog 73 #[.slice A n c, .slice A' n' c'] w fun e w' => e = .returned (.bool (eqIs ms ms')) ∧ Ext w w' := by
  have hl := h.lenI
  have hl' := h'.lenI
  have hle := h.le
  have htop := h.top
  by_cases hnn : n = n'
  · have HL := Lib.hid hl
    have HL' := Lib.hid hl'
    clear hl hl'
    subst hnn
    go_enter Try.func73, Try.ntmps73
    go_wp2
    go_loopw [13] (fun i wr => ∃ k : Nat, k ≤ n ∧ i = .int .i64 k ∧ Ext w wr ∧ Hid (eqIs ms ms' = eqIs (ms.drop k) (ms'.drop k))) (fun i _ => n - (intOf i).toNat)
    case atStart => exact ⟨0, Nat.zero_le _, rfl, Below.refl _ _, rfl⟩
    case round =>
      obtain ⟨k, hk, rfl, hb, H⟩ := hrel
      by_cases hlt : k < n
      · obtain ⟨b, off, z, rfl, X, g0⟩ := (h.below hb).atI hlt
        obtain ⟨b', off', z', rfl, X', g0'⟩ := (h'.below hb).atI hlt
        clear h h'
        have G0 := later_cell g0
        have G0' := later_cell g0'
        have hd : eqIs ms ms' = (decide (z = z') && eqIs (ms.drop (k + 1)) (ms'.drop (k + 1))) := by rw [H.out, drop_of_get X.out, drop_of_get X'.out, eqIs_cons]
        have HD := Lib.hid hd
        clear hd H X X' HL HL'
        by_cases hz : z = z'
        · go_wp2
          (refine wp_region_later (by kernel_rfl) (by kernel_rfl) ?_; repeat (any_goals (first | (with_reducible refine wpQuiet_nil ?_; intro wq hq) | go_big_quiet_step ((fail)))))
          go_wp2
          go_roundw
          case rel => exact ⟨k + 1, by omega, by go_num, hb.trans hq, by rw [HD.out, decide_eq_true hz]; exact Bool.true_and _⟩
          case measure => simp [intOf]; omega
        · go_wp2
          (refine wp_region_later (by kernel_rfl) (by kernel_rfl) ?_; repeat (any_goals (first | (with_reducible refine wpQuiet_nil ?_; intro wq hq) | go_big_quiet_step ((fail)))))
          go_wp2
          go_ret
          exact ⟨ret_bool (by rw [HD.out, decide_eq_false hz]; rfl), hb.trans hq⟩
      · have e : eqIs ms ms' = true := by rw [H.out, drop_all HL.out (by omega), drop_all HL'.out (by omega)]; rfl
        have E := Lib.hid e
        clear e h h'
        go_wp2
        go_ret
        exact ⟨ret_bool E.out.symm, hb⟩
  · have e : eqIs ms ms' = false := by unfold eqIs; rw [decide_eq_false_iff_not]; intro e; apply hnn; rw [← hl, ← hl', e]
    have E := Lib.hid e
    clear e hl hl'
    go_enter Try.func73, Try.ntmps73
    go_wp2
    go_ret
    exact ⟨ret_bool E.out.symm, Below.refl _ _⟩

theorem told_no {k a r : Int} (h : k < 1 ∨ 2 < k) : toldB k a r = false := by
  unfold toldB
  rw [show inB k 1 2 = false from by rw [← Bool.not_eq_true]; intro h2; have := inB_iff.1 h2; omega]; rfl
end Go.Proofs.Yteahiiflgiimnaa
