/-
  Slices of Timers: the laws' helpers: counted, copied, compared, marked, still marked.
-/
import Derived.Test.YthjbafafkaoomaaAg2
import Derived.Test.YthjbafafkaoomaaSmall
namespace Go.Proofs.Ythjbafafkaoomaa
open Go.RowKit

theorem Try.infoTm : (Try.prog.info? 39).map (fun i => (i.zero, i.size, i.bytes)) = some (some (Value.agg #[.int .i64 0, .int .i64 0]), 2, 16) := by kernel_rfl
theorem Try.cellsTm : Try.prog.cellsOf 39 = 2 := by kernel_rfl

set_option maxHeartbeats 400000 in
theorem szTimerS_any (A : Option Addr) (n c : Nat) (left : Int) (w : World) (hn : n ≤ 9223372036854775807) (h0 : 0 ≤ left) (h1 : left ≤ 1048576) :
    Calls Try.prog 14 #[.slice A n c, .int .i64 left] w fun e w' => e = .returned (.int .i64 (szB left n)) ∧ w = w' := by
  go_enter Try.func14, Try.ntmps14
  go_wp2
  · go_ret
    exact ⟨ret_int (by unfold szB; rw [if_pos (by assumption)]), rfl⟩
  · go_ret
    exact ⟨ret_int (by unfold szB; rw [if_neg (by omega)]), rfl⟩

set_option maxHeartbeats 400000 in
theorem toTimer_any (x0 x1 : Int) (w : World) :
    Calls Try.prog 43 #[.agg #[.int .i64 x0, .int .i64 x1]] w fun e w' => e = .returned (.agg #[.int .i64 x0, .int .i64 x1]) ∧ Ext w w' := by
  go_enter Try.func43, Try.ntmps43
  go_wp2
  refine bodyPost_ret (v := .agg #[.int .i64 x0, .int .i64 x1]) (by simp [results, Try.results43, go_sem]) rfl ⟨rfl, ?_⟩
  exact (((Below.refl _ _).alloc (Nat.le_refl _) _).alloc (by simp) _).alloc (by simp; omega) _

def eqTm (a b : Int × Int) : Bool := a.1 == b.1 && a.2 == b.2
/-- Two slices, element by element. -/
def eqTms : List (Int × Int) → List (Int × Int) → Bool
  | [], [] => true
  | a :: r, b :: r' => eqTm a b && eqTms r r'
  | _, _ => false
theorem eqTm_iff (a b : Int × Int) : eqTm a b = true ↔ a = b := by
  obtain ⟨a0, a1⟩ := a; obtain ⟨b0, b1⟩ := b
  simp [eqTm]
theorem eqTm_self (a : Int × Int) : eqTm a a = true := (eqTm_iff a a).2 rfl
theorem eqTms_iff : ∀ a b : List (Int × Int), eqTms a b = true ↔ a = b
  | [], [] => by simp [eqTms]
  | [], _ :: _ => by simp [eqTms]
  | _ :: _, [] => by simp [eqTms]
  | a :: r, b :: r' => by simp [eqTms, eqTm_iff, eqTms_iff r r']
theorem eqTms_len {a b : List (Int × Int)} (h : a.length ≠ b.length) : eqTms a b = false := by
  rw [← Bool.not_eq_true, eqTms_iff]; intro e; exact h (by rw [e])

set_option maxHeartbeats 400000 in
theorem eqTimer_any (x0 x1 y0 y1 : Int) (w : World) :
    Calls Try.prog 47 #[.agg #[.int .i64 x0, .int .i64 x1], .agg #[.int .i64 y0, .int .i64 y1]] w fun e w' => e = .returned (.bool (eqTm (x0, x1) (y0, y1))) ∧ Ext w w' := by
  go_enter Try.func47, Try.ntmps47
  go_wp2
  all_goals go_ret
  all_goals refine ⟨ret_bool (by simp_all [eqTm]), ?_⟩
  all_goals exact ((Below.refl _ _).alloc (Nat.le_refl _) _).alloc (by simp) _

set_option maxHeartbeats 400000 in
theorem eqTimerS_any (A A' : Option Addr) (n c n' c' : Nat) (ms ms' : List (Int × Int)) (w : World) (h : Rd w 2 A n c (c2 ms)) (h' : Rd w 2 A' n' c' (c2 ms')) :
    Calls Try.prog 18 #[.slice A n c, .slice A' n' c'] w fun e w' => e = .returned (.bool (eqTms ms ms')) ∧ Ext w w' := by
  have hl := h.len2
  have hl' := h'.len2
  have hle := h.le
  have htop := h.top
  by_cases hnn : n = n'
  · have HL := Lib.hid hl
    have HL' := Lib.hid hl'
    clear hl hl'
    subst hnn
    go_enter Try.func18, Try.ntmps18
    go_wp2
    go_loopw [5] (fun i wr => ∃ k : Nat, k ≤ n ∧ i = .int .i64 k ∧ Ext w wr ∧ Hid (eqTms ms ms' = eqTms (ms.drop k) (ms'.drop k))) (fun i _ => n - (intOf i).toNat)
    case atStart => exact ⟨0, Nat.zero_le _, rfl, Below.refl _ _, rfl⟩
    case round =>
      obtain ⟨k, hk, rfl, hb, H⟩ := hrel
      by_cases hlt : k < n
      · obtain ⟨b, off, x0, x1, rfl, X, g0, g1⟩ := (h.below hb).at2 hlt
        obtain ⟨b', off', y0, y1, rfl, X', g0', g1'⟩ := (h'.below hb).at2 hlt
        clear h h'
        have G0 := later_cell g0
        have G1 := later_cell g1
        have G0' := later_cell g0'
        have G1' := later_cell g1'
        have hd : eqTms ms ms' = (eqTm (x0, x1) (y0, y1) && eqTms (ms.drop (k + 1)) (ms'.drop (k + 1))) := by rw [H.out, drop_of_get X.out, drop_of_get X'.out]; rfl
        have HD := Lib.hid hd
        clear hd H X X' HL HL'
        obtain ⟨t, ht⟩ : ∃ t, eqTm (x0, x1) (y0, y1) = t := ⟨_, rfl⟩
        go_wp2
        (refine wp_region_later (by kernel_rfl) (by kernel_rfl) ?_; repeat (any_goals (first | (with_reducible refine wpQuiet_nil ?_; intro wq hq) | go_big_quiet_step (((go_at_call 47; exact later_of _ (eqTimer_any _ _ _ _ _)))))))
        cases t
        · go_wp2
          go_ret
          exact ⟨ret_bool (by rw [HD.out, ht]; rfl), hb.trans hq⟩
        · go_wp2
          go_roundw
          case rel => exact ⟨k + 1, by omega, by go_num, hb.trans hq, by rw [HD.out, ht]; exact Bool.true_and _⟩
          case measure => simp [intOf]; omega
      · have e : eqTms ms ms' = true := by rw [H.out, drop_all HL.out (by omega), drop_all HL'.out (by omega)]; rfl
        have E := Lib.hid e
        clear e h h'
        go_wp2
        go_ret
        exact ⟨ret_bool E.out.symm, hb⟩
  · have e := eqTms_len (a := ms) (b := ms') (by omega)
    have E := Lib.hid e
    clear e hl hl'
    go_enter Try.func18, Try.ntmps18
    go_wp2
    go_ret
    exact ⟨ret_bool E.out.symm, Below.refl _ _⟩

set_option maxHeartbeats 400000 in
theorem toTimerS_any (A : Option Addr) (n c : Nat) (ms : List (Int × Int)) (w : World) (h : Rd w 2 A n c (c2 ms)) (hn : n ≤ 1048576) :
    Calls Try.prog 16 #[.slice A n c] w fun e w' => ∃ A' c', e = .returned (.slice A' n c') ∧ Row w' w.heap.size 39 2 (.slice A' n c') n (c2 ms) ∧ Ext w w' := by
  obtain ⟨i0, hi, hz0, hz1, hz2⟩ := info_parts Try.infoTm
  have HL := Lib.hid h.len2
  go_enter Try.func16, Try.ntmps16
  go_wp2_with (at_make; refine wpList_make_full _ rfl _ _ 25 rfl w.heap.size 39 i0 _ 2 Try.underlying25 hi hz0 hz1 .i64 .i64 _ _ n rfl rfl rfl rfl (by rw [hz2]; omega) (by unfold maxLen; omega) (Nat.le_refl _) ?_; intro w1 hown hg)
  have hb1 : Ext w w1 := (Below.refl _ _).grown hg (Nat.le_refl _) (by simp)
  rw [show (Value.agg #[.int .i64 0, .int .i64 0]).cells = #[.int .i64 0, .int .i64 0] from rfl, c2_replicate] at hown
  replace hown := Row.of_own hown
  clear hg
  go_loopw [4] (fun i wr => ∃ k : Nat, k ≤ n ∧ i = .int .i64 k ∧ Row wr w.heap.size 39 2 (.slice (some ⟨w.heap.size, 0, none⟩) n n) n (c2 (ms.take k ++ List.replicate (n - k) z2)) ∧ Ext w wr) (fun i _ => n - (intOf i).toNat)
  case atStart => exact ⟨0, Nat.zero_le _, rfl, by rw [fill_start]; exact hown, hb1⟩
  case round =>
    obtain ⟨k, hk, rfl, hown, hb⟩ := hrel
    by_cases hlt : k < n
    · obtain ⟨b, off, x0, x1, rfl, X, g0, g1⟩ := (h.below hb).at2 hlt
      clear h
      have e := fill_step (z := z2) HL.out hlt X.out
      have E := Lib.hid e
      clear e X HL
      go_wp2_with ((go_at_call 43; refine (toTimer_any _ _ _).mono ?_; rintro e w2 ⟨rfl, hb2⟩); have own2 := hown.below hb2; obtain ⟨_, _, _, q0, q1⟩ := own2_at own2 hlt; have f0 := own2.frozenAt (k * 2); have f1 := own2.frozenAt (k * 2 + 1))
      go_roundw
      case rel => exact ⟨k + 1, by omega, by go_num, by rw [← E.out]; exact own2_set own2 hlt x0 x1, (((hb.trans hb2).setCell (by exact Nat.le_refl _) _).setCell (by exact Nat.le_refl _) _)⟩
      case measure => simp [intOf]; omega
    · obtain rfl : k = n := by omega
      rw [fill_end HL.out] at hown
      clear h HL
      go_wp2
      go_ret
      exact ⟨_, _, rfl, hown, hb⟩

def mk2 (z : Int) : Int × Int := (z, z + 1)
def marks2 (k : Int) (n : Nat) : List (Int × Int) := marks mk2 2 k n

set_option maxHeartbeats 400000 in
theorem markTimerS_any (A : Option Addr) (n c B : Nat) (ms : List (Int × Int)) (k : Int) (w : World) (h : Fr w B 39 2 (.slice A n c) n (c2 ms)) (hl : ms.length = n) (hn : n ≤ 1048576) (h0 : 0 ≤ k) (h1 : k ≤ 100000000) :
    Calls Try.prog 28 #[.slice A n c, .int .i64 k] w fun e w' => e = .returned (.int .i64 (k + 2 * n)) ∧ Fr w' B 39 2 (.slice A n c) n (c2 (marks2 k n)) ∧ w.grownBy w' (ownB (.slice A n c) n) := by
  have HL := Lib.hid hl
  clear hl
  go_enter Try.func28, Try.ntmps28
  go_wp2
  go_loopw [1, 5] (fun kk i wr => ∃ j : Nat, j ≤ n ∧ i = .int .i64 j ∧ kk = .int .i64 (k + 2 * j) ∧ Fr wr B 39 2 (.slice A n c) n (c2 (marks2 k j ++ ms.drop j)) ∧ w.grownBy wr (ownB (.slice A n c) n)) (fun _ i _ => n - (intOf i).toNat)
  case atStart => exact ⟨0, Nat.zero_le _, rfl, by simp, by unfold marks2; rw [marks_start]; exact h, World.grownBy.refl _ _⟩
  case round =>
    obtain ⟨j, hj, rfl, rfl, hF, hg⟩ := hrel
    by_cases hlt : j < n
    · obtain ⟨g, rfl, hB, _, own⟩ := hF.form (by omega)
      obtain ⟨_, _, _, q0, q1⟩ := own2_at own hlt
      have f0 := own.frozenAt (j * 2)
      have f1 := own.frozenAt (j * 2 + 1)
      have e := marks_step mk2 2 k HL.out hlt
      have E := Lib.hid e
      clear hF h e HL
      go_wp2
      go_roundw
      case rel =>
        have R := own2_set own hlt (k + 2 * j) (k + 2 * j + 1)
        rw [show (marks2 k j ++ ms.drop j).set j (k + 2 * j, k + 2 * j + 1) = marks2 k (j + 1) ++ ms.drop (j + 1) from E.out] at R
        have hg' : w.grownBy wr (some g) := by rw [ownB_pos (by omega)] at hg; exact hg
        have G := (grown_set (p := ⟨g, j * 2 + 1, none⟩) (grown_set (p := ⟨g, j * 2, none⟩) hg' rfl (.int .i64 (k + 2 * j))) rfl (.int .i64 (k + 2 * j + 1)))
        exact ⟨j + 1, by omega, by go_num, by go_num, .inr R, by rw [ownB_pos (by omega)]; exact G⟩
      case measure => simp [intOf]; omega
    · obtain rfl : j = n := by omega
      unfold marks2 at hF
      rw [marks_end mk2 2 k HL.out] at hF
      clear h HL
      go_wp2
      go_ret
      exact ⟨rfl, hF, hg⟩

set_option maxHeartbeats 400000 in
theorem heldTimerS_any (A : Option Addr) (n c : Nat) (k : Int) (w : World) (h : Rd w 2 A n c (c2 (marks2 k n))) (hn : n ≤ 1048576) (h0 : 0 ≤ k) (h1 : k ≤ 100000000) :
    Calls Try.prog 29 #[.slice A n c, .int .i64 k] w fun e w' => e = .returned (.int .i64 (k + 2 * n)) ∧ w = w' := by
  go_enter Try.func29, Try.ntmps29
  go_wp2
  go_loop [1, 5] (fun kk i => ∃ j : Nat, j ≤ n ∧ i = .int .i64 j ∧ kk = .int .i64 (k + 2 * j)) (fun _ i => n - (intOf i).toNat)
  case atStart => exact ⟨0, Nat.zero_le _, rfl, by simp⟩
  case round =>
    obtain ⟨j, hj, rfl, rfl⟩ := hrel
    by_cases hlt : j < n
    · obtain ⟨b, off, x0, x1, rfl, X, g0, g1⟩ := h.at2 hlt
      have e := X.out.symm.trans (marks_get mk2 2 k n j hlt)
      simp only [mk2, Option.some.injEq, Prod.mk.injEq] at e
      obtain ⟨rfl, rfl⟩ := e
      clear h X
      go_wp2
      go_round
      case rel => exact ⟨j + 1, by omega, by go_num, by go_num⟩
      case measure => simp [intOf]; omega
    · obtain rfl : j = n := by omega
      clear h
      go_wp2
      go_ret
      exact ⟨rfl, rfl⟩
end Go.Proofs.Ythjbafafkaoomaa
