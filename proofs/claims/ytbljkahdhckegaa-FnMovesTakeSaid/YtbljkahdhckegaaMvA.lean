/-
  Slices of Moves: the laws' helpers: counted, copied, compared, marked, still marked.
-/
import Derived.Test.YtbljkahdhckegaaAg5
import Derived.Test.YtbljkahdhckegaaSmall
namespace Go.Proofs.Ytbljkahdhckegaa
open Go.RowKit

theorem Try.infoMv : (Try.prog.info? 28).map (fun i => (i.zero, i.size, i.bytes)) = some (some (Value.agg #[.int .i64 0, .int .i64 0, .int .i64 0, .int .i64 0, .int .i64 0]), 5, 40) := by kernel_rfl
theorem Try.cellsMv : Try.prog.cellsOf 28 = 5 := by kernel_rfl

set_option maxHeartbeats 400000 in
theorem szMoveS_any (A : Option Addr) (n c : Nat) (left : Int) (w : World) (hn : n ≤ 9223372036854775807) (h0 : 0 ≤ left) (h1 : left ≤ 1048576) :
    Calls Try.prog 28 #[.slice A n c, .int .i64 left] w fun e w' => e = .returned (.int .i64 (szB left n)) ∧ w = w' := by
  go_enter Try.func28, Try.ntmps28
  go_wp2
  · go_ret
    exact ⟨ret_int (by unfold szB; rw [if_pos (by assumption)]), rfl⟩
  · go_ret
    exact ⟨ret_int (by unfold szB; rw [if_neg (by omega)]), rfl⟩

set_option maxHeartbeats 400000 in
theorem toMove_any (x0 x1 x2 x3 x4 : Int) (w : World) :
    Calls Try.prog 13 #[.agg #[.int .i64 x0, .int .i64 x1, .int .i64 x2, .int .i64 x3, .int .i64 x4]] w fun e w' => e = .returned (.agg #[.int .i64 x0, .int .i64 x1, .int .i64 x2, .int .i64 x3, .int .i64 x4]) ∧ Ext w w' := by
  go_enter Try.func13, Try.ntmps13
  go_wp2
  refine bodyPost_ret (v := .agg #[.int .i64 x0, .int .i64 x1, .int .i64 x2, .int .i64 x3, .int .i64 x4]) (by simp [results, Try.results13, go_sem]) rfl ⟨rfl, ?_⟩
  exact (((Below.refl _ _).alloc (Nat.le_refl _) _).alloc (by simp) _).alloc (by simp; omega) _

def eqMv (a b : Int × Int × Int × Int × Int) : Bool := a.1 == b.1 && a.2.1 == b.2.1 && a.2.2.1 == b.2.2.1 && a.2.2.2.1 == b.2.2.2.1 && a.2.2.2.2 == b.2.2.2.2
/-- Two slices, element by element. -/
def eqMvs : List (Int × Int × Int × Int × Int) → List (Int × Int × Int × Int × Int) → Bool
  | [], [] => true
  | a :: r, b :: r' => eqMv a b && eqMvs r r'
  | _, _ => false
theorem eqMv_iff (a b : Int × Int × Int × Int × Int) : eqMv a b = true ↔ a = b := by
  obtain ⟨a0, a1, a2, a3, a4⟩ := a; obtain ⟨b0, b1, b2, b3, b4⟩ := b
  simp [eqMv, and_assoc]
theorem eqMv_self (a : Int × Int × Int × Int × Int) : eqMv a a = true := (eqMv_iff a a).2 rfl
theorem eqMvs_iff : ∀ a b : List (Int × Int × Int × Int × Int), eqMvs a b = true ↔ a = b
  | [], [] => by simp [eqMvs]
  | [], _ :: _ => by simp [eqMvs]
  | _ :: _, [] => by simp [eqMvs]
  | a :: r, b :: r' => by simp [eqMvs, eqMv_iff, eqMvs_iff r r']
theorem eqMvs_len {a b : List (Int × Int × Int × Int × Int)} (h : a.length ≠ b.length) : eqMvs a b = false := by
  rw [← Bool.not_eq_true, eqMvs_iff]; intro e; exact h (by rw [e])

set_option maxHeartbeats 400000 in
theorem eqMove_any (x0 x1 x2 x3 x4 y0 y1 y2 y3 y4 : Int) (w : World) :
    Calls Try.prog 55 #[.agg #[.int .i64 x0, .int .i64 x1, .int .i64 x2, .int .i64 x3, .int .i64 x4], .agg #[.int .i64 y0, .int .i64 y1, .int .i64 y2, .int .i64 y3, .int .i64 y4]] w fun e w' => e = .returned (.bool (eqMv (x0, x1, x2, x3, x4) (y0, y1, y2, y3, y4))) ∧ Ext w w' := by
  go_enter Try.func55, Try.ntmps55
  go_wp2
  all_goals go_ret
  all_goals refine ⟨ret_bool (by simp_all [eqMv]), ?_⟩
  all_goals exact ((Below.refl _ _).alloc (Nat.le_refl _) _).alloc (by simp) _

set_option maxHeartbeats 400000 in
theorem eqMoveS_any (A A' : Option Addr) (n c n' c' : Nat) (ms ms' : List (Int × Int × Int × Int × Int)) (w : World) (h : Rd w 5 A n c (c5 ms)) (h' : Rd w 5 A' n' c' (c5 ms')) :
    Calls Try.prog 31 #[.slice A n c, .slice A' n' c'] w fun e w' => e = .returned (.bool (eqMvs ms ms')) ∧ Ext w w' := by
  have hl := h.len5
  have hl' := h'.len5
  have hle := h.le
  have htop := h.top
  by_cases hnn : n = n'
  · have HL := Lib.hid hl
    have HL' := Lib.hid hl'
    clear hl hl'
    subst hnn
    go_enter Try.func31, Try.ntmps31
    go_wp2
    go_loopw [5] (fun i wr => ∃ k : Nat, k ≤ n ∧ i = .int .i64 k ∧ Ext w wr ∧ Hid (eqMvs ms ms' = eqMvs (ms.drop k) (ms'.drop k))) (fun i _ => n - (intOf i).toNat)
    case atStart => exact ⟨0, Nat.zero_le _, rfl, Below.refl _ _, rfl⟩
    case round =>
      obtain ⟨k, hk, rfl, hb, H⟩ := hrel
      by_cases hlt : k < n
      · obtain ⟨b, off, x0, x1, x2, x3, x4, rfl, X, g0, g1, g2, g3, g4⟩ := (h.below hb).at5 hlt
        obtain ⟨b', off', y0, y1, y2, y3, y4, rfl, X', g0', g1', g2', g3', g4'⟩ := (h'.below hb).at5 hlt
        clear h h'
        have G0 := later_cell g0
        have G1 := later_cell g1
        have G2 := later_cell g2
        have G3 := later_cell g3
        have G4 := later_cell g4
        have G0' := later_cell g0'
        have G1' := later_cell g1'
        have G2' := later_cell g2'
        have G3' := later_cell g3'
        have G4' := later_cell g4'
        have hd : eqMvs ms ms' = (eqMv (x0, x1, x2, x3, x4) (y0, y1, y2, y3, y4) && eqMvs (ms.drop (k + 1)) (ms'.drop (k + 1))) := by rw [H.out, drop_of_get X.out, drop_of_get X'.out]; rfl
        have HD := Lib.hid hd
        clear hd H X X' HL HL'
        obtain ⟨t, ht⟩ : ∃ t, eqMv (x0, x1, x2, x3, x4) (y0, y1, y2, y3, y4) = t := ⟨_, rfl⟩
        go_wp2
        (refine wp_region_later (by kernel_rfl) (by kernel_rfl) ?_; repeat (any_goals (first | (with_reducible refine wpQuiet_nil ?_; intro wq hq) | go_big_quiet_step (((go_at_call 55; exact later_of _ (eqMove_any _ _ _ _ _ _ _ _ _ _ _)))))))
        cases t
        · go_wp2
          go_ret
          exact ⟨ret_bool (by rw [HD.out, ht]; rfl), hb.trans hq⟩
        · go_wp2
          go_roundw
          case rel => exact ⟨k + 1, by omega, by go_num, hb.trans hq, by rw [HD.out, ht]; exact Bool.true_and _⟩
          case measure => simp [intOf]; omega
      · have e : eqMvs ms ms' = true := by rw [H.out, drop_all HL.out (by omega), drop_all HL'.out (by omega)]; rfl
        have E := Lib.hid e
        clear e h h'
        go_wp2
        go_ret
        exact ⟨ret_bool E.out.symm, hb⟩
  · have e := eqMvs_len (a := ms) (b := ms') (by omega)
    have E := Lib.hid e
    clear e hl hl'
    go_enter Try.func31, Try.ntmps31
    go_wp2
    go_ret
    exact ⟨ret_bool E.out.symm, Below.refl _ _⟩

set_option maxHeartbeats 400000 in
theorem toMoveS_any (A : Option Addr) (n c : Nat) (ms : List (Int × Int × Int × Int × Int)) (w : World) (h : Rd w 5 A n c (c5 ms)) (hn : n ≤ 1048576) :
    Calls Try.prog 30 #[.slice A n c] w fun e w' => ∃ A' c', e = .returned (.slice A' n c') ∧ Row w' w.heap.size 28 5 (.slice A' n c') n (c5 ms) ∧ Ext w w' := by
  obtain ⟨i0, hi, hz0, hz1, hz2⟩ := info_parts Try.infoMv
  have HL := Lib.hid h.len5
  go_enter Try.func30, Try.ntmps30
  go_wp2_with (at_make; refine wpList_make_full _ rfl _ _ 43 rfl w.heap.size 28 i0 _ 5 Try.underlying43 hi hz0 hz1 .i64 .i64 _ _ n rfl rfl rfl rfl (by rw [hz2]; omega) (by unfold maxLen; omega) (Nat.le_refl _) ?_; intro w1 hown hg)
  have hb1 : Ext w w1 := (Below.refl _ _).grown hg (Nat.le_refl _) (by simp)
  rw [show (Value.agg #[.int .i64 0, .int .i64 0, .int .i64 0, .int .i64 0, .int .i64 0]).cells = #[.int .i64 0, .int .i64 0, .int .i64 0, .int .i64 0, .int .i64 0] from rfl, c5_replicate] at hown
  replace hown := Row.of_own hown
  clear hg
  go_loopw [4] (fun i wr => ∃ k : Nat, k ≤ n ∧ i = .int .i64 k ∧ Row wr w.heap.size 28 5 (.slice (some ⟨w.heap.size, 0, none⟩) n n) n (c5 (ms.take k ++ List.replicate (n - k) z5)) ∧ Ext w wr) (fun i _ => n - (intOf i).toNat)
  case atStart => exact ⟨0, Nat.zero_le _, rfl, by rw [fill_start]; exact hown, hb1⟩
  case round =>
    obtain ⟨k, hk, rfl, hown, hb⟩ := hrel
    by_cases hlt : k < n
    · obtain ⟨b, off, x0, x1, x2, x3, x4, rfl, X, g0, g1, g2, g3, g4⟩ := (h.below hb).at5 hlt
      clear h
      have e := fill_step (z := z5) HL.out hlt X.out
      have E := Lib.hid e
      clear e X HL
      go_wp2_with ((go_at_call 13; refine (toMove_any _ _ _ _ _ _).mono ?_; rintro e w2 ⟨rfl, hb2⟩); have own2 := hown.below hb2; obtain ⟨_, _, _, _, _, _, q0, q1, q2, q3, q4⟩ := own5_at own2 hlt; have f0 := own2.frozenAt (k * 5); have f1 := own2.frozenAt (k * 5 + 1); have f2 := own2.frozenAt (k * 5 + 2); have f3 := own2.frozenAt (k * 5 + 3); have f4 := own2.frozenAt (k * 5 + 4))
      go_roundw
      case rel => exact ⟨k + 1, by omega, by go_num, by rw [← E.out]; exact own5_set own2 hlt x0 x1 x2 x3 x4, ((((((hb.trans hb2).setCell (by exact Nat.le_refl _) _).setCell (by exact Nat.le_refl _) _).setCell (by exact Nat.le_refl _) _).setCell (by exact Nat.le_refl _) _).setCell (by exact Nat.le_refl _) _)⟩
      case measure => simp [intOf]; omega
    · obtain rfl : k = n := by omega
      rw [fill_end HL.out] at hown
      clear h HL
      go_wp2
      go_ret
      exact ⟨_, _, rfl, hown, hb⟩

def mk5 (z : Int) : Int × Int × Int × Int × Int := (z, z + 1, z + 1 + 1, z + 1 + 1 + 1, z + 1 + 1 + 1 + 1)
def marks5 (k : Int) (n : Nat) : List (Int × Int × Int × Int × Int) := marks mk5 5 k n

set_option maxHeartbeats 400000 in
theorem markMoveS_any (A : Option Addr) (n c B : Nat) (ms : List (Int × Int × Int × Int × Int)) (k : Int) (w : World) (h : Fr w B 28 5 (.slice A n c) n (c5 ms)) (hl : ms.length = n) (hn : n ≤ 1048576) (h0 : 0 ≤ k) (h1 : k ≤ 100000000) :
    Calls Try.prog 32 #[.slice A n c, .int .i64 k] w fun e w' => e = .returned (.int .i64 (k + 5 * n)) ∧ Fr w' B 28 5 (.slice A n c) n (c5 (marks5 k n)) ∧ w.grownBy w' (ownB (.slice A n c) n) := by
  have HL := Lib.hid hl
  clear hl
  go_enter Try.func32, Try.ntmps32
  go_wp2
  go_loopw [1, 5] (fun kk i wr => ∃ j : Nat, j ≤ n ∧ i = .int .i64 j ∧ kk = .int .i64 (k + 5 * j) ∧ Fr wr B 28 5 (.slice A n c) n (c5 (marks5 k j ++ ms.drop j)) ∧ w.grownBy wr (ownB (.slice A n c) n)) (fun _ i _ => n - (intOf i).toNat)
  case atStart => exact ⟨0, Nat.zero_le _, rfl, by simp, by unfold marks5; rw [marks_start]; exact h, World.grownBy.refl _ _⟩
  case round =>
    obtain ⟨j, hj, rfl, rfl, hF, hg⟩ := hrel
    by_cases hlt : j < n
    · obtain ⟨g, rfl, hB, _, own⟩ := hF.form (by omega)
      obtain ⟨_, _, _, _, _, _, q0, q1, q2, q3, q4⟩ := own5_at own hlt
      have f0 := own.frozenAt (j * 5)
      have f1 := own.frozenAt (j * 5 + 1)
      have f2 := own.frozenAt (j * 5 + 2)
      have f3 := own.frozenAt (j * 5 + 3)
      have f4 := own.frozenAt (j * 5 + 4)
      have e := marks_step mk5 5 k HL.out hlt
      have E := Lib.hid e
      clear hF h e HL
      go_wp2
      go_roundw
      case rel =>
        have R := own5_set own hlt (k + 5 * j) (k + 5 * j + 1) (k + 5 * j + 1 + 1) (k + 5 * j + 1 + 1 + 1) (k + 5 * j + 1 + 1 + 1 + 1)
        rw [show (marks5 k j ++ ms.drop j).set j (k + 5 * j, k + 5 * j + 1, k + 5 * j + 1 + 1, k + 5 * j + 1 + 1 + 1, k + 5 * j + 1 + 1 + 1 + 1) = marks5 k (j + 1) ++ ms.drop (j + 1) from E.out] at R
        have hg' : w.grownBy wr (some g) := by rw [ownB_pos (by omega)] at hg; exact hg
        have G := (grown_set (p := ⟨g, j * 5 + 4, none⟩) (grown_set (p := ⟨g, j * 5 + 3, none⟩) (grown_set (p := ⟨g, j * 5 + 2, none⟩) (grown_set (p := ⟨g, j * 5 + 1, none⟩) (grown_set (p := ⟨g, j * 5, none⟩) hg' rfl (.int .i64 (k + 5 * j))) rfl (.int .i64 (k + 5 * j + 1))) rfl (.int .i64 (k + 5 * j + 1 + 1))) rfl (.int .i64 (k + 5 * j + 1 + 1 + 1))) rfl (.int .i64 (k + 5 * j + 1 + 1 + 1 + 1)))
        exact ⟨j + 1, by omega, by go_num, by go_num, .inr R, by rw [ownB_pos (by omega)]; exact G⟩
      case measure => simp [intOf]; omega
    · obtain rfl : j = n := by omega
      unfold marks5 at hF
      rw [marks_end mk5 5 k HL.out] at hF
      clear h HL
      go_wp2
      go_ret
      exact ⟨rfl, hF, hg⟩

end Go.Proofs.Ytbljkahdhckegaa
