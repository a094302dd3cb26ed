/-
  Slices of Caps: the laws' helpers: counted, copied, compared, marked, still marked.
-/
import Derived.Test.YteahiiflgiimnaaAg4
import Derived.Test.YteahiiflgiimnaaSmall
namespace Go.Proofs.Yteahiiflgiimnaa
open Go.RowKit

theorem Try.infoCp : (Try.prog.info? 34).map (fun i => (i.zero, i.size, i.bytes)) = some (some (Value.agg #[.int .i64 0, .int .i64 0, .int .i64 0, .int .i64 0]), 4, 32) := by kernel_rfl
theorem Try.cellsCp : Try.prog.cellsOf 34 = 4 := by kernel_rfl

set_option maxHeartbeats 400000 in
theorem szCapS_any (A : Option Addr) (n c : Nat) (left : Int) (w : World) (hn : n ≤ 9223372036854775807) (h0 : 0 ≤ left) (h1 : left ≤ 1048576) :
    Calls Try.prog 69 #[.slice A n c, .int .i64 left] w fun e w' => e = .returned (.int .i64 (szB left n)) ∧ w = w' := by
  go_enter Try.func69, Try.ntmps69
  go_wp2
  · go_ret
    exact ⟨ret_int (by unfold szB; rw [if_pos (by assumption)]), rfl⟩
  · go_ret
    exact ⟨ret_int (by unfold szB; rw [if_neg (by omega)]), rfl⟩

set_option maxHeartbeats 400000 in
theorem toCap_any (x0 x1 x2 x3 : Int) (w : World) :
    Calls Try.prog 16 #[.agg #[.int .i64 x0, .int .i64 x1, .int .i64 x2, .int .i64 x3]] w fun e w' => e = .returned (.agg #[.int .i64 x0, .int .i64 x1, .int .i64 x2, .int .i64 x3]) ∧ Ext w w' := by
  go_enter Try.func16, Try.ntmps16
  go_wp2
  refine bodyPost_ret (v := .agg #[.int .i64 x0, .int .i64 x1, .int .i64 x2, .int .i64 x3]) (by simp [results, Try.results16, go_sem]) rfl ⟨rfl, ?_⟩
  exact (((Below.refl _ _).alloc (Nat.le_refl _) _).alloc (by simp) _).alloc (by simp; omega) _

def eqCp (a b : Int × Int × Int × Int) : Bool := a.1 == b.1 && a.2.1 == b.2.1 && a.2.2.1 == b.2.2.1 && a.2.2.2 == b.2.2.2
/-- Two slices, element by element. -/
def eqCps : List (Int × Int × Int × Int) → List (Int × Int × Int × Int) → Bool
  | [], [] => true
  | a :: r, b :: r' => eqCp a b && eqCps r r'
  | _, _ => false
theorem eqCp_iff (a b : Int × Int × Int × Int) : eqCp a b = true ↔ a = b := by
  obtain ⟨a0, a1, a2, a3⟩ := a; obtain ⟨b0, b1, b2, b3⟩ := b
  simp [eqCp, and_assoc]
theorem eqCp_self (a : Int × Int × Int × Int) : eqCp a a = true := (eqCp_iff a a).2 rfl
theorem eqCps_iff : ∀ a b : List (Int × Int × Int × Int), eqCps a b = true ↔ a = b
  | [], [] => by simp [eqCps]
  | [], _ :: _ => by simp [eqCps]
  | _ :: _, [] => by simp [eqCps]
  | a :: r, b :: r' => by simp [eqCps, eqCp_iff, eqCps_iff r r']
theorem eqCps_len {a b : List (Int × Int × Int × Int)} (h : a.length ≠ b.length) : eqCps a b = false := by
  rw [← Bool.not_eq_true, eqCps_iff]; intro e; exact h (by rw [e])

set_option maxHeartbeats 400000 in
theorem eqCap_any (x0 x1 x2 x3 y0 y1 y2 y3 : Int) (w : World) :
    Calls Try.prog 98 #[.agg #[.int .i64 x0, .int .i64 x1, .int .i64 x2, .int .i64 x3], .agg #[.int .i64 y0, .int .i64 y1, .int .i64 y2, .int .i64 y3]] w fun e w' => e = .returned (.bool (eqCp (x0, x1, x2, x3) (y0, y1, y2, y3))) ∧ Ext w w' := by
  go_enter Try.func98, Try.ntmps98
  go_wp2
  all_goals go_ret
  all_goals refine ⟨ret_bool (by simp_all [eqCp]), ?_⟩
  all_goals exact ((Below.refl _ _).alloc (Nat.le_refl _) _).alloc (by simp) _

set_option maxHeartbeats 400000 in
theorem eqCapS_any (A A' : Option Addr) (n c n' c' : Nat) (ms ms' : List (Int × Int × Int × Int)) (w : World) (h : Rd w 4 A n c (c4 ms)) (h' : Rd w 4 A' n' c' (c4 ms')) :
    Calls Try.prog 63 #[.slice A n c, .slice A' n' c'] w fun e w' => e = .returned (.bool (eqCps ms ms')) ∧ Ext w w' := by
  have hl := h.len4
  have hl' := h'.len4
  have hle := h.le
  have htop := h.top
  by_cases hnn : n = n'
  · have HL := Lib.hid hl
    have HL' := Lib.hid hl'
    clear hl hl'
    subst hnn
    go_enter Try.func63, Try.ntmps63
    go_wp2
    go_loopw [5] (fun i wr => ∃ k : Nat, k ≤ n ∧ i = .int .i64 k ∧ Ext w wr ∧ Hid (eqCps ms ms' = eqCps (ms.drop k) (ms'.drop k))) (fun i _ => n - (intOf i).toNat)
    case atStart => exact ⟨0, Nat.zero_le _, rfl, Below.refl _ _, rfl⟩
    case round =>
      obtain ⟨k, hk, rfl, hb, H⟩ := hrel
      by_cases hlt : k < n
      · obtain ⟨b, off, x0, x1, x2, x3, rfl, X, g0, g1, g2, g3⟩ := (h.below hb).at4 hlt
        obtain ⟨b', off', y0, y1, y2, y3, rfl, X', g0', g1', g2', g3'⟩ := (h'.below hb).at4 hlt
        clear h h'
        have G0 := later_cell g0
        have G1 := later_cell g1
        have G2 := later_cell g2
        have G3 := later_cell g3
        have G0' := later_cell g0'
        have G1' := later_cell g1'
        have G2' := later_cell g2'
        have G3' := later_cell g3'
        have hd : eqCps ms ms' = (eqCp (x0, x1, x2, x3) (y0, y1, y2, y3) && eqCps (ms.drop (k + 1)) (ms'.drop (k + 1))) := by rw [H.out, drop_of_get X.out, drop_of_get X'.out]; rfl
        have HD := Lib.hid hd
        clear hd H X X' HL HL'
        obtain ⟨t, ht⟩ : ∃ t, eqCp (x0, x1, x2, x3) (y0, y1, y2, y3) = t := ⟨_, rfl⟩
        go_wp2
        (refine wp_region_later (by kernel_rfl) (by kernel_rfl) ?_; repeat (any_goals (first | (with_reducible refine wpQuiet_nil ?_; intro wq hq) | go_big_quiet_step (((go_at_call 98; exact later_of _ (eqCap_any _ _ _ _ _ _ _ _ _)))))))
        cases t
        · go_wp2
          go_ret
          exact ⟨ret_bool (by rw [HD.out, ht]; rfl), hb.trans hq⟩
        · go_wp2
          go_roundw
          case rel => exact ⟨k + 1, by omega, by go_num, hb.trans hq, by rw [HD.out, ht]; exact Bool.true_and _⟩
          case measure => simp [intOf]; omega
      · have e : eqCps ms ms' = true := by rw [H.out, drop_all HL.out (by omega), drop_all HL'.out (by omega)]; rfl
        have E := Lib.hid e
        clear e h h'
        go_wp2
        go_ret
        exact ⟨ret_bool E.out.symm, hb⟩
  · have e := eqCps_len (a := ms) (b := ms') (by omega)
    have E := Lib.hid e
    clear e hl hl'
    go_enter Try.func63, Try.ntmps63
    go_wp2
    go_ret
    exact ⟨ret_bool E.out.symm, Below.refl _ _⟩

set_option maxHeartbeats 400000 in
theorem toCapS_any (A : Option Addr) (n c : Nat) (ms : List (Int × Int × Int × Int)) (w : World) (h : Rd w 4 A n c (c4 ms)) (hn : n ≤ 1048576) :
    Calls Try.prog 71 #[.slice A n c] w fun e w' => ∃ A' c', e = .returned (.slice A' n c') ∧ Row w' w.heap.size 34 4 (.slice A' n c') n (c4 ms) ∧ Ext w w' := by
  obtain ⟨i0, hi, hz0, hz1, hz2⟩ := info_parts Try.infoCp
  have HL := Lib.hid h.len4
  go_enter Try.func71, Try.ntmps71
  go_wp2_with (at_make; refine wpList_make_full _ rfl _ _ 49 rfl w.heap.size 34 i0 _ 4 Try.underlying49 hi hz0 hz1 .i64 .i64 _ _ n rfl rfl rfl rfl (by rw [hz2]; omega) (by unfold maxLen; omega) (Nat.le_refl _) ?_; intro w1 hown hg)
  have hb1 : Ext w w1 := (Below.refl _ _).grown hg (Nat.le_refl _) (by simp)
  rw [show (Value.agg #[.int .i64 0, .int .i64 0, .int .i64 0, .int .i64 0]).cells = #[.int .i64 0, .int .i64 0, .int .i64 0, .int .i64 0] from rfl, c4_replicate] at hown
  replace hown := Row.of_own hown
  clear hg
  go_loopw [4] (fun i wr => ∃ k : Nat, k ≤ n ∧ i = .int .i64 k ∧ Row wr w.heap.size 34 4 (.slice (some ⟨w.heap.size, 0, none⟩) n n) n (c4 (ms.take k ++ List.replicate (n - k) z4)) ∧ Ext w wr) (fun i _ => n - (intOf i).toNat)
  case atStart => exact ⟨0, Nat.zero_le _, rfl, by rw [fill_start]; exact hown, hb1⟩
  case round =>
    obtain ⟨k, hk, rfl, hown, hb⟩ := hrel
    by_cases hlt : k < n
    · obtain ⟨b, off, x0, x1, x2, x3, rfl, X, g0, g1, g2, g3⟩ := (h.below hb).at4 hlt
      clear h
      have e := fill_step (z := z4) HL.out hlt X.out
      have E := Lib.hid e
      clear e X HL
      go_wp2_with ((go_at_call 16; refine (toCap_any _ _ _ _ _).mono ?_; rintro e w2 ⟨rfl, hb2⟩); have own2 := hown.below hb2; obtain ⟨_, _, _, _, _, q0, q1, q2, q3⟩ := own4_at own2 hlt; have f0 := own2.frozenAt (k * 4); have f1 := own2.frozenAt (k * 4 + 1); have f2 := own2.frozenAt (k * 4 + 2); have f3 := own2.frozenAt (k * 4 + 3))
      go_roundw
      case rel => exact ⟨k + 1, by omega, by go_num, by rw [← E.out]; exact own4_set own2 hlt x0 x1 x2 x3, (((((hb.trans hb2).setCell (by exact Nat.le_refl _) _).setCell (by exact Nat.le_refl _) _).setCell (by exact Nat.le_refl _) _).setCell (by exact Nat.le_refl _) _)⟩
      case measure => simp [intOf]; omega
    · obtain rfl : k = n := by omega
      rw [fill_end HL.out] at hown
      clear h HL
      go_wp2
      go_ret
      exact ⟨_, _, rfl, hown, hb⟩

def mk4 (z : Int) : Int × Int × Int × Int := (z, z + 1, z + 1 + 1, z + 1 + 1 + 1)
def marks4 (k : Int) (n : Nat) : List (Int × Int × Int × Int) := marks mk4 4 k n

set_option maxHeartbeats 400000 in
theorem markCapS_any (A : Option Addr) (n c B : Nat) (ms : List (Int × Int × Int × Int)) (k : Int) (w : World) (h : Fr w B 34 4 (.slice A n c) n (c4 ms)) (hl : ms.length = n) (hn : n ≤ 1048576) (h0 : 0 ≤ k) (h1 : k ≤ 100000000) :
    Calls Try.prog 65 #[.slice A n c, .int .i64 k] w fun e w' => e = .returned (.int .i64 (k + 4 * n)) ∧ Fr w' B 34 4 (.slice A n c) n (c4 (marks4 k n)) ∧ w.grownBy w' (ownB (.slice A n c) n) := by
  have HL := Lib.hid hl
  clear hl
  go_enter Try.func65, Try.ntmps65
  go_wp2
  go_loopw [1, 5] (fun kk i wr => ∃ j : Nat, j ≤ n ∧ i = .int .i64 j ∧ kk = .int .i64 (k + 4 * j) ∧ Fr wr B 34 4 (.slice A n c) n (c4 (marks4 k j ++ ms.drop j)) ∧ w.grownBy wr (ownB (.slice A n c) n)) (fun _ i _ => n - (intOf i).toNat)
  case atStart => exact ⟨0, Nat.zero_le _, rfl, by simp, by unfold marks4; rw [marks_start]; exact h, World.grownBy.refl _ _⟩
  case round =>
    obtain ⟨j, hj, rfl, rfl, hF, hg⟩ := hrel
    by_cases hlt : j < n
    · obtain ⟨g, rfl, hB, _, own⟩ := hF.form (by omega)
      obtain ⟨_, _, _, _, _, q0, q1, q2, q3⟩ := own4_at own hlt
      have f0 := own.frozenAt (j * 4)
      have f1 := own.frozenAt (j * 4 + 1)
      have f2 := own.frozenAt (j * 4 + 2)
      have f3 := own.frozenAt (j * 4 + 3)
      have e := marks_step mk4 4 k HL.out hlt
      have E := Lib.hid e
      clear hF h e HL
      go_wp2
      go_roundw
      case rel =>
        have R := own4_set own hlt (k + 4 * j) (k + 4 * j + 1) (k + 4 * j + 1 + 1) (k + 4 * j + 1 + 1 + 1)
        rw [show (marks4 k j ++ ms.drop j).set j (k + 4 * j, k + 4 * j + 1, k + 4 * j + 1 + 1, k + 4 * j + 1 + 1 + 1) = marks4 k (j + 1) ++ ms.drop (j + 1) from E.out] at R
        have hg' : w.grownBy wr (some g) := by rw [ownB_pos (by omega)] at hg; exact hg
        have G := (grown_set (p := ⟨g, j * 4 + 3, none⟩) (grown_set (p := ⟨g, j * 4 + 2, none⟩) (grown_set (p := ⟨g, j * 4 + 1, none⟩) (grown_set (p := ⟨g, j * 4, none⟩) hg' rfl (.int .i64 (k + 4 * j))) rfl (.int .i64 (k + 4 * j + 1))) rfl (.int .i64 (k + 4 * j + 1 + 1))) rfl (.int .i64 (k + 4 * j + 1 + 1 + 1)))
        exact ⟨j + 1, by omega, by go_num, by go_num, .inr R, by rw [ownB_pos (by omega)]; exact G⟩
      case measure => simp [intOf]; omega
    · obtain rfl : j = n := by omega
      unfold marks4 at hF
      rw [marks_end mk4 4 k HL.out] at hF
      clear h HL
      go_wp2
      go_ret
      exact ⟨rfl, hF, hg⟩

set_option maxHeartbeats 400000 in
theorem heldCapS_any (A : Option Addr) (n c : Nat) (k : Int) (w : World) (h : Rd w 4 A n c (c4 (marks4 k n))) (hn : n ≤ 1048576) (h0 : 0 ≤ k) (h1 : k ≤ 100000000) :
    Calls Try.prog 67 #[.slice A n c, .int .i64 k] w fun e w' => e = .returned (.int .i64 (k + 4 * n)) ∧ w = w' := by
  go_enter Try.func67, Try.ntmps67
  go_wp2
  go_loop [1, 5] (fun kk i => ∃ j : Nat, j ≤ n ∧ i = .int .i64 j ∧ kk = .int .i64 (k + 4 * j)) (fun _ i => n - (intOf i).toNat)
  case atStart => exact ⟨0, Nat.zero_le _, rfl, by simp⟩
  case round =>
    obtain ⟨j, hj, rfl, rfl⟩ := hrel
    by_cases hlt : j < n
    · obtain ⟨b, off, x0, x1, x2, x3, rfl, X, g0, g1, g2, g3⟩ := h.at4 hlt
      have e := X.out.symm.trans (marks_get mk4 4 k n j hlt)
      simp only [mk4, Option.some.injEq, Prod.mk.injEq] at e
      obtain ⟨rfl, rfl, rfl, rfl⟩ := e
      clear h X
      go_wp2
      go_round
      case rel => exact ⟨j + 1, by omega, by go_num, by go_num⟩
      case measure => simp [intOf]; omega
    · obtain rfl : j = n := by omega
      clear h
      go_wp2
      go_ret
      exact ⟨rfl, rfl⟩
end Go.Proofs.Yteahiiflgiimnaa
