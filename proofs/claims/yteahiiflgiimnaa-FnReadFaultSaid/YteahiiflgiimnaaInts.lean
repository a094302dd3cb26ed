/-
  Slices of numbers: alike, copied, marked, still marked.
-/
import Derived.Test.YteahiiflgiimnaaTypes
namespace Go.Proofs.Yteahiiflgiimnaa
open Go.RowKit

def eqIs (a b : List Int) : Bool := decide (a = b)
theorem eqIs_iff (a b : List Int) : eqIs a b = true ↔ a = b := by unfold eqIs; simp
theorem eqIs_cons (x y : Int) (a b : List Int) : eqIs (x :: a) (y :: b) = (decide (x = y) && eqIs a b) := by unfold eqIs; simp
theorem cI_set (zs : List Int) (k : Nat) (z : Int) : (cI zs).set k (.int .i64 z) = cI (zs.set k z) := by unfold cI; rw [List.map_set]
theorem cI_append (a b : List Int) : cI (a ++ b) = cI a ++ cI b := by unfold cI; rw [List.map_append]
theorem cI_take (a : List Int) (k : Nat) : cI (a.take k) = (cI a).take (k * 1) := by unfold cI; rw [Nat.mul_one, List.map_take]
theorem cI_drop (a : List Int) (k : Nat) : cI (a.drop k) = (cI a).drop (k * 1) := by unfold cI; rw [Nat.mul_one, List.map_drop]
theorem ownI_at {w : World} {B e g n cap k : Nat} {zs : List Int} (h : Row w B e 1 (.slice (some ⟨g, 0, none⟩) n cap) n (cI zs)) (hk : k < n) : ∃ z, Hid (zs[k]? = some z) ∧ w.cell? ⟨g, k, none⟩ = some (.int .i64 z) := by
  obtain ⟨z, hx⟩ := get_of_lt (Rd.of_row h).lenI hk
  exact ⟨z, hx, by rw [h.cellAt k (by omega)]; unfold cI; rw [List.getElem?_map, hx]; rfl⟩
theorem ownI_set {w : World} {B e g n cap k : Nat} {zs : List Int} (h : Row w B e 1 (.slice (some ⟨g, 0, none⟩) n cap) n (cI zs)) (z : Int) : Row (w.setCell ⟨g, k, none⟩ (.int .i64 z)) B e 1 (.slice (some ⟨g, 0, none⟩) n cap) n (cI (zs.set k z)) := by
  rw [← cI_set]; exact h.stored k _
theorem cI_replicate (n : Nat) : (madeCells #[.int .i64 0] (n * 1)).toList = cI (List.replicate n 0) := by
  unfold madeCells cI
  rw [List.map_replicate, Nat.mul_one]
  apply List.ext_getElem?
  intro j
  simp only [Array.toList_map, Array.toList_range, List.getElem?_map, List.getElem?_replicate]
  by_cases h : j < n
  · rw [List.getElem?_range h, if_pos h]; simp [Nat.mod_one]
  · rw [List.getElem?_eq_none (by simpa using h), if_neg h]; rfl
set_option maxHeartbeats 400000 in
theorem eqIntS_any (A A' : Option Addr) (n c n' c' : Nat) (ms ms' : List Int) (w : World) (h : Rd w 1 A n c (cI ms)) (h' : Rd w 1 A' n' c' (cI ms')) :
    Calls Try.prog 62 #[.slice A n c, .slice A' n' c'] w fun e w' => e = .returned (.bool (eqIs ms ms')) ∧ Ext w w' := by
  have hl := h.lenI
  have hl' := h'.lenI
  have hle := h.le
  have htop := h.top
  by_cases hnn : n = n'
  · have HL := Lib.hid hl
    have HL' := Lib.hid hl'
    clear hl hl'
    subst hnn
    go_enter Try.func62, Try.ntmps62
    go_wp2
    go_loopw [5] (fun i wr => ∃ k : Nat, k ≤ n ∧ i = .int .i64 k ∧ Ext w wr ∧ Hid (eqIs ms ms' = eqIs (ms.drop k) (ms'.drop k))) (fun i _ => n - (intOf i).toNat)
    case atStart => exact ⟨0, Nat.zero_le _, rfl, Below.refl _ _, rfl⟩
    case round =>
      obtain ⟨k, hk, rfl, hb, H⟩ := hrel
      by_cases hlt : k < n
      · obtain ⟨b, off, z, rfl, X, g0⟩ := (h.below hb).atI hlt
        obtain ⟨b', off', z', rfl, X', g0'⟩ := (h'.below hb).atI hlt
        clear h h'
        have G0 := later_cell g0
        have G0' := later_cell g0'
        have hd : eqIs ms ms' = (decide (z = z') && eqIs (ms.drop (k + 1)) (ms'.drop (k + 1))) := by rw [H.out, drop_of_get X.out, drop_of_get X'.out, eqIs_cons]
        have HD := Lib.hid hd
        clear hd H X X' HL HL'
        by_cases hz : z = z'
        · go_wp2
          (refine wp_region_later (by kernel_rfl) (by kernel_rfl) ?_; repeat (any_goals (first | (with_reducible refine wpQuiet_nil ?_; intro wq hq) | go_big_quiet_step ((fail)))))
          go_wp2
          go_roundw
          case rel => exact ⟨k + 1, by omega, by go_num, hb.trans hq, by rw [HD.out, decide_eq_true hz]; exact Bool.true_and _⟩
          case measure => simp [intOf]; omega
        · go_wp2
          (refine wp_region_later (by kernel_rfl) (by kernel_rfl) ?_; repeat (any_goals (first | (with_reducible refine wpQuiet_nil ?_; intro wq hq) | go_big_quiet_step ((fail)))))
          go_wp2
          go_ret
          exact ⟨ret_bool (by rw [HD.out, decide_eq_false hz]; rfl), hb.trans hq⟩
      · have e : eqIs ms ms' = true := by rw [H.out, drop_all HL.out (by omega), drop_all HL'.out (by omega)]; rfl
        have E := Lib.hid e
        clear e h h'
        go_wp2
        go_ret
        exact ⟨ret_bool E.out.symm, hb⟩
  · have e : eqIs ms ms' = false := by unfold eqIs; rw [decide_eq_false_iff_not]; intro e; apply hnn; rw [← hl, ← hl', e]
    have E := Lib.hid e
    clear e hl hl'
    go_enter Try.func62, Try.ntmps62
    go_wp2
    go_ret
    exact ⟨ret_bool E.out.symm, Below.refl _ _⟩
set_option maxHeartbeats 400000 in
theorem sameInts_any (A A' : Option Addr) (n c n' c' : Nat) (ms ms' : List Int) (w : World) (h : Rd w 1 A n c (cI ms)) (h' : Rd w 1 A' n' c' (cI ms')) :
    Calls Try.prog 82 #[.slice A n c, .slice A' n' c'] w fun e w' => e = .returned (.bool (eqIs ms ms')) ∧ Ext w w' := by
  have hl := h.lenI
  have hl' := h'.lenI
  have hle := h.le
  have htop := h.top
  by_cases hnn : n = n'
  · have HL := Lib.hid hl
    have HL' := Lib.hid hl'
    clear hl hl'
    subst hnn
    go_enter Try.func82, Try.ntmps82
    go_wp2
    go_loopw [5] (fun i wr => ∃ k : Nat, k ≤ n ∧ i = .int .i64 k ∧ Ext w wr ∧ Hid (eqIs ms ms' = eqIs (ms.drop k) (ms'.drop k))) (fun i _ => n - (intOf i).toNat)
    case atStart => exact ⟨0, Nat.zero_le _, rfl, Below.refl _ _, rfl⟩
    case round =>
      obtain ⟨k, hk, rfl, hb, H⟩ := hrel
      by_cases hlt : k < n
      · obtain ⟨b, off, z, rfl, X, g0⟩ := (h.below hb).atI hlt
        obtain ⟨b', off', z', rfl, X', g0'⟩ := (h'.below hb).atI hlt
        clear h h'
        have G0 := later_cell g0
        have G0' := later_cell g0'
        have hd : eqIs ms ms' = (decide (z = z') && eqIs (ms.drop (k + 1)) (ms'.drop (k + 1))) := by rw [H.out, drop_of_get X.out, drop_of_get X'.out, eqIs_cons]
        have HD := Lib.hid hd
        clear hd H X X' HL HL'
        by_cases hz : z = z'
        · go_wp2
          (refine wp_region_later (by kernel_rfl) (by kernel_rfl) ?_; repeat (any_goals (first | (with_reducible refine wpQuiet_nil ?_; intro wq hq) | go_big_quiet_step ((fail)))))
          go_wp2
          go_roundw
          case rel => exact ⟨k + 1, by omega, by go_num, hb.trans hq, by rw [HD.out, decide_eq_true hz]; exact Bool.true_and _⟩
          case measure => simp [intOf]; omega
        · go_wp2
          (refine wp_region_later (by kernel_rfl) (by kernel_rfl) ?_; repeat (any_goals (first | (with_reducible refine wpQuiet_nil ?_; intro wq hq) | go_big_quiet_step ((fail)))))
          go_wp2
          go_ret
          exact ⟨ret_bool (by rw [HD.out, decide_eq_false hz]; rfl), hb.trans hq⟩
      · have e : eqIs ms ms' = true := by rw [H.out, drop_all HL.out (by omega), drop_all HL'.out (by omega)]; rfl
        have E := Lib.hid e
        clear e h h'
        go_wp2
        go_ret
        exact ⟨ret_bool E.out.symm, hb⟩
  · have e : eqIs ms ms' = false := by unfold eqIs; rw [decide_eq_false_iff_not]; intro e; apply hnn; rw [← hl, ← hl', e]
    have E := Lib.hid e
    clear e hl hl'
    go_enter Try.func82, Try.ntmps82
    go_wp2
    go_ret
    exact ⟨ret_bool E.out.symm, Below.refl _ _⟩
def marks1 (k : Int) (n : Nat) : List Int := marks (fun z => z) 1 k n
set_option maxHeartbeats 400000 in
theorem toIntS_any (A : Option Addr) (n c : Nat) (ms : List Int) (w : World) (h : Rd w 1 A n c (cI ms)) (hn : n ≤ 1048576) :
    Calls Try.prog 70 #[.slice A n c] w fun e w' => ∃ A' c', e = .returned (.slice A' n c') ∧ Row w' w.heap.size 3 1 (.slice A' n c') n (cI ms) ∧ Ext w w' := by
  obtain ⟨i0, hi, hz0, hz1, hz2⟩ := info_parts Try.infoInt
  have HL := Lib.hid h.lenI
  go_enter Try.func70, Try.ntmps70
  go_wp2_with (at_make; refine wpList_make_full _ rfl _ _ 48 rfl w.heap.size 3 i0 _ 1 Try.underlying48 hi hz0 hz1 .i64 .i64 _ _ n rfl rfl rfl rfl (by rw [hz2]; omega) (by unfold maxLen; omega) (Nat.le_refl _) ?_; intro w1 hown hg)
  have hb1 : Ext w w1 := (Below.refl _ _).grown hg (Nat.le_refl _) (by simp)
  rw [show (Value.int .i64 0).cells = #[.int .i64 0] from rfl, cI_replicate] at hown
  replace hown := Row.of_own hown
  clear hg
  go_loopw [4] (fun i wr => ∃ k : Nat, k ≤ n ∧ i = .int .i64 k ∧ Row wr w.heap.size 3 1 (.slice (some ⟨w.heap.size, 0, none⟩) n n) n (cI (ms.take k ++ List.replicate (n - k) 0)) ∧ Ext w wr) (fun i _ => n - (intOf i).toNat)
  case atStart => exact ⟨0, Nat.zero_le _, rfl, by rw [fill_start]; exact hown, hb1⟩
  case round =>
    obtain ⟨k, hk, rfl, hown, hb⟩ := hrel
    by_cases hlt : k < n
    · obtain ⟨b, off, z, rfl, X, g0⟩ := (h.below hb).atI hlt
      clear h
      have e := fill_step (z := (0 : Int)) HL.out hlt X.out
      have E := Lib.hid e
      obtain ⟨_, _, q0⟩ := ownI_at hown hlt
      have f0 := hown.frozenAt k
      clear e X HL
      go_wp2
      go_roundw
      case rel => exact ⟨k + 1, by omega, by go_num, by rw [← E.out]; exact ownI_set hown z, hb.setCell (by exact Nat.le_refl _) _⟩
      case measure => simp [intOf]; omega
    · obtain rfl : k = n := by omega
      rw [fill_end HL.out] at hown
      clear h HL
      go_wp2
      go_ret
      exact ⟨_, _, rfl, hown, hb⟩
set_option maxHeartbeats 400000 in
theorem markIntS_any (A : Option Addr) (n c B : Nat) (ms : List Int) (k : Int) (w : World) (h : Fr w B 3 1 (.slice A n c) n (cI ms)) (hl : ms.length = n) (hn : n ≤ 8388608) (h0 : 0 ≤ k) (h1 : k ≤ 100000000) :
    Calls Try.prog 64 #[.slice A n c, .int .i64 k] w fun e w' => e = .returned (.int .i64 (k + 1 * n)) ∧ Fr w' B 3 1 (.slice A n c) n (cI (marks1 k n)) ∧ w.grownBy w' (ownB (.slice A n c) n) := by
  have HL := Lib.hid hl
  clear hl
  go_enter Try.func64, Try.ntmps64
  go_wp2
  go_loopw [1, 5] (fun kk i wr => ∃ j : Nat, j ≤ n ∧ i = .int .i64 j ∧ kk = .int .i64 (k + 1 * j) ∧ Fr wr B 3 1 (.slice A n c) n (cI (marks1 k j ++ ms.drop j)) ∧ w.grownBy wr (ownB (.slice A n c) n)) (fun _ i _ => n - (intOf i).toNat)
  case atStart => exact ⟨0, Nat.zero_le _, rfl, by simp, by unfold marks1; rw [marks_start]; exact h, World.grownBy.refl _ _⟩
  case round =>
    obtain ⟨j, hj, rfl, rfl, hF, hg⟩ := hrel
    by_cases hlt : j < n
    · obtain ⟨g, rfl, hB, _, own⟩ := hF.form (by omega)
      obtain ⟨z, _, q0⟩ := ownI_at own hlt
      have f0 := own.frozenAt j
      have e := marks_step (fun z : Int => z) 1 k HL.out hlt
      have E := Lib.hid e
      clear hF h e HL
      go_wp2
      go_roundw
      case rel =>
        have R := ownI_set (k := j) own (k + 1 * j)
        rw [show (marks1 k j ++ ms.drop j).set j (k + 1 * j) = marks1 k (j + 1) ++ ms.drop (j + 1) from E.out] at R
        have hg' : w.grownBy wr (some g) := by rw [ownB_pos (by omega)] at hg; exact hg
        have G := grown_set (p := ⟨g, j, none⟩) hg' rfl (.int .i64 (k + 1 * j))
        simp only [Int.one_mul] at R G
        exact ⟨j + 1, by omega, by go_num, by go_num, .inr R, by rw [ownB_pos (by omega)]; exact G⟩
      case measure => simp [intOf]; omega
    · obtain rfl : j = n := by omega
      unfold marks1 at hF
      rw [marks_end (fun z : Int => z) 1 k HL.out] at hF
      clear h HL
      go_wp2
      go_ret
      exact ⟨rfl, hF, hg⟩
set_option maxHeartbeats 400000 in
theorem heldIntS_any (A : Option Addr) (n c : Nat) (k : Int) (w : World) (h : Rd w 1 A n c (cI (marks1 k n))) (hn : n ≤ 8388608) (h0 : 0 ≤ k) (h1 : k ≤ 100000000) :
    Calls Try.prog 66 #[.slice A n c, .int .i64 k] w fun e w' => e = .returned (.int .i64 (k + 1 * n)) ∧ w = w' := by
  go_enter Try.func66, Try.ntmps66
  go_wp2
  go_loop [1, 5] (fun kk i => ∃ j : Nat, j ≤ n ∧ i = .int .i64 j ∧ kk = .int .i64 (k + 1 * j)) (fun _ i => n - (intOf i).toNat)
  case atStart => exact ⟨0, Nat.zero_le _, rfl, by simp⟩
  case round =>
    obtain ⟨j, hj, rfl, rfl⟩ := hrel
    by_cases hlt : j < n
    · obtain ⟨b, off, z, rfl, X, g0⟩ := h.atI hlt
      have e := X.out.symm.trans (marks_get (fun z : Int => z) 1 k n j hlt)
      simp only [Option.some.injEq] at e
      subst e
      clear h X
      go_wp2
      go_round
      case rel => exact ⟨j + 1, by omega, by go_num, by go_num⟩
      case measure => simp [intOf]; omega
    · obtain rfl : j = n := by omega
      clear h
      go_wp2
      go_ret
      exact ⟨rfl, rfl⟩
end Go.Proofs.Yteahiiflgiimnaa
