/-
  Slices of truth values: alike, copied, marked, still marked.
-/
import Derived.Test.YtakdefcdhcghiaaTypes
namespace Go.Proofs.Ytakdefcdhcghiaa
open Go.RowKit

/-- A slice of truth values, as cells. -/
def cB (zs : List Bool) : List Value := zs.map Value.bool
theorem Try.infoBool : (Try.prog.info? 4).map (fun i => (i.zero, i.size, i.bytes)) = some (some (.bool false), 1, 1) := by kernel_rfl
theorem Rd.lenB {w : World} {A : Option Addr} {n c : Nat} {zs : List Bool} (h : Rd w 1 A n c (cB zs)) : zs.length = n := by
  have := h.len; simpa [cB] using this
theorem Rd.atB {w : World} {A : Option Addr} {n c k : Nat} {zs : List Bool} (h : Rd w 1 A n c (cB zs)) (hk : k < n) :
    ∃ b off x, A = some ⟨b, off, none⟩ ∧ Hid (zs[k]? = some x) ∧ w.cell? ⟨b, off + k, none⟩ = some (.bool x) := by
  obtain ⟨b, off, e, hc⟩ := h.cells (by omega)
  obtain ⟨x, hx⟩ := get_of_lt h.lenB hk
  exact ⟨b, off, x, e, hx, hc k _ (by simp [cB, hx])⟩
theorem one_cB (zs : List Bool) : ∀ u ∈ cB zs, u.oneCell' = true := by
  intro u hu; unfold cB at hu; obtain ⟨z, _, rfl⟩ := List.mem_map.1 hu; rfl

def eqBs (a b : List Bool) : Bool := decide (a = b)
theorem eqBs_iff (a b : List Bool) : eqBs a b = true ↔ a = b := by unfold eqBs; simp
theorem eqBs_cons (x y : Bool) (a b : List Bool) : eqBs (x :: a) (y :: b) = (decide (x = y) && eqBs a b) := by unfold eqBs; simp
theorem cB_set (zs : List Bool) (k : Nat) (z : Bool) : (cB zs).set k (.bool z) = cB (zs.set k z) := by unfold cB; rw [List.map_set]
theorem cB_append (a b : List Bool) : cB (a ++ b) = cB a ++ cB b := by unfold cB; rw [List.map_append]
theorem cB_take (a : List Bool) (k : Nat) : cB (a.take k) = (cB a).take (k * 1) := by unfold cB; rw [Nat.mul_one, List.map_take]
theorem cB_drop (a : List Bool) (k : Nat) : cB (a.drop k) = (cB a).drop (k * 1) := by unfold cB; rw [Nat.mul_one, List.map_drop]
theorem ownB_at {w : World} {B e g n cap k : Nat} {zs : List Bool} (h : Row w B e 1 (.slice (some ⟨g, 0, none⟩) n cap) n (cB zs)) (hk : k < n) : ∃ z, Hid (zs[k]? = some z) ∧ w.cell? ⟨g, k, none⟩ = some (.bool z) := by
  obtain ⟨z, hx⟩ := get_of_lt (Rd.of_row h).lenB hk
  exact ⟨z, hx, by rw [h.cellAt k (by omega)]; unfold cB; rw [List.getElem?_map, hx]; rfl⟩
theorem ownB_set {w : World} {B e g n cap k : Nat} {zs : List Bool} (h : Row w B e 1 (.slice (some ⟨g, 0, none⟩) n cap) n (cB zs)) (z : Bool) : Row (w.setCell ⟨g, k, none⟩ (.bool z)) B e 1 (.slice (some ⟨g, 0, none⟩) n cap) n (cB (zs.set k z)) := by
  rw [← cB_set]; exact h.stored k _
theorem cB_replicate (n : Nat) : (madeCells #[.bool false] (n * 1)).toList = cB (List.replicate n false) := by
  unfold madeCells cB
  rw [List.map_replicate, Nat.mul_one]
  apply List.ext_getElem?
  intro j
  simp only [Array.toList_map, Array.toList_range, List.getElem?_map, List.getElem?_replicate]
  by_cases h : j < n
  · rw [List.getElem?_range h, if_pos h]; simp [Nat.mod_one]
  · rw [List.getElem?_eq_none (by simpa using h), if_neg h]; rfl
set_option maxHeartbeats 400000 in
theorem eqBoolS_any (A A' : Option Addr) (n c n' c' : Nat) (ms ms' : List Bool) (w : World) (h : Rd w 1 A n c (cB ms)) (h' : Rd w 1 A' n' c' (cB ms')) :
    Calls Try.prog 15 #[.slice A n c, .slice A' n' c'] w fun e w' => e = .returned (.bool (eqBs ms ms')) ∧ Ext w w' := by
  have hl := h.lenB
  have hl' := h'.lenB
  have hle := h.le
  have htop := h.top
  by_cases hnn : n = n'
  · have HL := Lib.hid hl
    have HL' := Lib.hid hl'
    clear hl hl'
    subst hnn
    go_enter Try.func15, Try.ntmps15
    go_wp2
    go_loopw [5] (fun i wr => ∃ k : Nat, k ≤ n ∧ i = .int .i64 k ∧ Ext w wr ∧ Hid (eqBs ms ms' = eqBs (ms.drop k) (ms'.drop k))) (fun i _ => n - (intOf i).toNat)
    case atStart => exact ⟨0, Nat.zero_le _, rfl, Below.refl _ _, rfl⟩
    case round =>
      obtain ⟨k, hk, rfl, hb, H⟩ := hrel
      by_cases hlt : k < n
      · obtain ⟨b, off, z, rfl, X, g0⟩ := (h.below hb).atB hlt
        obtain ⟨b', off', z', rfl, X', g0'⟩ := (h'.below hb).atB hlt
        clear h h'
        have G0 := later_cell g0
        have G0' := later_cell g0'
        have hd : eqBs ms ms' = (decide (z = z') && eqBs (ms.drop (k + 1)) (ms'.drop (k + 1))) := by rw [H.out, drop_of_get X.out, drop_of_get X'.out, eqBs_cons]
        have HD := Lib.hid hd
        clear hd H X X' HL HL'
        by_cases hz : z = z'
        · go_wp2
          (refine wp_region_later (by kernel_rfl) (by kernel_rfl) ?_; repeat (any_goals (first | (with_reducible refine wpQuiet_nil ?_; intro wq hq) | go_big_quiet_step ((fail)))))
          go_wp2
          go_roundw
          case rel => exact ⟨k + 1, by omega, by go_num, hb.trans hq, by rw [HD.out, decide_eq_true hz]; exact Bool.true_and _⟩
          case measure => simp [intOf]; omega
        · have hzn : (z == z') = false := by simpa using hz
          have hzm : (z != z') = true := by simpa using hz
          go_wp2
          (refine wp_region_later (by kernel_rfl) (by kernel_rfl) ?_; repeat (any_goals (first | (with_reducible refine wpQuiet_nil ?_; intro wq hq) | go_big_quiet_step ((fail)))))
          go_wp2
          go_ret
          exact ⟨ret_bool (by rw [HD.out, decide_eq_false hz]; rfl), hb.trans hq⟩
      · have e : eqBs ms ms' = true := by rw [H.out, drop_all HL.out (by omega), drop_all HL'.out (by omega)]; rfl
        have E := Lib.hid e
        clear e h h'
        go_wp2
        go_ret
        exact ⟨ret_bool E.out.symm, hb⟩
  · have e : eqBs ms ms' = false := by unfold eqBs; rw [decide_eq_false_iff_not]; intro e; apply hnn; rw [← hl, ← hl', e]
    have E := Lib.hid e
    clear e hl hl'
    go_enter Try.func15, Try.ntmps15
    go_wp2
    go_ret
    exact ⟨ret_bool E.out.symm, Below.refl _ _⟩
/-- A mark's truth value. -/
def m3 (z : Int) : Bool := z % 3 == 0
def marksB (k : Int) (n : Nat) : List Bool := marks m3 1 k n
set_option maxHeartbeats 400000 in
theorem toBoolS_any (A : Option Addr) (n c : Nat) (ms : List Bool) (w : World) (h : Rd w 1 A n c (cB ms)) (hn : n ≤ 1048576) :
    Calls Try.prog 12 #[.slice A n c] w fun e w' => ∃ A' c', e = .returned (.slice A' n c') ∧ Row w' w.heap.size 4 1 (.slice A' n c') n (cB ms) ∧ Ext w w' := by
  obtain ⟨i0, hi, hz0, hz1, hz2⟩ := info_parts Try.infoBool
  have HL := Lib.hid h.lenB
  go_enter Try.func12, Try.ntmps12
  go_wp2_with (at_make; refine wpList_make_full _ rfl _ _ 23 rfl w.heap.size 4 i0 _ 1 Try.underlying23 hi hz0 hz1 .i64 .i64 _ _ n rfl rfl rfl rfl (by rw [hz2]; omega) (by unfold maxLen; omega) (Nat.le_refl _) ?_; intro w1 hown hg)
  have hb1 : Ext w w1 := (Below.refl _ _).grown hg (Nat.le_refl _) (by simp)
  rw [show (Value.bool false).cells = #[.bool false] from rfl, cB_replicate] at hown
  replace hown := Row.of_own hown
  clear hg
  go_loopw [4] (fun i wr => ∃ k : Nat, k ≤ n ∧ i = .int .i64 k ∧ Row wr w.heap.size 4 1 (.slice (some ⟨w.heap.size, 0, none⟩) n n) n (cB (ms.take k ++ List.replicate (n - k) false)) ∧ Ext w wr) (fun i _ => n - (intOf i).toNat)
  case atStart => exact ⟨0, Nat.zero_le _, rfl, by rw [fill_start]; exact hown, hb1⟩
  case round =>
    obtain ⟨k, hk, rfl, hown, hb⟩ := hrel
    by_cases hlt : k < n
    · obtain ⟨b, off, z, rfl, X, g0⟩ := (h.below hb).atB hlt
      clear h
      have e := fill_step (z := false) HL.out hlt X.out
      have E := Lib.hid e
      obtain ⟨_, _, q0⟩ := ownB_at hown hlt
      have f0 := hown.frozenAt k
      clear e X HL
      go_wp2
      go_roundw
      case rel => exact ⟨k + 1, by omega, by go_num, by rw [← E.out]; exact ownB_set hown z, hb.setCell (by exact Nat.le_refl _) _⟩
      case measure => simp [intOf]; omega
    · obtain rfl : k = n := by omega
      rw [fill_end HL.out] at hown
      clear h HL
      go_wp2
      go_ret
      exact ⟨_, _, rfl, hown, hb⟩
set_option maxHeartbeats 400000 in
theorem markBoolS_any (A : Option Addr) (n c B : Nat) (ms : List Bool) (k : Int) (w : World) (h : Fr w B 4 1 (.slice A n c) n (cB ms)) (hl : ms.length = n) (hn : n ≤ 8388608) (h0 : 0 ≤ k) (h1 : k ≤ 100000000) :
    Calls Try.prog 19 #[.slice A n c, .int .i64 k] w fun e w' => e = .returned (.int .i64 (k + 1 * n)) ∧ Fr w' B 4 1 (.slice A n c) n (cB (marksB k n)) ∧ w.grownBy w' (ownB (.slice A n c) n) := by
  have HL := Lib.hid hl
  clear hl
  go_enter Try.func19, Try.ntmps19
  go_wp2
  go_loopw [1, 5] (fun kk i wr => ∃ j : Nat, j ≤ n ∧ i = .int .i64 j ∧ kk = .int .i64 (k + 1 * j) ∧ Fr wr B 4 1 (.slice A n c) n (cB (marksB k j ++ ms.drop j)) ∧ w.grownBy wr (ownB (.slice A n c) n)) (fun _ i _ => n - (intOf i).toNat)
  case atStart => exact ⟨0, Nat.zero_le _, rfl, by simp, by unfold marksB; rw [marks_start]; exact h, World.grownBy.refl _ _⟩
  case round =>
    obtain ⟨j, hj, rfl, rfl, hF, hg⟩ := hrel
    by_cases hlt : j < n
    · obtain ⟨g, rfl, hB, _, own⟩ := hF.form (by omega)
      obtain ⟨z, _, q0⟩ := ownB_at own hlt
      have f0 := own.frozenAt j
      have e := marks_step (m3) 1 k HL.out hlt
      have E := Lib.hid e
      clear hF h e HL
      go_wp2
      go_roundw
      case rel =>
        have R := ownB_set (k := j) own (m3 (k + 1 * j))
        rw [show (marksB k j ++ ms.drop j).set j (m3 (k + 1 * j)) = marksB k (j + 1) ++ ms.drop (j + 1) from E.out] at R
        have hg' : w.grownBy wr (some g) := by rw [ownB_pos (by omega)] at hg; exact hg
        have G := grown_set (p := ⟨g, j, none⟩) hg' rfl (.bool (m3 (k + 1 * j)))
        simp only [Int.one_mul, m3] at R G
        exact ⟨j + 1, by omega, by go_num, by go_num, .inr R, by rw [ownB_pos (by omega)]; exact G⟩
      case measure => simp [intOf]; omega
    · obtain rfl : j = n := by omega
      unfold marksB at hF
      rw [marks_end (m3) 1 k HL.out] at hF
      clear h HL
      go_wp2
      go_ret
      exact ⟨rfl, hF, hg⟩
set_option maxHeartbeats 400000 in
theorem heldBoolS_any (A : Option Addr) (n c : Nat) (k : Int) (w : World) (h : Rd w 1 A n c (cB (marksB k n))) (hn : n ≤ 8388608) (h0 : 0 ≤ k) (h1 : k ≤ 100000000) :
    Calls Try.prog 20 #[.slice A n c, .int .i64 k] w fun e w' => e = .returned (.int .i64 (k + 1 * n)) ∧ w = w' := by
  go_enter Try.func20, Try.ntmps20
  go_wp2
  go_loop [1, 5] (fun kk i => ∃ j : Nat, j ≤ n ∧ i = .int .i64 j ∧ kk = .int .i64 (k + 1 * j)) (fun _ i => n - (intOf i).toNat)
  case atStart => exact ⟨0, Nat.zero_le _, rfl, by simp⟩
  case round =>
    obtain ⟨j, hj, rfl, rfl⟩ := hrel
    by_cases hlt : j < n
    · obtain ⟨b, off, z, rfl, X, g0⟩ := h.atB hlt
      have e := X.out.symm.trans (marks_get (m3) 1 k n j hlt)
      simp only [Option.some.injEq] at e
      subst e
      simp only [Int.one_mul, m3] at g0
      clear h X
      go_wp2
      go_round
      case rel => exact ⟨j + 1, by omega, by go_num, by go_num⟩
      case measure => simp [intOf]; omega
    · obtain rfl : j = n := by omega
      clear h
      go_wp2
      go_ret
      exact ⟨rfl, rfl⟩
end Go.Proofs.Ytakdefcdhcghiaa
