/-
  The small functions over mappings: ranges, copies, comparisons.
-/
import Derived.Test.YteahiiflgiimnaaSmall
namespace Go.Proofs.Yteahiiflgiimnaa
open Go.RowKit

set_option maxHeartbeats 400000 in
theorem szMappingS_any (A : Option Addr) (n c : Nat) (left : Int) (w : World) (hn : n ≤ 9223372036854775807) (h0 : 0 ≤ left) (h1 : left ≤ 1048576) :
    Calls Try.prog 12 #[.slice A n c, .int .i64 left] w fun e w' => e = .returned (.int .i64 (szB left n)) ∧ w = w' := by
  go_enter Try.func12, Try.ntmps12
  go_wp2
  · go_ret
    exact ⟨ret_int (by unfold szB; rw [if_pos (by assumption)]), rfl⟩
  · go_ret
    exact ⟨ret_int (by unfold szB; rw [if_neg (by omega)]), rfl⟩

set_option maxHeartbeats 400000 in
theorem toMapping_any (a b c : Int) (w : World) :
    Calls Try.prog 50 #[.agg #[.int .i64 a, .int .i64 b, .int .i64 c]] w fun e w' => e = .returned (.agg #[.int .i64 a, .int .i64 b, .int .i64 c]) ∧ Ext w w' := by
  go_enter Try.func50, Try.ntmps50
  go_wp2
  refine bodyPost_ret (v := .agg #[.int .i64 a, .int .i64 b, .int .i64 c]) (by simp [results, Try.results50, go_sem]) rfl ⟨rfl, ?_⟩
  exact (((Below.refl _ _).alloc (Nat.le_refl _) _).alloc (by simp) _).alloc (by simp; omega) _

def eqM (a b : Int × Int × Int) : Bool := a.1 == b.1 && a.2.1 == b.2.1 && a.2.2 == b.2.2
set_option maxHeartbeats 400000 in
theorem eqMapping_any (a b c x y z : Int) (w : World) :
    Calls Try.prog 57 #[.agg #[.int .i64 a, .int .i64 b, .int .i64 c], .agg #[.int .i64 x, .int .i64 y, .int .i64 z]] w fun e w' => e = .returned (.bool (eqM (a, b, c) (x, y, z))) ∧ Ext w w' := by
  go_enter Try.func57, Try.ntmps57
  go_wp2
  all_goals go_ret
  all_goals refine ⟨ret_bool (by simp_all [eqM]), ?_⟩
  all_goals exact ((Below.refl _ _).alloc (Nat.le_refl _) _).alloc (by simp) _

/-- Two slices of mappings, element by element. -/
def eqMs : List (Int × Int × Int) → List (Int × Int × Int) → Bool
  | [], [] => true
  | a :: r, b :: r' => eqM a b && eqMs r r'
  | _, _ => false
theorem eqM_iff (a b : Int × Int × Int) : eqM a b = true ↔ a = b := by
  obtain ⟨a0, a1, a2⟩ := a; obtain ⟨b0, b1, b2⟩ := b
  simp [eqM, and_assoc]
theorem eqMs_iff : ∀ a b : List (Int × Int × Int), eqMs a b = true ↔ a = b
  | [], [] => by simp [eqMs]
  | [], _ :: _ => by simp [eqMs]
  | _ :: _, [] => by simp [eqMs]
  | a :: r, b :: r' => by simp [eqMs, eqM_iff, eqMs_iff r r']
theorem eqMs_len {a b : List (Int × Int × Int)} (h : a.length ≠ b.length) : eqMs a b = false := by
  rw [← Bool.not_eq_true, eqMs_iff]; intro e; exact h (by rw [e])

set_option maxHeartbeats 400000 in
theorem eqMappingS_any (A A' : Option Addr) (n c n' c' : Nat) (ms ms' : List (Int × Int × Int)) (w : World) (h : Rd w 3 A n c (c3 ms)) (h' : Rd w 3 A' n' c' (c3 ms')) :
    Calls Try.prog 18 #[.slice A n c, .slice A' n' c'] w fun e w' => e = .returned (.bool (eqMs ms ms')) ∧ Ext w w' := by
  have hl := h.len3
  have hl' := h'.len3
  have hle := h.le
  have htop := h.top
  by_cases hnn : n = n'
  · have HL := Lib.hid hl
    have HL' := Lib.hid hl'
    clear hl hl'
    subst hnn
    go_enter Try.func18, Try.ntmps18
    go_wp2
    go_loopw [5] (fun i wr => ∃ k : Nat, k ≤ n ∧ i = .int .i64 k ∧ Ext w wr ∧ Hid (eqMs ms ms' = eqMs (ms.drop k) (ms'.drop k))) (fun i _ => n - (intOf i).toNat)
    case atStart => exact ⟨0, Nat.zero_le _, rfl, Below.refl _ _, rfl⟩
    case round =>
      obtain ⟨k, hk, rfl, hb, H⟩ := hrel
      by_cases hlt : k < n
      · obtain ⟨b, off, p, f, r, rfl, X, g0, g1, g2⟩ := (h.below hb).at3 hlt
        obtain ⟨b', off', p', f', r', rfl, X', g0', g1', g2'⟩ := (h'.below hb).at3 hlt
        clear h h'
        have G0 := later_cell g0
        have G1 := later_cell g1
        have G2 := later_cell g2
        have G0' := later_cell g0'
        have G1' := later_cell g1'
        have G2' := later_cell g2'
        have hd : eqMs ms ms' = (eqM (p, f, r) (p', f', r') && eqMs (ms.drop (k + 1)) (ms'.drop (k + 1))) := by rw [H.out, drop_of_get X.out, drop_of_get X'.out]; rfl
        have HD := Lib.hid hd
        clear hd H X X' HL HL'
        obtain ⟨t, ht⟩ : ∃ t, eqM (p, f, r) (p', f', r') = t := ⟨_, rfl⟩
        go_wp2
        (refine wp_region_later (by kernel_rfl) (by kernel_rfl) ?_; repeat (any_goals (first | (with_reducible refine wpQuiet_nil ?_; intro wq hq) | go_big_quiet_step (((go_at_call 57; exact later_of _ (eqMapping_any _ _ _ _ _ _ _)))))))
        cases t
        · go_wp2
          go_ret
          exact ⟨ret_bool (by rw [HD.out, ht]; rfl), hb.trans hq⟩
        · go_wp2
          go_roundw
          case rel => exact ⟨k + 1, by omega, by go_num, hb.trans hq, by rw [HD.out, ht]; exact Bool.true_and _⟩
          case measure => simp [intOf]; omega
      · have e : eqMs ms ms' = true := by rw [H.out, drop_all HL.out (by omega), drop_all HL'.out (by omega)]; rfl
        have E := Lib.hid e
        clear e h h'
        go_wp2
        go_ret
        exact ⟨ret_bool E.out.symm, hb⟩
  · have e := eqMs_len (a := ms) (b := ms') (by omega)
    have E := Lib.hid e
    clear e hl hl'
    go_enter Try.func18, Try.ntmps18
    go_wp2
    go_ret
    exact ⟨ret_bool E.out.symm, Below.refl _ _⟩
end Go.Proofs.Yteahiiflgiimnaa
