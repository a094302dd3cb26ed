/-
  Faults, said of lists; FaultOf, the program's and the reference's.
-/
import Derived.Test.YteahiiflgiimnaaMpI
namespace Go.Proofs.Yteahiiflgiimnaa
open Go.RowKit

theorem fk_zero {ms : List Mp} {a r : Int} : fkOf ms a r = 0 ↔ inB a 0 65535 = true ∧ ∃ m, lookP (a / 256) ms = some m ∧ covB r m.2.2 = true := by
  unfold fkOf
  cases ha : inB a 0 65535 with
  | false => rw [if_neg Bool.false_ne_true]; simp
  | true =>
    rw [if_pos rfl]
    cases hl : lookP (a / 256) ms with
    | none => simp
    | some m => cases hc : covB r m.2.2 <;> simp [hc]
theorem tr_fk {ms : List Mp} {a r : Int} (hv : spValid ms = true) (hr : inB r 0 15 = true) : (0 ≤ trOf ms a r ↔ fkOf ms a r = 0) := by
  rw [fk_zero]
  unfold trOf
  rw [hv, hr]
  cases ha : inB a 0 65535 with
  | false => simp
  | true =>
    simp only [Bool.true_and, if_true, true_and, Bool.and_true]
    cases hl : lookP (a / 256) ms with
    | none => simp [Option.filter]
    | some m =>
      have hm := (spFrom_mem (spValid_from hv) _ (look_mem hl).1).2.1
      cases hc : covB r m.2.2 with
      | false => simp [Option.filter, hc]
      | true => simp [Option.filter, hc]; omega
/-- The fault that rights at an address cause. -/
def foR (ms : List Mp) (a r : Int) : Int × Int × Int := if spValid ms && inB r 0 15 && !(fkOf ms a r == 0) then (fkOf ms a r, a, r) else (0, 0, 0)
theorem foR_no {ms : List Mp} {a r : Int} (h : (spValid ms && inB r 0 15 && !(fkOf ms a r == 0)) = false) : foR ms a r = (0, 0, 0) := by unfold foR; rw [h]; rfl
theorem foR_yes {ms : List Mp} {a r : Int} (h : (spValid ms && inB r 0 15 && !(fkOf ms a r == 0)) = true) : foR ms a r = (fkOf ms a r, a, r) := by unfold foR; rw [h]; rfl

set_option maxHeartbeats 1000000 in
theorem FaultOf_any (A : Option Addr) (n c : Nat) (ms : List Mp) (a r : Int) (w : World) (h : Rd w 3 A n c (c3 ms)) :
    Calls Try.prog 22 #[.slice A n c, .int .i64 a, .int .i64 r] w fun e w' => e = .returned (.agg #[.int .i64 (foR ms a r).1, .int .i64 (foR ms a r).2.1, .int .i64 (foR ms a r).2.2]) ∧ Ext w w' := by
  obtain ⟨t1, e1⟩ : ∃ b, spValid ms = b := ⟨_, rfl⟩
  obtain ⟨t2, e2⟩ : ∃ b, inB r 0 15 = b := ⟨_, rfl⟩
  obtain ⟨fk, e3⟩ : ∃ b, fkOf ms a r = b := ⟨_, rfl⟩
  have E1 := Lib.hid e1
  have E2 := Lib.hid e2
  have E3 := Lib.hid e3
  have hb0 : Ext w (w.alloc (.cells #[.int .i64 0, .int .i64 0, .int .i64 0] 32)) := (Below.refl _ _).alloc (Nat.le_refl _) _
  have own0 : Row (w.alloc (.cells #[.int .i64 0, .int .i64 0, .int .i64 0] 32)) w.heap.size 32 3 (.slice (some ⟨w.heap.size, 0, none⟩) 1 1) 1 (c3 [(0, 0, 0)]) := Row.lit (w := w) (n := 1) #[.int .i64 0, .int .i64 0, .int .i64 0] rfl (by unfold maxLen; omega) (Nat.le_refl _)
  replace h := h.below hb0
  go_enter Try.func22, Try.ntmps22
  go_wp2_with fail
  refine (SpaceValid_any _ _ _ _ _ h).mono ?_; rintro e w1 ⟨rfl, hb1⟩; rw [E1.out]
  have h1 := h.below hb1
  have own1 := own0.below hb1
  replace hb1 := hb0.trans hb1
  clear h own0 hb0
  cases t1
  · have N := Lib.hid (foR_no (ms := ms) (a := a) (r := r) (by rw [e1]; rfl))
    clear h1 e1 e2 e3
    obtain ⟨_, _, _, _, q0, q1, q2⟩ := own3_at own1 (Nat.lt_succ_self 0)
    have f0 := own1.frozenAt 0
    have f1 := own1.frozenAt 1
    have f2 := own1.frozenAt 2
    simp only [Nat.zero_mul, Nat.zero_add] at q0 q1 q2
    go_wp2
    refine bodyPost_ret (v := .agg #[.int .i64 0, .int .i64 0, .int .i64 0]) (by simp [results, Try.results22, go_sem, q0, q1, q2]) rfl ⟨by rw [N.out], ?_⟩
    exact ((hb1.setCell (by exact Nat.le_refl _) _).setCell (by exact Nat.le_refl _) _).setCell (by exact Nat.le_refl _) _
  go_wp2_with fail
  refine (RightsValid_any _ _).mono ?_; rintro e w' ⟨rfl, rfl⟩; rw [E2.out]
  cases t2
  · have N := Lib.hid (foR_no (ms := ms) (a := a) (r := r) (by rw [e2]; simp))
    clear h1 e1 e2 e3
    obtain ⟨_, _, _, _, q0, q1, q2⟩ := own3_at own1 (Nat.lt_succ_self 0)
    have f0 := own1.frozenAt 0
    have f1 := own1.frozenAt 1
    have f2 := own1.frozenAt 2
    simp only [Nat.zero_mul, Nat.zero_add] at q0 q1 q2
    go_wp2
    refine bodyPost_ret (v := .agg #[.int .i64 0, .int .i64 0, .int .i64 0]) (by simp [results, Try.results22, go_sem, q0, q1, q2]) rfl ⟨by rw [N.out], ?_⟩
    exact ((hb1.setCell (by exact Nat.le_refl _) _).setCell (by exact Nat.le_refl _) _).setCell (by exact Nat.le_refl _) _
  go_wp2_with fail
  refine (faultKind_any _ _ _ _ _ _ _ h1).mono ?_; rintro e w2 ⟨rfl, hb2⟩; rw [E3.out]
  have own2 := own1.below hb2
  by_cases h0 : fk = 0
  · have N := Lib.hid (foR_no (ms := ms) (a := a) (r := r) (by rw [e3, h0]; simp))
    subst h0
    clear h1 e1 e2 e3
    obtain ⟨_, _, _, _, q0, q1, q2⟩ := own3_at own2 (Nat.lt_succ_self 0)
    have f0 := own2.frozenAt 0
    have f1 := own2.frozenAt 1
    have f2 := own2.frozenAt 2
    simp only [Nat.zero_mul, Nat.zero_add] at q0 q1 q2
    go_wp2
    refine bodyPost_ret (v := .agg #[.int .i64 0, .int .i64 0, .int .i64 0]) (by simp [results, Try.results22, go_sem, q0, q1, q2]) rfl ⟨by rw [N.out], ?_⟩
    exact (((hb1.trans hb2).setCell (by exact Nat.le_refl _) _).setCell (by exact Nat.le_refl _) _).setCell (by exact Nat.le_refl _) _
  · have N := Lib.hid (foR_yes (ms := ms) (a := a) (r := r) (by rw [e1, e2, e3]; simp [h0]))
    have h0' : (fk == 0) = false := by simpa using h0
    clear h1 e1 e2 e3
    obtain ⟨_, _, _, _, q0, q1, q2⟩ := own3_at own2 (Nat.lt_succ_self 0)
    have f0 := own2.frozenAt 0
    have f1 := own2.frozenAt 1
    have f2 := own2.frozenAt 2
    simp only [Nat.zero_mul, Nat.zero_add] at q0 q1 q2
    go_wp2
    refine bodyPost_ret (v := .agg #[.int .i64 fk, .int .i64 a, .int .i64 r]) (by simp [results, Try.results22, go_sem, q0, q1, q2]) rfl ⟨by rw [N.out, E3.out], ?_⟩
    exact (((hb1.trans hb2).setCell (by exact Nat.le_refl _) _).setCell (by exact Nat.le_refl _) _).setCell (by exact Nat.le_refl _) _

set_option maxHeartbeats 1000000 in
theorem specFaultOf_any (A : Option Addr) (n c : Nat) (ms : List Mp) (a r : Int) (w : World) (h : Rd w 3 A n c (c3 ms)) :
    Calls Try.prog 21 #[.slice A n c, .int .i64 a, .int .i64 r] w fun e w' => e = .returned (.agg #[.int .i64 (foR ms a r).1, .int .i64 (foR ms a r).2.1, .int .i64 (foR ms a r).2.2]) ∧ Ext w w' := by
  obtain ⟨t1, e1⟩ : ∃ b, spValid ms = b := ⟨_, rfl⟩
  obtain ⟨t2, e2⟩ : ∃ b, inB r 0 15 = b := ⟨_, rfl⟩
  have E1 := Lib.hid e1
  have E2 := Lib.hid e2
  have hb0 : Ext w (w.alloc (.cells #[.int .i64 0, .int .i64 0, .int .i64 0] 32)) := (Below.refl _ _).alloc (Nat.le_refl _) _
  have own0 : Row (w.alloc (.cells #[.int .i64 0, .int .i64 0, .int .i64 0] 32)) w.heap.size 32 3 (.slice (some ⟨w.heap.size, 0, none⟩) 1 1) 1 (c3 [(0, 0, 0)]) := Row.lit (w := w) (n := 1) #[.int .i64 0, .int .i64 0, .int .i64 0] rfl (by unfold maxLen; omega) (Nat.le_refl _)
  replace h := h.below hb0
  go_enter Try.func21, Try.ntmps21
  go_wp2_with fail
  refine (specSpaceValid_any _ _ _ _ _ h).mono ?_; rintro e w1 ⟨rfl, hb1⟩; rw [E1.out]
  have h1 := h.below hb1
  have own1 := own0.below hb1
  replace hb1 := hb0.trans hb1
  clear h own0 hb0
  cases t1
  · have N := Lib.hid (foR_no (ms := ms) (a := a) (r := r) (by rw [e1]; rfl))
    clear h1 e1 e2
    obtain ⟨_, _, _, _, q0, q1, q2⟩ := own3_at own1 (Nat.lt_succ_self 0)
    have f0 := own1.frozenAt 0
    have f1 := own1.frozenAt 1
    have f2 := own1.frozenAt 2
    simp only [Nat.zero_mul, Nat.zero_add] at q0 q1 q2
    go_wp2
    refine bodyPost_ret (v := .agg #[.int .i64 0, .int .i64 0, .int .i64 0]) (by simp [results, Try.results21, go_sem, q0, q1, q2]) rfl ⟨by rw [N.out], ?_⟩
    exact ((hb1.setCell (by exact Nat.le_refl _) _).setCell (by exact Nat.le_refl _) _).setCell (by exact Nat.le_refl _) _
  go_wp2_with fail
  refine (specRightsValid_any _ _).mono ?_; rintro e w' ⟨rfl, rfl⟩; rw [E2.out]
  cases t2
  · have N := Lib.hid (foR_no (ms := ms) (a := a) (r := r) (by rw [e2]; simp))
    clear h1 e1 e2
    obtain ⟨_, _, _, _, q0, q1, q2⟩ := own3_at own1 (Nat.lt_succ_self 0)
    have f0 := own1.frozenAt 0
    have f1 := own1.frozenAt 1
    have f2 := own1.frozenAt 2
    simp only [Nat.zero_mul, Nat.zero_add] at q0 q1 q2
    go_wp2
    refine bodyPost_ret (v := .agg #[.int .i64 0, .int .i64 0, .int .i64 0]) (by simp [results, Try.results21, go_sem, q0, q1, q2]) rfl ⟨by rw [N.out], ?_⟩
    exact ((hb1.setCell (by exact Nat.le_refl _) _).setCell (by exact Nat.le_refl _) _).setCell (by exact Nat.le_refl _) _
  obtain ⟨tr, e3⟩ : ∃ b, trOf ms a r = b := ⟨_, rfl⟩
  have K := tr_fk (a := a) e1 e2
  rw [e3] at K
  have E3 := Lib.hid e3
  go_wp2_with fail
  refine (specTranslate_any _ _ _ _ _ _ _ h1).mono ?_; rintro e w2 ⟨rfl, hb2⟩; rw [E3.out]
  have h2 := h1.below hb2
  have own2 := own1.below hb2
  have hbb := hb1.trans hb2
  clear h1 own1 hb1 hb2 e3
  by_cases h0 : 0 ≤ tr
  · have N := Lib.hid (foR_no (ms := ms) (a := a) (r := r) (by rw [K.1 h0]; simp))
    clear h2 e1 e2 K
    obtain ⟨_, _, _, _, q0, q1, q2⟩ := own3_at own2 (Nat.lt_succ_self 0)
    have f0 := own2.frozenAt 0
    have f1 := own2.frozenAt 1
    have f2 := own2.frozenAt 2
    simp only [Nat.zero_mul, Nat.zero_add] at q0 q1 q2
    go_wp2
    refine bodyPost_ret (v := .agg #[.int .i64 0, .int .i64 0, .int .i64 0]) (by simp [results, Try.results21, go_sem, q0, q1, q2]) rfl ⟨by rw [N.out], ?_⟩
    exact ((hbb.setCell (by exact Nat.le_refl _) _).setCell (by exact Nat.le_refl _) _).setCell (by exact Nat.le_refl _) _
  have hne : ¬ fkOf ms a r = 0 := fun hz => h0 (K.2 hz)
  have N := Lib.hid (foR_yes (ms := ms) (a := a) (r := r) (by rw [e1, e2]; simp [hne]))
  obtain ⟨t4, e4⟩ : ∃ b, inB a 0 65535 = b := ⟨_, rfl⟩
  have E4 := Lib.hid e4
  obtain ⟨tz, e5⟩ : ∃ b, trOf ms a 0 = b := ⟨_, rfl⟩
  have E5 := Lib.hid e5
  have K2 := tr_fk (ms := ms) (a := a) (r := 0) e1 (by decide)
  rw [e5] at K2
  have hal : Ext w2 (w2.alloc (.cells #[.int .i64 1, .int .i64 a, .int .i64 r] 32)) := (Below.refl _ _).alloc (Nat.le_refl _) _
  have h3 := h2.below hal
  have ownF0 : Row (w2.alloc (.cells #[.int .i64 1, .int .i64 a, .int .i64 r] 32)) w2.heap.size 32 3 (.slice (some ⟨w2.heap.size, 0, none⟩) 1 1) 1 (c3 [(1, a, r)]) := Row.lit (w := w2) (n := 1) #[.int .i64 1, .int .i64 a, .int .i64 r] rfl (by unfold maxLen; omega) (Nat.le_refl _)
  have own3 := own2.below hal
  have hw2 : w.heap.size ≠ w2.heap.size := by have h5 : w.heap.size < w2.heap.size := (own2.lt _ rfl).2; omega
  have hbc := hbb.trans hal
  have c1 : (w2.alloc (.cells #[.int .i64 1, .int .i64 a, .int .i64 r] 32)).cell? ⟨w2.heap.size, 1, none⟩ = some (.int .i64 a) := by rw [World.cell?_alloc_new]; rfl
  have c2' : (w2.alloc (.cells #[.int .i64 1, .int .i64 a, .int .i64 r] 32)).cell? ⟨w2.heap.size, 2, none⟩ = some (.int .i64 r) := by rw [World.cell?_alloc_new]; rfl
  have c0 : (w2.alloc (.cells #[.int .i64 1, .int .i64 a, .int .i64 r] 32)).cell? ⟨w2.heap.size, 0, none⟩ = some (.int .i64 1) := by rw [World.cell?_alloc_new]; rfl
  have HK : Hid (fkOf ms a r = if t4 = true then (if 0 ≤ tz then 2 else 1) else 3) := by
    show fkOf ms a r = _
    cases t4 with
    | false => unfold fkOf; rw [e4]; rfl
    | true =>
      rw [if_pos rfl]
      by_cases hz : 0 ≤ tz
      · rw [if_pos hz]
        have := K2.1 hz
        rw [fk_zero] at this
        obtain ⟨_, m, hl, _⟩ := this
        have hc : covB r m.2.2 = false := by
          rw [← Bool.not_eq_true]; intro hc
          exact hne (fk_zero.2 ⟨e4, m, hl, hc⟩)
        unfold fkOf; rw [e4, if_pos rfl, hl]; simp [hc]
      · rw [if_neg hz]
        have hl : lookP (a / 256) ms = none := by
          cases hl : lookP (a / 256) ms with
          | none => rfl
          | some m =>
            have hm := (spFrom_mem (spValid_from e1) _ (look_mem hl).1).2.2
            exact absurd (K2.2 (fk_zero.2 ⟨e4, m, hl, cov_zero (by omega)⟩)) hz
        unfold fkOf; rw [e4, if_pos rfl, hl]
  clear e1 e2 K hne h2 e4 e5 K2 hal
  go_wp2_with fail
  refine (l1In_any _ _ _ _).mono ?_; rintro e w' ⟨rfl, rfl⟩; rw [E4.out]
  cases t4
  · have HK : Hid (fkOf ms a r = 3) := Lib.hid (by have := HK.out; simpa using this)
    clear h3
    have own3b : Row (w2.alloc (.cells #[.int .i64 3, .int .i64 a, .int .i64 r] 32)) w.heap.size 32 3 (.slice (some ⟨w.heap.size, 0, none⟩) 1 1) 1 (c3 [(0, 0, 0)]) := own2.below ((Below.refl _ _).alloc (Nat.le_refl _) _)
    obtain ⟨_, _, _, _, q0, q1, q2⟩ := own3_at own3b (Nat.lt_succ_self 0)
    have f0 := own3b.frozenAt 0
    have f1 := own3b.frozenAt 1
    have f2 := own3b.frozenAt 2
    simp only [Nat.zero_mul, Nat.zero_add] at q0 q1 q2
    go_wp2
    refine bodyPost_ret (v := .agg #[.int .i64 3, .int .i64 a, .int .i64 r]) (by simp [results, Try.results21, go_sem, q0, q1, q2, hw2, hw2.symm]) rfl ⟨by rw [N.out, HK.out], ?_⟩
    exact (((hbb.alloc hbb.size _).setCell (by exact Nat.le_refl _) _).setCell (by exact Nat.le_refl _) _).setCell (by exact Nat.le_refl _) _
  · go_wp2_with fail
    refine (specTranslate_any _ _ _ _ _ _ _ h3).mono ?_; rintro e w4 ⟨rfl, hb4⟩; rw [E5.out]
    have ownF := ownF0.below hb4
    have d0 : w4.cell? ⟨w2.heap.size, 0, none⟩ = some (.int .i64 1) := later_cell c0 ⟨w4, hb4⟩
    have d1 : w4.cell? ⟨w2.heap.size, 1, none⟩ = some (.int .i64 a) := later_cell c1 ⟨w4, hb4⟩
    have d2 : w4.cell? ⟨w2.heap.size, 2, none⟩ = some (.int .i64 r) := later_cell c2' ⟨w4, hb4⟩
    have e0 := ownF.frozenAt 0
    have own4 := own3.below hb4
    have hbd := hbc.trans hb4
    clear h3 own3 c0 c1 c2' hb4
    by_cases hz : 0 ≤ tz
    · have HK : Hid (fkOf ms a r = 2) := Lib.hid (by have := HK.out; rw [if_pos hz] at this; simpa using this)
      obtain ⟨_, _, _, _, q0, q1, q2⟩ := own3_at own4 (Nat.lt_succ_self 0)
      have f0 := own4.frozenAt 0
      have f1 := own4.frozenAt 1
      have f2 := own4.frozenAt 2
      simp only [Nat.zero_mul, Nat.zero_add] at q0 q1 q2
      go_wp2
      refine bodyPost_ret (v := .agg #[.int .i64 2, .int .i64 a, .int .i64 r]) (by simp [results, Try.results21, go_sem, q0, q1, q2, hw2, hw2.symm]) rfl ⟨by rw [N.out, HK.out], ?_⟩
      exact (((hbd.setCell (by exact hbb.size) _).setCell (by exact Nat.le_refl _) _).setCell (by exact Nat.le_refl _) _).setCell (by exact Nat.le_refl _) _
    · have HK : Hid (fkOf ms a r = 1) := Lib.hid (by have := HK.out; rw [if_neg hz] at this; simpa using this)
      obtain ⟨_, _, _, _, q0, q1, q2⟩ := own3_at own4 (Nat.lt_succ_self 0)
      have f0 := own4.frozenAt 0
      have f1 := own4.frozenAt 1
      have f2 := own4.frozenAt 2
      simp only [Nat.zero_mul, Nat.zero_add] at q0 q1 q2
      go_wp2
      refine bodyPost_ret (v := .agg #[.int .i64 1, .int .i64 a, .int .i64 r]) (by simp [results, Try.results21, go_sem, q0, q1, q2, hw2, hw2.symm]) rfl ⟨by rw [N.out, HK.out], ?_⟩
      exact (((hbd).setCell (by exact Nat.le_refl _) _).setCell (by exact Nat.le_refl _) _).setCell (by exact Nat.le_refl _) _
end Go.Proofs.Yteahiiflgiimnaa
