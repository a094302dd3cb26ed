/-
  A copy of a slice of mappings; whether an address space is valid, as the program and as the reference ask it.
-/
import Derived.Test.YteahiiflgiimnaaMpA
namespace Go.Proofs.Yteahiiflgiimnaa
open Go.RowKit

set_option maxHeartbeats 400000 in
theorem toMappingS_any (A : Option Addr) (n c : Nat) (ms : List (Int × Int × Int)) (w : World) (h : Rd w 3 A n c (c3 ms)) (hn : n ≤ 1048576) :
    Calls Try.prog 14 #[.slice A n c] w fun e w' => ∃ A' c', e = .returned (.slice A' n c') ∧ Row w' w.heap.size 76 3 (.slice A' n c') n (c3 ms) ∧ Ext w w' := by
  obtain ⟨i0, hi, hz0, hz1, hz2⟩ := info_parts Try.infoMp
  have HL := Lib.hid h.len3
  go_enter Try.func14, Try.ntmps14
  go_wp2_with (at_make; refine wpList_make_full _ rfl _ _ 28 rfl w.heap.size 76 i0 _ 3 Try.underlying28 hi hz0 hz1 .i64 .i64 _ _ n rfl rfl rfl rfl (by rw [hz2]; omega) (by unfold maxLen; omega) (Nat.le_refl _) ?_; intro w1 hown hg)
  have hb1 : Ext w w1 := (Below.refl _ _).grown hg (Nat.le_refl _) (by simp)
  rw [show (Value.agg #[.int .i64 0, .int .i64 0, .int .i64 0]).cells = #[.int .i64 0, .int .i64 0, .int .i64 0] from rfl, c3_replicate] at hown
  replace hown := Row.of_own hown
  clear hg
  go_loopw [4] (fun i wr => ∃ k : Nat, k ≤ n ∧ i = .int .i64 k ∧ Row wr w.heap.size 76 3 (.slice (some ⟨w.heap.size, 0, none⟩) n n) n (c3 (ms.take k ++ List.replicate (n - k) z3)) ∧ Ext w wr) (fun i _ => n - (intOf i).toNat)
  case atStart => exact ⟨0, Nat.zero_le _, rfl, by rw [fill_start]; exact hown, hb1⟩
  case round =>
    obtain ⟨k, hk, rfl, hown, hb⟩ := hrel
    by_cases hlt : k < n
    · obtain ⟨b, off, p, f, r, rfl, X, g0, g1, g2⟩ := (h.below hb).at3 hlt
      clear h
      have e := fill_step (z := z3) HL.out hlt X.out
      have E := Lib.hid e
      clear e X HL
      go_wp2_with ((go_at_call 50; refine (toMapping_any _ _ _ _).mono ?_; rintro e w2 ⟨rfl, hb2⟩); have own2 := hown.below hb2; obtain ⟨_, _, _, _, q0, q1, q2⟩ := own3_at own2 hlt; have f0 := own2.frozenAt (k * 3); have f1 := own2.frozenAt (k * 3 + 1); have f2 := own2.frozenAt (k * 3 + 2))
      go_roundw
      case rel => exact ⟨k + 1, by omega, by go_num, by rw [← E.out]; exact own3_set own2 hlt p f r, (((hb.trans hb2).setCell (by exact Nat.le_refl _) _).setCell (by exact Nat.le_refl _) _).setCell (by exact Nat.le_refl _) _⟩
      case measure => simp [intOf]; omega
    · obtain rfl : k = n := by omega
      rw [fill_end HL.out] at hown
      clear h HL
      go_wp2
      go_ret
      exact ⟨_, _, rfl, hown, hb⟩
/-- What a mapping must be: its page behind the last one, an object's number, some of two rights. -/
def mpOk (l : Int) (m : Int × Int × Int) : Bool := inB m.1 (l + 1) 255 && inB m.2.1 0 99 && inB m.2.2 1 3
/-- From a page on. -/
def spFrom : Int → List (Int × Int × Int) → Bool
  | _, [] => true
  | l, m :: r => mpOk l m && spFrom m.1 r
def spValid (ms : List (Int × Int × Int)) : Bool := spFrom (-1) ms && decide (ms.length ≤ 20)

set_option maxHeartbeats 400000 in
theorem SpaceValid_any (A : Option Addr) (n c : Nat) (ms : List (Int × Int × Int)) (w : World) (h : Rd w 3 A n c (c3 ms)) :
    Calls Try.prog 39 #[.slice A n c] w fun e w' => e = .returned (.bool (spValid ms)) ∧ Ext w w' := by
  have hle := h.le
  have htop := h.top
  have HL := Lib.hid h.len3
  go_enter Try.func39, Try.ntmps39
  go_wp2
  go_loopw [3, 8] (fun last i wr => ∃ (k : Nat) (l : Int), k ≤ n ∧ i = .int .i64 k ∧ last = .int .i64 l ∧ -1 ≤ l ∧ l ≤ 255 ∧ Ext w wr ∧ Hid (spFrom (-1) ms = spFrom l (ms.drop k))) (fun _ i _ => n - (intOf i).toNat)
  case atStart => exact ⟨0, -1, Nat.zero_le _, rfl, rfl, by omega, by omega, Below.refl _ _, rfl⟩
  case round =>
    obtain ⟨k, l, hk, rfl, rfl, hl0, hl1, hb, H⟩ := hrel
    by_cases hlt : k < n
    · obtain ⟨b, off, p, f, r, rfl, X, g0, g1, g2⟩ := (h.below hb).at3 hlt
      have e : spFrom (-1) ms = (mpOk l (p, f, r) && spFrom p (ms.drop (k + 1))) := by rw [H.out, drop_of_get X.out]; rfl
      have E := Lib.hid e
      clear h e H X HL
      go_wp2_with (first | ((go_at_call 72; refine (in_any _ _ _ _).mono ?_; rintro e w' ⟨rfl, rfl⟩)) | ((go_at_call 81; refine (isObject_any _ _).mono ?_; rintro e w' ⟨rfl, rfl⟩)))
      · go_ret
        exact ⟨ret_bool (by unfold spValid; rw [E.out]; simp_all [mpOk]), hb.alloc hb.size _⟩
      · have h1 : inB p (l + 1) 255 = true := by assumption
        have h2 : inB f 0 99 = true := by assumption
        have h3 : (!inB r 1 3) = false := by assumption
        have hp := inB_iff.1 h1
        have hm : mpOk l (p, f, r) = true := by simp_all [mpOk]
        go_roundw
        case rel => exact ⟨k + 1, p, by omega, by go_num, rfl, by omega, by omega, hb.alloc hb.size _, by rw [E.out, hm]; exact Bool.true_and _⟩
        case measure => simp [intOf]; omega
      · go_ret
        exact ⟨ret_bool (by unfold spValid; rw [E.out]; simp_all [mpOk]), hb.alloc hb.size _⟩
      · go_ret
        exact ⟨ret_bool (by unfold spValid; rw [E.out]; simp_all [mpOk]), hb.alloc hb.size _⟩
    · have e : spValid ms = decide ((n : Int) ≤ 20) := by
        unfold spValid
        rw [H.out, drop_all HL.out (by omega), HL.out]
        simp only [spFrom, Bool.true_and, decide_eq_decide]
        omega
      have E := Lib.hid e
      clear h e H HL
      go_wp2
      go_ret
      exact ⟨ret_bool E.out.symm, hb⟩

/-- The reference's way: an element against the one ahead of it. -/
def mpBad (prev : Option Int) (m : Int × Int × Int) : Bool :=
  !inB m.1 0 255 || (match prev with | some q => decide (m.1 ≤ q) | none => false) || !inB m.2.1 0 99 || !inB m.2.2 1 3
def spSeq : Option Int → List (Int × Int × Int) → Bool
  | _, [] => true
  | q, m :: r => !mpBad q m && spSeq (some m.1) r
theorem spSeq_from : ∀ (ms : List (Int × Int × Int)) (l : Int), -1 ≤ l → spSeq (if l = -1 then none else some l) ms = spFrom l ms
  | [], l, _ => rfl
  | m :: r, l, hl => by
    have e : mpBad (if l = -1 then none else some l) m = !mpOk l m := by
      by_cases h : l = -1
      · subst h; simp [mpBad, mpOk, Bool.or_assoc]
      · rw [if_neg h]
        unfold mpBad mpOk inB
        rw [Bool.eq_iff_iff]
        simp
        omega
    unfold spSeq spFrom
    rw [e, Bool.not_not]
    cases hm : mpOk l m
    · rfl
    · have hp : 0 ≤ m.1 := by
        have : inB m.1 (l + 1) 255 = true := by unfold mpOk at hm; simp only [Bool.and_eq_true] at hm; exact hm.1.1
        have := inB_iff.1 this; omega
      have ih := spSeq_from r m.1 (by omega)
      rw [if_neg (by omega)] at ih
      rw [ih]

theorem spValid_seq (ms : List (Int × Int × Int)) : spValid ms = (spSeq none ms && decide (ms.length ≤ 20)) := by
  unfold spValid; rw [← spSeq_from ms (-1) (by omega)]; rfl

set_option maxHeartbeats 1000000 in
theorem specSpaceValid_any (A : Option Addr) (n c : Nat) (ms : List (Int × Int × Int)) (w : World) (h : Rd w 3 A n c (c3 ms)) :
    Calls Try.prog 44 #[.slice A n c] w fun e w' => e = .returned (.bool (spValid ms)) ∧ Ext w w' := by
  have hle := h.le
  have htop := h.top
  have HL := Lib.hid h.len3
  go_enter Try.func44, Try.ntmps44
  go_wp2
  go_loopw [3] (fun i wr => ∃ (k : Nat) (q : Option Int), k ≤ n ∧ i = .int .i64 k ∧ Ext w wr ∧ Hid (spSeq none ms = spSeq q (ms.drop k)) ∧ (k = 0 → q = none) ∧ (0 < k → ∃ a b, Hid (ms[k - 1]? = some (a, b)) ∧ q = some a)) (fun i _ => n - (intOf i).toNat)
  case atStart => exact ⟨0, none, Nat.zero_le _, rfl, Below.refl _ _, rfl, fun _ => rfl, fun h => absurd h (by omega)⟩
  case round =>
    obtain ⟨k, q, hk, rfl, hb, H, hq0, hq1⟩ := hrel
    by_cases hlt : k < n
    · obtain ⟨b, off, p, f, r, rfl, X, g0, g1, g2⟩ := (h.below hb).at3 hlt
      have e : spSeq none ms = (!mpBad q (p, f, r) && spSeq (some p) (ms.drop (k + 1))) := by rw [H.out, drop_of_get X.out]; rfl
      have E := Lib.hid e
      have G0 := later_cell g0
      have G1 := later_cell g1
      have G2 := later_cell g2
      have Z : Hid (ms[k + 1 - 1]? = some (p, f, r)) := X
      clear e H HL g1 g2
      obtain ⟨t0, ht0⟩ : ∃ t, inB p 0 255 = t := ⟨_, rfl⟩
      obtain ⟨t1, ht1⟩ : ∃ t, inB f 0 99 = t := ⟨_, rfl⟩
      obtain ⟨t2, ht2⟩ : ∃ t, inB r 1 3 = t := ⟨_, rfl⟩
      by_cases hk0 : 0 < k
      · obtain ⟨a, bb, Y, rfl⟩ := hq1 hk0
        obtain ⟨b', off', p', f', r', hA, X', g0', _, _⟩ := (h.below hb).at3 (k := k - 1) (by omega)
        simp only [Option.some.injEq, Addr.mk.injEq, and_true] at hA
        obtain ⟨rfl, rfl⟩ := hA
        have hpa : p' = a := by have := X'.out.symm.trans Y.out; simp at this; exact this.1
        subst hpa
        have G0' := later_cell g0'
        clear h hq0 hq1 g0 g0' X X' Y
        obtain ⟨t3, ht3⟩ : ∃ t, decide (p ≤ p') = t := ⟨_, rfl⟩
        go_wp2
        (refine wp_region_later (by kernel_rfl) (by kernel_rfl) ?_; repeat (any_goals (first | (with_reducible refine wpQuiet_nil ?_; intro wq hq) | go_big_quiet_step (((go_at_call 46; with_reducible first | exact later_same _ (l1In_eq ht0) | exact later_same _ (l1In_eq ht1) | exact later_same _ (l1In_eq ht2)))) | (with_reducible show wpQuiet _ _ _ _ _ _; cases t0 <;> (try simp only [Bool.not_true, Bool.not_false])) | (with_reducible show wpQuiet _ _ _ _ _ _; cases t3 <;> (try simp only [Bool.not_true, Bool.not_false])) | (with_reducible show wpQuiet _ _ _ _ _ _; cases t1 <;> (try simp only [Bool.not_true, Bool.not_false])) | (with_reducible show wpQuiet _ _ _ _ _ _; cases t2 <;> (try simp only [Bool.not_true, Bool.not_false])))))
        all_goals go_wp2
        all_goals first
          | (go_ret; exact ⟨ret_bool (by rw [spValid_seq, E.out]; simp_all [mpBad]), hb.trans hq⟩)
          | (have hm : mpBad (some p') (p, f, r) = false := by simp_all [mpBad]
             go_roundw
             case rel => exact ⟨k + 1, some p, by omega, by go_num, hb.trans hq, by rw [E.out, hm]; exact Bool.true_and _, fun h => absurd h (by omega), fun _ => ⟨p, (f, r), Z, rfl⟩⟩
             case measure => simp [intOf]; omega)
      · obtain rfl := hq0 (by omega)
        have hkd : decide (0 < k) = false := by simpa using hk0
        clear h hq0 hq1 g0 X
        go_wp2
        (refine wp_region_later (by kernel_rfl) (by kernel_rfl) ?_; repeat (any_goals (first | (with_reducible refine wpQuiet_nil ?_; intro wq hq) | go_big_quiet_step (((go_at_call 46; with_reducible first | exact later_same _ (l1In_eq ht0) | exact later_same _ (l1In_eq ht1) | exact later_same _ (l1In_eq ht2)))) | (with_reducible show wpQuiet _ _ _ _ _ _; cases t0 <;> (try simp only [Bool.not_true, Bool.not_false])) | (with_reducible show wpQuiet _ _ _ _ _ _; cases t1 <;> (try simp only [Bool.not_true, Bool.not_false])) | (with_reducible show wpQuiet _ _ _ _ _ _; cases t2 <;> (try simp only [Bool.not_true, Bool.not_false])))))
        all_goals go_wp2
        all_goals first
          | (go_ret; exact ⟨ret_bool (by rw [spValid_seq, E.out]; simp_all [mpBad]), hb.trans hq⟩)
          | (have hm : mpBad none (p, f, r) = false := by simp_all [mpBad]
             go_roundw
             case rel => exact ⟨k + 1, some p, by omega, by go_num, hb.trans hq, by rw [E.out, hm]; exact Bool.true_and _, fun h => absurd h (by omega), fun _ => ⟨p, (f, r), Z, rfl⟩⟩
             case measure => simp [intOf]; omega)
    · have e : spValid ms = decide ((n : Int) ≤ 20) := by
        rw [spValid_seq, H.out, drop_all HL.out (by omega), HL.out]
        simp only [spSeq, Bool.true_and, decide_eq_decide]
        omega
      have E := Lib.hid e
      clear h e H HL hq0 hq1
      go_wp2
      go_ret
      exact ⟨ret_bool E.out.symm, hb⟩
end Go.Proofs.Yteahiiflgiimnaa
