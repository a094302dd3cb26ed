/-
  Whether a table of names is valid, as the program and as the reference ask it.
-/
import Derived.Test.YthjbafafkaoomaaNmB
namespace Go.Proofs.Ythjbafafkaoomaa
open Go.RowKit

theorem nSeq_step {ms : List Nm} {k : Nat} {o : Option ByteArray} {s : ByteArray} {p q : Int} (H : nSeq none ms = nSeq o (ms.drop k)) (X : ms[k]? = some (s, p, q)) :
    nSeq none ms = (nOk o (s, p, q) && nSeq (some s) (ms.drop (k + 1))) := by rw [H, drop_of_get X]; rfl
theorem nOk_none (s : ByteArray) (p q : Int) {t0 t1 : Bool} (h0 : textB s = t0) (h1 : inB p 0 15 = t1) : nOk none (s, p, q) = (t0 && t1) := by
  unfold nOk; rw [← h0, ← h1]; exact Bool.and_true _
theorem nOk_some (s' s : ByteArray) (p q : Int) {t0 t1 t3 : Bool} (h0 : textB s = t0) (h1 : inB p 0 15 = t1) (h3 : (Op.bytesLess s.toList s'.toList || s.toList == s'.toList) = t3) : nOk (some s') (s, p, q) = (t0 && t1 && !t3) := by
  rw [atMost_not] at h3
  unfold nOk; rw [← h0, ← h1, ← h3, Bool.not_not]

set_option maxHeartbeats 1000000 in
theorem specNamesValid_any (A : Option Addr) (n c : Nat) (ms : List Nm) (w : World) (h : Rd w 3 A n c (cN ms)) (hf : ∀ m ∈ ms, FitsN m) :
    Calls Try.prog 20 #[.slice A n c] w fun e w' => e = .returned (.bool (nmValid ms)) ∧ Ext w w' := by
  have hle := h.le
  have htop := h.top
  have HL := Lib.hid h.lenN
  go_enter Try.func20, Try.ntmps20
  go_wp2
  go_loopw [3] (fun i wr => ∃ (k : Nat) (o : Option ByteArray), k ≤ n ∧ i = .int .i64 k ∧ Ext w wr ∧ Hid (nSeq none ms = nSeq o (ms.drop k)) ∧ (k = 0 → o = none) ∧ (0 < k → ∃ a b, Hid (ms[k - 1]? = some (a, b)) ∧ o = some a)) (fun i _ => n - (intOf i).toNat)
  case atStart => exact ⟨0, none, Nat.zero_le _, rfl, Below.refl _ _, rfl, fun _ => rfl, fun h => absurd h (by omega)⟩
  case round =>
    obtain ⟨k, o, hk, rfl, hb, H, hq0, hq1⟩ := hrel
    by_cases hlt : k < n
    · obtain ⟨b, off, s, p, q, rfl, X, g0, g1, g2⟩ := (h.below hb).atN hlt
      have hfit : s.size ≤ 9223372036854775807 := hf _ (List.mem_of_getElem? X.out)
      have E := Lib.hid (nSeq_step H.out X.out)
      have G0 := later_cell g0
      have G1 := later_cell g1
      have Z : Hid (ms[k + 1 - 1]? = some (s, p, q)) := X
      obtain ⟨t0, ht0⟩ : ∃ t, textB s = t := ⟨_, rfl⟩
      obtain ⟨t1, ht1⟩ : ∃ t, inB p 0 15 = t := ⟨_, rfl⟩
      have hcall : ∀ nw : Later wr, Calls Try.prog 49 #[.string s] nw.out fun e w' => e = .returned (.bool t0) ∧ Ext nw.out w' := fun nw => by
        rw [← ht0]; exact l22Text_any s nw.out hfit
      clear H HL g1 g2
      by_cases hk0 : 0 < k
      · obtain ⟨a, bb, Y, rfl⟩ := hq1 hk0
        obtain ⟨b', off', s', p', q', hA, X', g0', _, _⟩ := (h.below hb).atN (k := k - 1) (by omega)
        simp only [Option.some.injEq, Addr.mk.injEq, and_true] at hA
        obtain ⟨rfl, rfl⟩ := hA
        have hpa : s' = a := by have := X'.out.symm.trans Y.out; simp at this; exact this.1
        subst hpa
        have G0' := later_cell g0'
        obtain ⟨t3, ht3⟩ : ∃ t, (Op.bytesLess s.toList s'.toList || s.toList == s'.toList) = t := ⟨_, rfl⟩
        have M := Lib.hid (nOk_some s' s p q ht0 ht1 ht3)
        have hge : (!Op.bytesLess s'.toList s.toList) = t3 := by rw [← ht3, atMost_not]; rfl
        clear h hq0 hq1 g0 g0' X X' Y
        go_wp2
        (refine wp_region_later (by kernel_rfl) (by kernel_rfl) ?_; repeat (any_goals (first | (with_reducible refine wpQuiet_nil ?_; intro wq hq) | go_big_quiet_step (((first | (go_at_call 49; exact later_of _ (hcall _)) | (go_at_call 42; exact later_same _ (l1In_eq ht1))))) | (with_reducible show wpQuiet _ _ _ _ _ _; cases t0 <;> (try simp only [Bool.not_true, Bool.not_false])) | (with_reducible show wpQuiet _ _ _ _ _ _; cases t3 <;> (try simp only [Bool.not_true, Bool.not_false])) | (with_reducible show wpQuiet _ _ _ _ _ _; cases t1 <;> (try simp only [Bool.not_true, Bool.not_false])))))
        all_goals go_wp2
        all_goals first
          | (go_ret; exact ⟨ret_bool (by unfold nmValid; rw [E.out, M.out]; simp_all), hb.trans hq⟩)
          | (have hm : nOk (some s') (s, p, q) = true := by rw [M.out]; simp_all
             go_roundw
             case rel => exact ⟨k + 1, some s, by omega, by go_num, hb.trans hq, by rw [E.out, hm]; exact Bool.true_and _, fun h => absurd h (by omega), fun _ => ⟨s, (p, q), Z, rfl⟩⟩
             case measure => simp [intOf]; omega)
      · obtain rfl := hq0 (by omega)
        have hkd : decide (0 < k) = false := by simpa using hk0
        have M := Lib.hid (nOk_none s p q ht0 ht1)
        clear h hq0 hq1 g0 X
        go_wp2
        (refine wp_region_later (by kernel_rfl) (by kernel_rfl) ?_; repeat (any_goals (first | (with_reducible refine wpQuiet_nil ?_; intro wq hq) | go_big_quiet_step (((first | (go_at_call 49; exact later_of _ (hcall _)) | (go_at_call 42; exact later_same _ (l1In_eq ht1))))) | (with_reducible show wpQuiet _ _ _ _ _ _; cases t0 <;> (try simp only [Bool.not_true, Bool.not_false])) | (with_reducible show wpQuiet _ _ _ _ _ _; cases t1 <;> (try simp only [Bool.not_true, Bool.not_false])))))
        all_goals go_wp2
        all_goals first
          | (go_ret; exact ⟨ret_bool (by unfold nmValid; rw [E.out, M.out]; simp_all), hb.trans hq⟩)
          | (have hm : nOk none (s, p, q) = true := by rw [M.out]; simp_all
             go_roundw
             case rel => exact ⟨k + 1, some s, by omega, by go_num, hb.trans hq, by rw [E.out, hm]; exact Bool.true_and _, fun h => absurd h (by omega), fun _ => ⟨s, (p, q), Z, rfl⟩⟩
             case measure => simp [intOf]; omega)
    · have e : nmValid ms = decide ((n : Int) ≤ 20) := by
        unfold nmValid
        rw [H.out, drop_all HL.out (by omega), HL.out]
        simp only [nSeq, Bool.true_and, decide_eq_decide]
        omega
      have E := Lib.hid e
      clear h e H HL hq0 hq1
      go_wp2
      go_ret
      exact ⟨ret_bool E.out.symm, hb⟩

set_option maxHeartbeats 1000000 in
theorem NamesValid_any (A : Option Addr) (n c : Nat) (ms : List Nm) (w : World) (h : Rd w 3 A n c (cN ms)) (hf : ∀ m ∈ ms, FitsN m) :
    Calls Try.prog 22 #[.slice A n c] w fun e w' => e = .returned (.bool (nmValid ms)) ∧ Ext w w' := by
  have hle := h.le
  have htop := h.top
  have HL := Lib.hid h.lenN
  go_enter Try.func22, Try.ntmps22
  go_wp2
  go_loopw [7] (fun i wr => ∃ (k : Nat) (o : Option ByteArray), k ≤ n ∧ i = .int .i64 k ∧ Ext w wr ∧ Hid (nSeq none ms = nSeq o (ms.drop k)) ∧ (k = 0 → o = none) ∧ (0 < k → ∃ a b, Hid (ms[k - 1]? = some (a, b)) ∧ o = some a)) (fun i _ => n - (intOf i).toNat)
  case atStart => exact ⟨0, none, Nat.zero_le _, rfl, Below.refl _ _, rfl, fun _ => rfl, fun h => absurd h (by omega)⟩
  case round =>
    obtain ⟨k, o, hk, rfl, hb0, H, hq0, hq1⟩ := hrel
    by_cases hlt : k < n
    · obtain ⟨b, off, s, p, q, rfl, X, g0, g1, g2⟩ := (h.below hb0).atN hlt
      have hfit : s.size ≤ 9223372036854775807 := hf _ (List.mem_of_getElem? X.out)
      have E := Lib.hid (nSeq_step H.out X.out)
      have Z : Hid (ms[k + 1 - 1]? = some (s, p, q)) := X
      have hb : Ext w (wr.alloc (.cells #[.string s, .int .i64 p, .int .i64 q] 67)) := hb0.alloc (hb0.size) _
      have G0 := later_cell (show (wr.alloc (.cells #[.string s, .int .i64 p, .int .i64 q] 67)).cell? ⟨wr.heap.size, 0, none⟩ = some (.string s) by rw [World.cell?_alloc_new]; rfl)
      have G1 := later_cell (show (wr.alloc (.cells #[.string s, .int .i64 p, .int .i64 q] 67)).cell? ⟨wr.heap.size, 1, none⟩ = some (.int .i64 p) by rw [World.cell?_alloc_new]; rfl)
      have G2 := later_cell (show (wr.alloc (.cells #[.string s, .int .i64 p, .int .i64 q] 67)).cell? ⟨wr.heap.size, 2, none⟩ = some (.int .i64 q) by rw [World.cell?_alloc_new]; rfl)
      obtain ⟨t0, ht0⟩ : ∃ t, textB s = t := ⟨_, rfl⟩
      obtain ⟨t1, ht1⟩ : ∃ t, inB p 0 15 = t := ⟨_, rfl⟩
      obtain ⟨t2, ht2⟩ : ∃ t, (t0 && t1) = t := ⟨_, rfl⟩
      have hcall : ∀ nw : Later (wr.alloc (.cells #[.string s, .int .i64 p, .int .i64 q] 67)), Calls Try.prog 51 #[.agg #[.string s, .int .i64 p, .int .i64 q]] nw.out fun e w' => e = .returned (.bool t2) ∧ Ext nw.out w' := fun nw => by
        rw [← ht2, ← ht0, ← ht1]; exact may_any s p q nw.out hfit
      clear H HL
      by_cases hk0 : 0 < k
      · obtain ⟨a, bb, Y, rfl⟩ := hq1 hk0
        obtain ⟨b', off', s', p', q', hA, X', g0', _, _⟩ := (h.below hb).atN (k := k - 1) (by omega)
        simp only [Option.some.injEq, Addr.mk.injEq, and_true] at hA
        obtain ⟨rfl, rfl⟩ := hA
        have hpa : s' = a := by have := X'.out.symm.trans Y.out; simp at this; exact this.1
        subst hpa
        have G0' := later_cell g0'
        obtain ⟨t3, ht3⟩ : ∃ t, (Op.bytesLess s.toList s'.toList || s.toList == s'.toList) = t := ⟨_, rfl⟩
        have M := Lib.hid (nOk_some s' s p q ht0 ht1 ht3)
        clear h hq0 hq1 g0' X X' Y ht0 ht1
        go_wp2
        (refine wp_region_later (by kernel_rfl) (by kernel_rfl) ?_; repeat (any_goals (first | (with_reducible refine wpQuiet_nil ?_; intro wq hq) | go_big_quiet_step (((go_at_call 51; exact later_of _ (hcall _)))) | (with_reducible show wpQuiet _ _ _ _ _ _; cases t2 <;> (try simp only [Bool.not_true, Bool.not_false])) | (with_reducible show wpQuiet _ _ _ _ _ _; cases t3 <;> (try simp only [Bool.not_true, Bool.not_false])))))
        all_goals go_wp2
        all_goals first
          | (go_ret; exact ⟨ret_bool (by unfold nmValid; rw [E.out, M.out]; simp_all), hb.trans hq⟩)
          | (have hm : nOk (some s') (s, p, q) = true := by rw [M.out]; simp_all
             go_roundw
             case rel => exact ⟨k + 1, some s, by omega, by go_num, hb.trans hq, by rw [E.out, hm]; exact Bool.true_and _, fun h => absurd h (by omega), fun _ => ⟨s, (p, q), Z, rfl⟩⟩
             case measure => simp [intOf]; omega)
      · obtain rfl := hq0 (by omega)
        have hkd : decide (0 < k) = false := by simpa using hk0
        have M := Lib.hid (nOk_none s p q ht0 ht1)
        clear h hq0 hq1 X ht0 ht1
        go_wp2
        (refine wp_region_later (by kernel_rfl) (by kernel_rfl) ?_; repeat (any_goals (first | (with_reducible refine wpQuiet_nil ?_; intro wq hq) | go_big_quiet_step (((go_at_call 51; exact later_of _ (hcall _)))) | (with_reducible show wpQuiet _ _ _ _ _ _; cases t2 <;> (try simp only [Bool.not_true, Bool.not_false])))))
        all_goals go_wp2
        all_goals first
          | (go_ret; exact ⟨ret_bool (by unfold nmValid; rw [E.out, M.out]; simp_all), hb.trans hq⟩)
          | (have hm : nOk none (s, p, q) = true := by rw [M.out]; simp_all
             go_roundw
             case rel => exact ⟨k + 1, some s, by omega, by go_num, hb.trans hq, by rw [E.out, hm]; exact Bool.true_and _, fun h => absurd h (by omega), fun _ => ⟨s, (p, q), Z, rfl⟩⟩
             case measure => simp [intOf]; omega)
    · have e : nmValid ms = decide ((n : Int) ≤ 20) := by
        unfold nmValid
        rw [H.out, drop_all HL.out (by omega), HL.out]
        simp only [nSeq, Bool.true_and, decide_eq_decide]
        omega
      have E := Lib.hid e
      clear h e H HL hq0 hq1
      go_wp2
      go_ret
      exact ⟨ret_bool E.out.symm, hb0⟩
end Go.Proofs.Ythjbafafkaoomaa
