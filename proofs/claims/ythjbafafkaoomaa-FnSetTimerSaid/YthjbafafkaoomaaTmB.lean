/-
  Whether timers are valid, as the program and as the reference ask it.
-/
import Derived.Test.YthjbafafkaoomaaTmA
import Derived.Test.YthjbafafkaoomaaIxTmA
namespace Go.Proofs.Ythjbafafkaoomaa
open Go.RowKit

abbrev Tm := Int × Int
/-- The test whose first place the program asks for. -/
def isT (t : Int) (x : Tm) : Bool := x.1 == t
/-- What a timer must be: a thread's number, the first one of that thread, not ahead of the last one. -/
def tOk (all : List Tm) (l : Int) (k : Nat) (m : Tm) : Bool := inB m.1 0 15 && (idxOr (isT m.1) all == (k : Int)) && inB m.2 l 100000
def tFrom (all : List Tm) : Int → Nat → List Tm → Bool
  | _, _, [] => true
  | l, k, m :: r => tOk all l k m && tFrom all m.2 (k + 1) r
def tmValid (ms : List Tm) : Bool := tFrom ms 0 0 ms && decide (ms.length ≤ 16)

theorem timerAtFn_any (x0 x1 t : Int) (pa : Addr) (w : World) (h : w.cell? pa = some (.int .i64 t)) :
    Calls Try.prog 62 #[.agg #[.int .i64 x0, .int .i64 x1], .pointer (some pa)] w fun e w' => e = .returned (.bool (isT t (x0, x1))) ∧ Ext w w' := by
  have hx : (w.alloc (.cells #[.int .i64 x0, .int .i64 x1] 39)).cell? pa = some (.int .i64 t) := (later_cell h ⟨_, (Below.refl _ _).alloc (Nat.le_refl _) _⟩)
  go_enter Try.func62, Try.ntmps62
  go_wp2
  go_ret
  exact ⟨rfl, (Below.refl _ _).alloc (Nat.le_refl _) _⟩

set_option maxHeartbeats 400000 in
theorem timerAt_any (A : Option Addr) (n c : Nat) (ms : List Tm) (t : Int) (w : World) (h : Rd w 2 A n c (c2 ms)) :
    Calls Try.prog 45 #[.slice A n c, .int .i64 t] w fun e w' => e = .returned (.int .i64 (idxOr (isT t) ms)) ∧ Ext w w' := by
  have hb0 : Ext w (w.alloc (.cells #[.int .i64 t] 3)) := (Below.refl _ _).alloc (Nat.le_refl _) _
  have hc0 : (w.alloc (.cells #[.int .i64 t] 3)).cell? ⟨w.heap.size, 0, none⟩ = some (.int .i64 t) := by rw [World.cell?_alloc_new]; rfl
  have hR := h.below hb0
  go_enter Try.func45, Try.ntmps45
  go_wp2_with fail
  refine (IndexTmA_any (isT t) _ _ _ _ _ _ hR (fun x0 x1 w1 hb1 => timerAtFn_any x0 x1 t _ w1 (later_cell hc0 ⟨w1, hb1⟩))).mono ?_; rintro e w2 ⟨rfl, hb2⟩
  go_wp2
  go_ret
  exact ⟨rfl, hb0.trans hb2⟩

set_option maxHeartbeats 1000000 in
theorem TimersValid_any (A : Option Addr) (n c : Nat) (ms : List Tm) (w : World) (h : Rd w 2 A n c (c2 ms)) :
    Calls Try.prog 17 #[.slice A n c] w fun e w' => e = .returned (.bool (tmValid ms)) ∧ Ext w w' := by
  have hle := h.le
  have htop := h.top
  have HL := Lib.hid h.len2
  go_enter Try.func17, Try.ntmps17
  go_wp2
  go_loopw [3, 8] (fun last i wr => ∃ (k : Nat) (l : Int), k ≤ n ∧ i = .int .i64 k ∧ last = .int .i64 l ∧ 0 ≤ l ∧ l ≤ 100000 ∧ Ext w wr ∧ Hid (tFrom ms 0 0 ms = tFrom ms l k (ms.drop k))) (fun _ i _ => n - (intOf i).toNat)
  case atStart => exact ⟨0, 0, Nat.zero_le _, rfl, rfl, by omega, by omega, Below.refl _ _, rfl⟩
  case round =>
    obtain ⟨k, l, hk, rfl, rfl, hl0, hl1, hb, H⟩ := hrel
    by_cases hlt : k < n
    · obtain ⟨b, off, p, f, hA, X, g0, g1⟩ := (h.below hb).at2 hlt
      have e : tFrom ms 0 0 ms = (tOk ms l k (p, f) && tFrom ms f (k + 1) (ms.drop (k + 1))) := by rw [H.out, drop_of_get X.out]; rfl
      have E := Lib.hid e
      have hx : Ext wr (wr.alloc (.cells #[.int .i64 p, .int .i64 f] 39)) := (Below.refl _ _).alloc (Nat.le_refl _) _
      have hR := (h.below hb).below hx
      obtain ⟨ix, hix⟩ : ∃ z, idxOr (isT p) ms = z := ⟨_, rfl⟩
      have HIX := Lib.hid hix
      subst hA
      clear h e H X HL hix
      obtain ⟨t0, ht0⟩ : ∃ t, inB p 0 15 = t := ⟨_, rfl⟩
      cases t0 with
      | false =>
        go_wp2_with ((go_at_call 44; refine (isThread_any _ _).mono ?_; rintro e w' ⟨rfl, rfl⟩; rw [ht0]))
        go_ret
        exact ⟨ret_bool (by unfold tmValid; rw [E.out]; simp [tOk, ht0]), hb.trans hx⟩
      | true =>
        go_wp2_with fail
        refine (isThread_any _ _).mono ?_; rintro e w' ⟨rfl, rfl⟩; rw [ht0]
        go_wp2_with fail
        refine (timerAt_any _ _ _ _ _ _ hR).mono ?_; rintro e w2 ⟨rfl, hb2⟩; rw [HIX.out]
        have q0 : w2.cell? ⟨wr.heap.size, 0, none⟩ = some (.int .i64 p) := later_cell (by rw [World.cell?_alloc_new]; rfl) ⟨w2, hb2⟩
        have q1 : w2.cell? ⟨wr.heap.size, 1, none⟩ = some (.int .i64 f) := later_cell (by rw [World.cell?_alloc_new]; rfl) ⟨w2, hb2⟩
        have hbb := (hb.trans hx).trans hb2
        clear hb2 hR hx hb
        go_wp2_with ((go_at_call 46; refine (in_any _ _ _ _).mono ?_; rintro e w' ⟨rfl, rfl⟩))
        all_goals first
          | (go_ret
             exact ⟨ret_bool (by unfold tmValid; rw [E.out]; simp_all [tOk, HIX.out]), hbb⟩)
          | (have h1 : (!inB f l 100000) = false := by assumption
             have h2 := inB_iff.1 (by simpa using h1 : inB f l 100000 = true)
             have hm : tOk ms l k (p, f) = true := by simp_all [tOk, HIX.out]
             go_roundw
             case rel => exact ⟨k + 1, f, by omega, by go_num, rfl, by omega, by omega, hbb, by rw [E.out, hm]; exact Bool.true_and _⟩
             case measure => simp [intOf]; omega)
    · have e : tmValid ms = decide ((n : Int) ≤ 16) := by
        unfold tmValid
        rw [H.out, drop_all HL.out (by omega), HL.out]
        simp only [tFrom, Bool.true_and, decide_eq_decide]
        omega
      have E := Lib.hid e
      clear h e H HL
      go_wp2
      go_ret
      exact ⟨ret_bool E.out.symm, hb⟩

/-- The reference's way: an element against the one ahead of it, and against all ahead. -/
def tBad (q : Option Int) (m : Tm) : Bool := !inB m.1 0 15 || !inB m.2 0 100000 || (match q with | some a => decide (m.2 < a) | none => false)
def tSeq : Option Int → List Tm → List Tm → Bool
  | _, _, [] => true
  | q, b, m :: r => !tBad q m && !(b.any (isT m.1)) && tSeq (some m.2) (b ++ [m]) r
theorem idx_first (m : Tm) (r : List Tm) : ∀ b : List Tm, (idxOr (isT m.1) (b ++ m :: r) == (b.length : Int)) = !(b.any (isT m.1))
  | [] => by simp [idxOr, isT]
  | x :: b => by
    have ih := idx_first m r b
    have hg := idxOr_ge (isT m.1) (b ++ m :: r)
    show ((if isT m.1 x then 0 else shiftIx 1 (idxOr (isT m.1) (b ++ m :: r))) == _) = _
    rw [List.any_cons, List.length_cons]
    cases hx : isT m.1 x with
    | true => simp; omega
    | false =>
      simp only [Bool.false_or, Bool.false_eq_true, if_false]
      rw [← ih]
      unfold shiftIx
      rw [Bool.eq_iff_iff]
      simp only [beq_iff_eq]
      split <;> omega
theorem tSeq_from : ∀ (r b : List Tm) (q : Option Int) (l : Int), (q = none → l = 0) → (∀ a, q = some a → l = a ∧ 0 ≤ a) → tSeq q b r = tFrom (b ++ r) l b.length r
  | [], _, _, _, _, _ => rfl
  | m :: r, b, q, l, h0, h1 => by
    have hi := idx_first m r b
    have e : (!tBad q m && !(b.any (isT m.1))) = tOk (b ++ m :: r) l b.length m := by
      unfold tOk tBad
      rw [hi]
      cases q with
      | none =>
        obtain rfl := h0 rfl
        cases inB m.1 0 15 <;> cases inB m.2 0 100000 <;> cases b.any (isT m.1) <;> rfl
      | some a =>
        obtain ⟨rfl, ha⟩ := h1 a rfl
        have e2 : (inB m.2 0 100000 && !decide (m.2 < l)) = inB m.2 l 100000 := by unfold inB; rw [Bool.eq_iff_iff]; simp; omega
        rw [← e2]
        cases inB m.1 0 15 <;> cases inB m.2 0 100000 <;> cases b.any (isT m.1) <;> simp
    show (_ && tSeq _ _ r) = (_ && tFrom _ _ _ r)
    rw [e]
    cases hm : tOk (b ++ m :: r) l b.length m with
    | false => rfl
    | true =>
      have hp : 0 ≤ m.2 := by
        unfold tOk at hm; simp only [Bool.and_eq_true] at hm
        have h3 := inB_iff.1 hm.2
        have hl : 0 ≤ l := by
          cases q with
          | none => have := h0 rfl; omega
          | some a => obtain ⟨h4, h5⟩ := h1 a rfl; omega
        omega
      have ih := tSeq_from r (b ++ [m]) (some m.2) m.2 (fun h => by cases h) (fun a h => by cases h; exact ⟨rfl, hp⟩)
      rw [ih, List.append_assoc, List.length_append]; rfl
theorem tmValid_seq (ms : List Tm) : tmValid ms = (tSeq none [] ms && decide (ms.length ≤ 16)) := by
  unfold tmValid; rw [tSeq_from ms [] none 0 (fun _ => rfl) (fun a h => by cases h)]; rfl

set_option maxHeartbeats 2000000 in
theorem specTimersValid_any (A : Option Addr) (n c : Nat) (ms : List Tm) (w : World) (h : Rd w 2 A n c (c2 ms)) :
    Calls Try.prog 15 #[.slice A n c] w fun e w' => e = .returned (.bool (tmValid ms)) ∧ Ext w w' := by
  have hle := h.le
  have htop := h.top
  have HL := Lib.hid h.len2
  go_enter Try.func15, Try.ntmps15
  go_wp2
  go_loopw [3] (fun i wr => ∃ (k : Nat) (q : Option Int), k ≤ n ∧ i = .int .i64 k ∧ Ext w wr ∧ Hid (tSeq none [] ms = tSeq q (ms.take k) (ms.drop k)) ∧ (k = 0 → q = none) ∧ (0 < k → ∃ a b, Hid (ms[k - 1]? = some (a, b)) ∧ q = some b)) (fun i _ => n - (intOf i).toNat)
  case atStart => exact ⟨0, none, Nat.zero_le _, rfl, Below.refl _ _, rfl, fun _ => rfl, fun h => absurd h (by omega)⟩
  case round =>
    obtain ⟨k, q, hk, rfl, hb, H, hq0, hq1⟩ := hrel
    by_cases hlt : k < n
    · obtain ⟨b, off, p, f, rfl, X, g0, g1⟩ := (h.below hb).at2 hlt
      have e : tSeq none [] ms = (!tBad q (p, f) && !((ms.take k).any (isT p)) && tSeq (some f) (ms.take (k + 1)) (ms.drop (k + 1))) := by rw [H.out, drop_of_get X.out, take_of_get X.out]; rfl
      have E := Lib.hid e
      have G0 := later_cell g0
      have G1 := later_cell g1
      have Z : Hid (ms[k + 1 - 1]? = some (p, f)) := X
      clear e H g0 g1
      obtain ⟨t0, ht0⟩ : ∃ t, inB p 0 15 = t := ⟨_, rfl⟩
      obtain ⟨t1, ht1⟩ : ∃ t, inB f 0 100000 = t := ⟨_, rfl⟩
      have inner : ∀ wq, Ext w wq → tBad q (p, f) = false → True := fun _ _ _ => trivial
      clear inner
      by_cases hk0 : 0 < k
      · obtain ⟨a, bb, Y, rfl⟩ := hq1 hk0
        obtain ⟨b', off', p', f', hA, X', g0', g1'⟩ := (h.below hb).at2 (k := k - 1) (by omega)
        simp only [Option.some.injEq, Addr.mk.injEq, and_true] at hA
        obtain ⟨rfl, rfl⟩ := hA
        have hpa : f' = bb := by have := X'.out.symm.trans Y.out; simp at this; exact this.2
        subst hpa
        have G1' := later_cell g1'
        clear hq0 hq1 g0' g1' X' Y
        obtain ⟨t3, ht3⟩ : ∃ t, decide (f < f') = t := ⟨_, rfl⟩
        go_wp2
        (refine wp_region_later (by kernel_rfl) (by kernel_rfl) ?_; repeat (any_goals (first | (with_reducible refine wpQuiet_nil ?_; intro wq hq) | go_big_quiet_step (((go_at_call 42; with_reducible first | exact later_same _ (l1In_eq ht0) | exact later_same _ (l1In_eq ht1)))) | (with_reducible show wpQuiet _ _ _ _ _ _; cases t0 <;> (try simp only [Bool.not_true, Bool.not_false])) | (with_reducible show wpQuiet _ _ _ _ _ _; cases t1 <;> (try simp only [Bool.not_true, Bool.not_false])) | (with_reducible show wpQuiet _ _ _ _ _ _; cases t3 <;> (try simp only [Bool.not_true, Bool.not_false])))))
        all_goals go_wp2
        all_goals first
          | (go_ret; exact ⟨ret_bool (by rw [tmValid_seq, E.out]; simp_all [tBad]), hb.trans hq⟩)
          | (have hx := hb.trans hq
             have hm : tBad (some f') (p, f) = false := by simp_all [tBad]
             have HM := Lib.hid hm
             clear hb hq hm G0 G1 ht0 ht1 G1' ht3
             go_loopw [4] (fun j wi => ∃ i : Nat, i ≤ k ∧ j = .int .i64 i ∧ Ext w wi ∧ Hid ((ms.take k).any (isT p) = ((ms.take k).drop i).any (isT p))) (fun j _ => k - (intOf j).toNat)
             case atStart => exact ⟨0, Nat.zero_le _, rfl, hx, rfl⟩
             case round =>
               obtain ⟨i, hi, rfl, hb2, HI⟩ := hrel
               by_cases hil : i < k
               · obtain ⟨b2, off2, p2, f2, hA, X2, g2, _⟩ := (h.below hb2).at2 (k := i) (by omega)
                 obtain ⟨b3, off3, p3, f3, hA3, X3, g3, _⟩ := (h.below hb2).at2 (k := k) hlt
                 simp only [Option.some.injEq, Addr.mk.injEq, and_true] at hA hA3
                 obtain ⟨rfl, rfl⟩ := hA
                 obtain ⟨rfl, rfl⟩ := hA3
                 have hpp : p3 = p := by have := X3.out.symm.trans X.out; simp at this; exact this.1
                 subst hpp
                 have hget : (ms.take k)[i]? = some (p2, f2) := by rw [List.getElem?_take, if_pos hil]; exact X2.out
                 have e2 : (ms.take k).any (isT p3) = (isT p3 (p2, f2) || ((ms.take k).drop (i + 1)).any (isT p3)) := by rw [HI.out, drop_of_get hget]; rfl
                 have E2 := Lib.hid e2
                 have L2 := later_cell g2
                 have L3 := later_cell g3
                 clear e2 hget HI X2 X3 g2 g3 X HL
                 by_cases hp : p2 = p3
                 · have hpt : (p2 == p3) = true := by simpa using hp
                   subst hp
                   go_wp2
                   (refine wp_region_later (by kernel_rfl) (by kernel_rfl) ?_; repeat (any_goals (first | (with_reducible refine wpQuiet_nil ?_; intro wq hq) | go_big_quiet_step ((fail)))))
                   go_wp2
                   go_ret
                   exact ⟨ret_bool (by rw [tmValid_seq, E.out, E2.out]; simp [isT]), hb2.trans hq⟩
                 · have hpf : (p2 == p3) = false := by simpa using hp
                   have E3 : Hid ((ms.take k).any (isT p3) = ((ms.take k).drop (i + 1)).any (isT p3)) := by rw [E2.out]; unfold isT; rw [hpf]; exact Bool.false_or _
                   go_wp2
                   (refine wp_region_later (by kernel_rfl) (by kernel_rfl) ?_; repeat (any_goals (first | (with_reducible refine wpQuiet_nil ?_; intro wq hq) | go_big_quiet_step ((fail)))))
                   go_wp2
                   go_roundw
                   case rel => exact ⟨i + 1, by omega, by go_num, hb2.trans hq, E3⟩
                   case measure => simp [intOf]; omega
               · obtain rfl : i = k := by omega
                 have e3 : tSeq none [] ms = tSeq (some f) (ms.take (i + 1)) (ms.drop (i + 1)) := by
                   rw [E.out, HM.out, HI.out, List.drop_eq_nil_of_le (by simp; omega)]; rfl
                 have E3 := Lib.hid e3
                 clear e3 HI E HM X HL h
                 go_wp2
                 go_roundw
                 case rel => exact ⟨i + 1, some f, by omega, by go_num, hb2, E3, fun h => absurd h (by omega), fun _ => ⟨p, f, Z, rfl⟩⟩
                 case measure => simp [intOf]; omega)
      · obtain rfl := hq0 (by omega)
        have hkd : decide (0 < k) = false := by simpa using hk0
        clear hq0 hq1
        go_wp2
        (refine wp_region_later (by kernel_rfl) (by kernel_rfl) ?_; repeat (any_goals (first | (with_reducible refine wpQuiet_nil ?_; intro wq hq) | go_big_quiet_step (((go_at_call 42; with_reducible first | exact later_same _ (l1In_eq ht0) | exact later_same _ (l1In_eq ht1)))) | (with_reducible show wpQuiet _ _ _ _ _ _; cases t0 <;> (try simp only [Bool.not_true, Bool.not_false])) | (with_reducible show wpQuiet _ _ _ _ _ _; cases t1 <;> (try simp only [Bool.not_true, Bool.not_false])))))
        all_goals go_wp2
        all_goals first
          | (go_ret; exact ⟨ret_bool (by rw [tmValid_seq, E.out]; simp_all [tBad]), hb.trans hq⟩)
          | (have hx := hb.trans hq
             have hm : tBad none (p, f) = false := by simp_all [tBad]
             have HM := Lib.hid hm
             clear hb hq hm G0 G1 ht0 ht1 hkd
             go_loopw [4] (fun j wi => ∃ i : Nat, i ≤ k ∧ j = .int .i64 i ∧ Ext w wi ∧ Hid ((ms.take k).any (isT p) = ((ms.take k).drop i).any (isT p))) (fun j _ => k - (intOf j).toNat)
             case atStart => exact ⟨0, Nat.zero_le _, rfl, hx, rfl⟩
             case round =>
               obtain ⟨i, hi, rfl, hb2, HI⟩ := hrel
               by_cases hil : i < k
               · exact absurd (Nat.lt_of_le_of_lt (Nat.zero_le i) hil) hk0
               · obtain rfl : i = k := by omega
                 have e3 : tSeq none [] ms = tSeq (some f) (ms.take (i + 1)) (ms.drop (i + 1)) := by
                   rw [E.out, HM.out, HI.out, List.drop_eq_nil_of_le (by simp; omega)]; rfl
                 have E3 := Lib.hid e3
                 clear e3 HI E HM X HL h
                 go_wp2
                 go_roundw
                 case rel => exact ⟨i + 1, some f, by omega, by go_num, hb2, E3, fun h => absurd h (by omega), fun _ => ⟨p, f, Z, rfl⟩⟩
                 case measure => simp [intOf]; omega)
    · have e : tmValid ms = decide ((n : Int) ≤ 16) := by
        rw [tmValid_seq, H.out, drop_all HL.out (by omega), HL.out]
        simp only [tSeq, Bool.true_and, decide_eq_decide]
        omega
      have E := Lib.hid e
      clear h e H HL hq0 hq1
      go_wp2
      go_ret
      exact ⟨ret_bool E.out.symm, hb⟩
end Go.Proofs.Ythjbafafkaoomaa
