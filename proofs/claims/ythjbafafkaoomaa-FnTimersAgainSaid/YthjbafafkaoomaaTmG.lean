/-
  Timers alike, as the laws ask it; what is true of valid timers.
-/
import Derived.Test.YthjbafafkaoomaaTmF
import Derived.OpenShut
namespace Go.Proofs.Ythjbafafkaoomaa
open Go.RowKit

theorem bytes_of {zs : List Int} (h : ∀ z ∈ zs, (Lit.int .u8 z).wf = true) : ∃ bs : List UInt8, zs.map (Value.int .u8) = cU bs := by
  refine ⟨zs.map fun z => UInt8.ofNat z.toNat, ?_⟩
  unfold cU
  rw [List.map_map]
  refine List.map_congr_left fun z hz => ?_
  have h2 := bounds_u8 (h z hz)
  show Value.int .u8 z = Value.int .u8 ((UInt8.ofNat z.toNat).toNat : Int)
  rw [UInt8.toNat_ofNat']
  congr 1
  omega

set_option maxHeartbeats 400000 in
theorem sameTimers_any (A A' : Option Addr) (n c n' c' : Nat) (ms ms' : List (Int × Int)) (w : World) (h : Rd w 2 A n c (c2 ms)) (h' : Rd w 2 A' n' c' (c2 ms')) :
    Calls Try.prog 36 #[.slice A n c, .slice A' n' c'] w fun e w' => e = .returned (.bool (eqTms ms ms')) ∧ Ext w w' := by
  have hl := h.len2
  have hl' := h'.len2
  have hle := h.le
  have htop := h.top
  by_cases hnn : n = n'
  · have HL := Lib.hid hl
    have HL' := Lib.hid hl'
    clear hl hl'
    subst hnn
    go_enter Try.func36, Try.ntmps36
    go_wp2
    go_loopw [5] (fun i wr => ∃ k : Nat, k ≤ n ∧ i = .int .i64 k ∧ Ext w wr ∧ Hid (eqTms ms ms' = eqTms (ms.drop k) (ms'.drop k))) (fun i _ => n - (intOf i).toNat)
    case atStart => exact ⟨0, Nat.zero_le _, rfl, Below.refl _ _, rfl⟩
    case round =>
      obtain ⟨k, hk, rfl, hb, H⟩ := hrel
      by_cases hlt : k < n
      · obtain ⟨b, off, x0, x1, rfl, X, g0, g1⟩ := (h.below hb).at2 hlt
        obtain ⟨b', off', y0, y1, rfl, X', g0', g1'⟩ := (h'.below hb).at2 hlt
        clear h h'
        have G0 := later_cell g0
        have G1 := later_cell g1
        have G0' := later_cell g0'
        have G1' := later_cell g1'
        have hd : eqTms ms ms' = (eqTm (x0, x1) (y0, y1) && eqTms (ms.drop (k + 1)) (ms'.drop (k + 1))) := by rw [H.out, drop_of_get X.out, drop_of_get X'.out]; rfl
        have HD := Lib.hid hd
        clear hd H X X' HL HL'
        by_cases h0 : x0 = y0
        · subst h0
          by_cases h1 : x1 = y1
          · subst h1
            have ht : eqTm (x0, x1) (x0, x1) = true := eqTm_self _
            go_wp2
            (refine wp_region_later (by kernel_rfl) (by kernel_rfl) ?_; repeat (any_goals (first | (with_reducible refine wpQuiet_nil ?_; intro wq hq) | go_big_quiet_step ((fail)))))
            go_wp2
            go_roundw
            case rel => exact ⟨k + 1, by omega, by go_num, hb.trans hq, by rw [HD.out, ht]; exact Bool.true_and _⟩
            case measure => simp [intOf]; omega
          · have e1 : (x1 == y1) = false := by rw [beq_eq_false_iff_ne]; exact h1
            have ht : eqTm (x0, x1) (x0, y1) = false := by unfold eqTm; simp [h1]
            go_wp2
            (refine wp_region_later (by kernel_rfl) (by kernel_rfl) ?_; repeat (any_goals (first | (with_reducible refine wpQuiet_nil ?_; intro wq hq) | go_big_quiet_step ((fail)))))
            go_wp2
            go_ret
            exact ⟨ret_bool (by rw [HD.out, ht]; rfl), hb.trans hq⟩
        · have e0 : (x0 == y0) = false := by rw [beq_eq_false_iff_ne]; exact h0
          have ht : eqTm (x0, x1) (y0, y1) = false := by unfold eqTm; simp [h0]
          go_wp2
          (refine wp_region_later (by kernel_rfl) (by kernel_rfl) ?_; repeat (any_goals (first | (with_reducible refine wpQuiet_nil ?_; intro wq hq) | go_big_quiet_step ((fail)))))
          go_wp2
          go_ret
          exact ⟨ret_bool (by rw [HD.out, ht]; rfl), hb.trans hq⟩
      · have e : eqTms ms ms' = true := by rw [H.out, drop_all HL.out (by omega), drop_all HL'.out (by omega)]; rfl
        have E := Lib.hid e
        clear e h h'
        go_wp2
        go_ret
        exact ⟨ret_bool E.out.symm, hb⟩
  · have e := eqTms_len (a := ms) (b := ms') (by omega)
    have E := Lib.hid e
    clear e hl hl'
    go_enter Try.func36, Try.ntmps36
    go_wp2
    go_ret
    exact ⟨ret_bool E.out.symm, Below.refl _ _⟩

theorem tSeq_take : ∀ (r b : List Tm) (q : Option Int) (k : Nat), tSeq q b r = true → tSeq q b (r.take k) = true
  | [], _, _, _, _ => by simp [tSeq]
  | _ :: _, _, _, 0, _ => rfl
  | m :: r, b, q, k + 1, h => by
    simp only [tSeq, Bool.and_eq_true] at h
    show (!tBad q m && !(b.any (isT m.1)) && tSeq (some m.2) (b ++ [m]) (r.take k)) = true
    simp only [Bool.and_eq_true]
    exact ⟨h.1, tSeq_take r _ _ k h.2⟩
theorem tmValid_take {ms : List Tm} (h : tmValid ms = true) (k : Nat) : tmValid (ms.take k) = true := by
  rw [tmValid_seq] at h ⊢
  simp only [Bool.and_eq_true, decide_eq_true_eq] at h ⊢
  exact ⟨tSeq_take ms [] none k h.1, by rw [List.length_take]; omega⟩
theorem tSeq_bad : ∀ (r b : List Tm) (q : Option Int), tSeq q b (r ++ [(14, 9), (15, 8)]) = false
  | [], b, q => by
    show (!tBad q (14, 9) && !(b.any (isT 14)) && (!tBad (some 9) (15, 8) && !((b ++ [(14, 9)]).any (isT 15)) && true)) = false
    have : tBad (some 9) (15, 8) = true := by decide
    rw [this]; simp
  | m :: r, b, q => by
    show (!tBad q m && !(b.any (isT m.1)) && tSeq (some m.2) (b ++ [m]) (r ++ [(14, 9), (15, 8)])) = false
    rw [tSeq_bad r]; simp
theorem tmValid_bad (ms : List Tm) : tmValid (ms ++ [(14, 9), (15, 8)]) = false := by
  rw [tmValid_seq, tSeq_bad]; rfl
/-- A part of valid timers, in their order, is valid. -/
theorem tSeq_filter (p : Tm → Bool) : ∀ (r b b' : List Tm) (q q' : Option Int), (∀ x, b'.any (isT x) = true → b.any (isT x) = true) → (∀ a', q' = some a' → ∃ a, q = some a ∧ a' ≤ a) → tSeq q b r = true → tSeq q' b' (r.filter p) = true
  | [], _, _, _, _, _, _, _ => by simp [tSeq]
  | m :: r, b, b', q, q', hb, hq, h => by
    simp only [tSeq, Bool.and_eq_true, Bool.not_eq_true'] at h
    obtain ⟨⟨h1, h2⟩, h3⟩ := h
    have hbad : tBad q' m = false := by
      unfold tBad at h1 ⊢
      simp only [Bool.or_eq_false_iff, Bool.not_eq_false'] at h1 ⊢
      refine ⟨h1.1, ?_⟩
      cases q' with
      | none => rfl
      | some a' =>
        obtain ⟨a, rfl, hle⟩ := hq a' rfl
        have := h1.2
        simp only [decide_eq_false_iff_not] at this ⊢
        omega
    rw [List.filter_cons]
    split
    · show (!tBad q' m && !(b'.any (isT m.1)) && tSeq (some m.2) (b' ++ [m]) (r.filter p)) = true
      simp only [Bool.and_eq_true, Bool.not_eq_true']
      refine ⟨⟨hbad, ?_⟩, tSeq_filter p r (b ++ [m]) (b' ++ [m]) (some m.2) (some m.2) ?_ (fun a' e => by cases e; exact ⟨m.2, rfl, Int.le_refl _⟩) h3⟩
      · cases hx : b'.any (isT m.1)
        · rfl
        · rw [hb _ hx] at h2; cases h2
      · intro x hx
        rw [List.any_append] at hx ⊢
        simp only [Bool.or_eq_true] at hx ⊢
        exact hx.imp (hb x) id
    · refine tSeq_filter p r (b ++ [m]) b' (some m.2) q' ?_ ?_ h3
      · intro x hx; rw [List.any_append, hb x hx]; rfl
      · intro a' e
        refine ⟨m.2, rfl, ?_⟩
        subst e
        unfold tBad at hbad
        simp only [Bool.or_eq_false_iff, decide_eq_false_iff_not] at hbad
        omega
theorem tmValid_filter {ms : List Tm} (h : tmValid ms = true) (p : Tm → Bool) : tmValid (ms.filter p) = true := by
  rw [tmValid_seq] at h ⊢
  simp only [Bool.and_eq_true, decide_eq_true_eq] at h ⊢
  exact ⟨tSeq_filter p ms [] [] none none (fun _ h => h) (fun _ e => by cases e) h.1, Nat.le_trans (List.length_filter_le _ _) h.2⟩
/-- A thread has one timer at most. -/
theorem tSeq_one : ∀ (r b : List Tm) (q : Option Int) (t : Int), tSeq q b r = true → (r.filter (isT t)).length + (if b.any (isT t) = true then 1 else 0) ≤ 1
  | [], b, _, t, _ => by simp; split <;> omega
  | m :: r, b, q, t, h => by
    simp only [tSeq, Bool.and_eq_true, Bool.not_eq_true'] at h
    obtain ⟨⟨_, h2⟩, h3⟩ := h
    have ih := tSeq_one r (b ++ [m]) (some m.2) t h3
    rw [List.any_append] at ih
    rw [List.filter_cons]
    by_cases hm : isT t m = true
    · have hmt : m.1 = t := by simpa [isT] using hm
      rw [hmt] at h2
      have e : [m].any (isT t) = true := by simp [hm]
      rw [e, Bool.or_true, if_pos rfl] at ih
      rw [if_pos hm, List.length_cons, h2, if_neg Bool.false_ne_true]
      omega
    · have hm' : isT t m = false := by simpa using hm
      have e : [m].any (isT t) = false := by simp [hm']
      rw [e, Bool.or_false] at ih
      rw [if_neg hm]
      exact ih
theorem wot_drop {ms : List Tm} (h : tmValid ms = true) (t : Int) (ha : ms.any (isT t) = true) : (wot t ms).length + 1 = ms.length := by
  rw [tmValid_seq] at h
  simp only [Bool.and_eq_true] at h
  have h1 := tSeq_one ms [] none t h.1
  simp at h1
  have h2 : 1 ≤ (ms.filter (isT t)).length := by
    obtain ⟨x, hx, hp⟩ := List.any_eq_true.1 ha
    exact List.length_pos_of_mem (List.mem_filter.2 ⟨hx, hp⟩)
  have h3 : ∀ l : List Tm, (l.filter (isT t)).length + (wot t l).length = l.length := by
    intro l
    unfold wot
    induction l with
    | nil => rfl
    | cons x l ih =>
      rw [List.filter_cons, List.filter_cons]
      cases hx : isT t x <;> simp <;> omega
  have := h3 ms
  omega
theorem wot_none (t : Int) (ms : List Tm) : (wot t ms).any (isT t) = false := by
  unfold wot
  rw [List.any_eq_false]
  intro x hx
  have := (List.mem_filter.1 hx).2
  simpa using this
end Go.Proofs.Ythjbafafkaoomaa
