/-
  The law FnExpireTimers returns true at every input, and leaves all that was there as it was: the walk.
-/
import Derived.Test.YthjbafafkaoomaaTmG
import Derived.Test.YthjbafafkaoomaaAlive
namespace Go.Proofs.Ythjbafafkaoomaa
open Go.RowKit

theorem take_of_split {ms : List Tm} {p : Tm → Bool} (h : ms.filter (fun x => !p x) = ms.drop (ms.filter p).length) : ms.filter p = ms.take (ms.filter p).length := by
  obtain ⟨l, hl⟩ : ∃ l, (ms.filter p).length = l := ⟨_, rfl⟩
  rw [hl] at h ⊢
  have h1 : ms.filter p = (ms.take l).filter p ++ (ms.drop l).filter p := by rw [← List.filter_append, List.take_append_drop]
  have h2 : (ms.drop l).filter p = [] := by
    rw [← h, List.filter_eq_nil_iff]
    intro x hx
    have := (List.mem_filter.1 hx).2
    simpa using this
  rw [h2, List.append_nil] at h1
  have h3 : ((ms.take l).filter p).length = l := by rw [← h1, hl]
  have h4 : (ms.take l).length ≤ l := by rw [List.length_take]; omega
  have h5 : ((ms.take l).filter p).length = (ms.take l).length := by have := List.length_filter_le p (ms.take l); omega
  rw [h1]
  exact List.filter_eq_self.2 (List.length_filter_eq_length_iff.1 h5)
theorem tSeq_when : ∀ (r b : List Tm) (q : Option Int), tSeq q b r = true → ∀ x ∈ r, x.2 ≤ 100000
  | [], _, _, _, x, hx => by simp at hx
  | m :: r, b, q, h, x, hx => by
    simp only [tSeq, Bool.and_eq_true, Bool.not_eq_true'] at h
    obtain ⟨⟨h1, _⟩, h3⟩ := h
    rcases List.mem_cons.1 hx with rfl | hx
    · unfold tBad at h1
      simp only [Bool.or_eq_false_iff, Bool.not_eq_false'] at h1
      exact (inB_iff.1 h1.1.2).2
    · exact tSeq_when r _ _ h3 x hx
theorem valid_when {ms : List Tm} (h : tmValid ms = true) : ∀ x ∈ ms, x.2 ≤ 100000 := by
  rw [tmValid_seq] at h
  simp only [Bool.and_eq_true] at h
  exact tSeq_when ms [] none h.1
theorem exp_facts {ms : List Tm} {q : Int} (hv : tmValid ms = true) (hq : 0 ≤ q) (hq2 : q ≤ 100000) :
    (restR q ms).length + (wokenR q ms).length = ms.length ∧ tmValid (restR q ms) = true ∧ wokenR q (restR q ms) = [] ∧
      (∀ (k : Nat) x, ms[k]? = some x → k < (wokenR q ms).length → (wokenR q ms)[k]? = some x.1 ∧ x.2 ≤ q) ∧
      (∀ (k : Nat) x, ms[k]? = some x → (wokenR q ms).length ≤ k → (restR q ms)[k - (wokenR q ms).length]? = some x ∧ q < x.2) ∧
      wokenR q ms ++ (restR q ms).map (fun x => x.1) = ms.map (fun x => x.1) := by
  have hok : ∀ xs : List Tm, tmValid xs = true → expOk q xs = true := fun xs hx => by unfold expOk; rw [hx, inB_iff.2 ⟨hq, hq2⟩]; rfl
  have e1 : restR q ms = ms.filter (fun x => !due q x) := by unfold restR; rw [if_pos (hok ms hv)]
  have e2 : wokenR q ms = (ms.filter (due q)).map (fun x => x.1) := by unfold wokenR; rw [if_pos (hok ms hv)]
  have hs := valid_split q hv
  have ht := take_of_split hs
  have hvr : tmValid (restR q ms) = true := by rw [e1]; exact tmValid_filter hv _
  obtain ⟨l, hl⟩ : ∃ l, (ms.filter (due q)).length = l := ⟨_, rfl⟩
  rw [hl] at hs ht
  have hwl : (wokenR q ms).length = l := by rw [e2, List.length_map, hl]
  have hle : l ≤ ms.length := by rw [← hl]; exact List.length_filter_le _ _
  refine ⟨by rw [hwl, e1, hs, List.length_drop]; omega, hvr, ?_, ?_, ?_, ?_⟩
  · have : wokenR q (restR q ms) = ((restR q ms).filter (due q)).map (fun x => x.1) := by unfold wokenR; rw [if_pos (hok _ hvr)]
    rw [this, e1]
    have h0 : (ms.filter (fun x => !due q x)).filter (due q) = [] := by
      rw [List.filter_eq_nil_iff]
      intro x hx
      have := (List.mem_filter.1 hx).2
      simpa using this
    rw [h0]; rfl
  · intro k x hx hk
    rw [hwl] at hk
    have h1 : (ms.filter (due q))[k]? = some x := by rw [ht, List.getElem?_take, if_pos hk]; exact hx
    refine ⟨by rw [e2, List.getElem?_map, h1]; rfl, ?_⟩
    have := (List.mem_filter.1 (List.mem_of_getElem? h1)).2
    simpa [due] using this
  · intro k x hx hk
    rw [hwl] at hk ⊢
    have h1 : (restR q ms)[k - l]? = some x := by rw [e1, hs, List.getElem?_drop, show l + (k - l) = k from by omega]; exact hx
    refine ⟨h1, ?_⟩
    rw [e1] at h1
    have := (List.mem_filter.1 (List.mem_of_getElem? h1)).2
    simpa [due] using this
  · rw [e2, e1, hs, ht, ← List.map_append, List.take_append_drop]
theorem exp_all {ms : List Tm} (hv : tmValid ms = true) : restR 100000 ms = [] ∧ wokenR 100000 ms = ms.map (fun x => x.1) := by
  have hok : expOk 100000 ms = true := by unfold expOk; rw [hv]; rfl
  have hw := valid_when hv
  have e : ms.filter (due 100000) = ms := List.filter_eq_self.2 fun x hx => decide_eq_true (hw x hx)
  refine ⟨?_, ?_⟩
  · unfold restR
    rw [if_pos hok, List.filter_eq_nil_iff]
    intro x hx
    have : due 100000 x = true := decide_eq_true (hw x hx)
    simp [this]
  · unfold wokenR; rw [if_pos hok, e]
theorem exp_no {ms : List Tm} {q : Int} (h : tmValid ms = false ∨ q < 0) : restR q ms = [] ∧ wokenR q ms = [] := by
  have hok : ¬ expOk q ms = true := by
    unfold expOk
    rcases h with h | h
    · rw [h]; simp
    · rw [inB_not.2 (.inl h), Bool.and_false]; exact Bool.false_ne_true
  unfold restR wokenR
  rw [if_neg hok, if_neg hok]; exact ⟨rfl, rfl⟩

set_option maxRecDepth 10000 in
set_option maxHeartbeats 2000000 in
theorem FnExpireTimers_walk (A : Option Addr) (n0 c : Nat) (code : List Int) (w : World) (h0 : Rd w 1 A n0 c (code.map (Value.int .u8))) (F0 : ∀ z ∈ code, (Lit.int .u8 z).wf = true) :
    Calls Try.prog 9 #[.slice A n0 c] w fun e w' => e = .returned (.bool true) ∧ Ext w w' := by
  obtain ⟨bs, hbs⟩ := bytes_of F0
  rw [hbs] at h0
  have hle := h0.le
  have htop := h0.top
  by_cases hn : 1048576 < n0
  · go_enter Try.func9, Try.ntmps9
    go_wp2
    go_ret
    exact ⟨rfl, Below.refl _ _⟩
  go_enter Try.func9, Try.ntmps9
  go_wp2_with fail
  refine (DrawExpireTimers_any _ _ _ _ _ h0).mono ?_; rintro e w1 ⟨A1, n, c1, ms, q, rfl, hg, h19, hq, hb1⟩
  go_wp2_with fail
  refine (ExpireTimers_any _ _ _ _ _ _ hg).mono ?_; rintro e w2 ⟨A2, c2', A3, c3', rfl, hF2, hP2, hb2⟩
  obtain ⟨xs, hxs⟩ : ∃ xs, restR q ms = xs := ⟨_, rfl⟩
  obtain ⟨ys, hys⟩ : ∃ ys, wokenR q ms = ys := ⟨_, rfl⟩
  have HXS := Lib.hid hxs
  have HYS := Lib.hid hys
  rw [hxs] at hF2 ⊢
  rw [hys] at hP2 ⊢
  clear hxs hys
  have hg2 := hg.below hb2
  go_wp2_with fail
  refine (specExpireTimers_any _ _ _ _ _ _ hg2).mono ?_; rintro e w3 ⟨A4, c4', A5, c5', rfl, hF3, hP3, hb3⟩
  rw [HXS.out] at hF3 ⊢
  rw [HYS.out] at hP3 ⊢
  have hR2 := hF2.rd'.2.below hb3
  have hR3 := hF3.rd'.2
  have hQ2 := hP2.rd'.2.below hb3
  have hQ3 := hP3.rd'.2
  have hg3 := hg2.below hb3
  have hbb := (hb1.trans hb2).trans hb3
  obtain ⟨m, hm⟩ : ∃ m, xs.length = m := ⟨_, rfl⟩
  obtain ⟨l, hl⟩ : ∃ m, ys.length = m := ⟨_, rfl⟩
  rw [hm] at hR2 hR3 ⊢
  rw [hl] at hQ2 hQ3 ⊢
  have HM := Lib.hid hm
  have HLY := Lib.hid hl
  clear hm hl hF2 hF3 hP2 hP3 hg hg2 hb1 hb2 hb3 h0 hbs F0
  go_wp2_with fail
  refine (sameTimers_any _ _ _ _ _ _ _ _ _ hR2 hR3).mono ?_; rintro e w4 ⟨rfl, hb4⟩; rw [(eqTms_iff _ _).2 rfl]
  have hR4 := hR2.below hb4
  have hQ4 := hQ2.below hb4
  have hQ4' := hQ3.below hb4
  have hg4 := hg3.below hb4
  have hbc := hbb.trans hb4
  clear hR2 hR3 hQ2 hQ3 hg3 hbb hb4
  go_wp2_with fail
  refine (sameInts_any _ _ _ _ _ _ _ _ _ hQ4 hQ4').mono ?_; rintro e w5 ⟨rfl, hb5⟩; rw [(eqIs_iff _ _).2 rfl]
  have hR5 := hR4.below hb5
  have hQ5 := hQ4.below hb5
  have hg5 := hg4.below hb5
  have hbd := hbc.trans hb5
  clear hR4 hQ4 hQ4' hg4 hbc hb5
  obtain ⟨t1, ht1⟩ : ∃ b, tmValid ms = b := ⟨_, rfl⟩
  have HT := Lib.hid ht1
  go_wp2_with fail
  refine (specTimersValid_any _ _ _ _ _ hg5).mono ?_; rintro e w6 ⟨rfl, hb6⟩; rw [HT.out]
  have hR6 := hR5.below hb6
  have hQ6 := hQ5.below hb6
  have hg6 := hg5.below hb6
  have hbe := hbd.trans hb6
  clear hR5 hQ5 hg5 hbd hb6
  by_cases hno : t1 = false ∨ q < 0
  · obtain ⟨ex, ey⟩ := exp_no (ms := ms) (q := q) (by rcases hno with h | h; exact .inl (by rw [ht1, h]); exact .inr h)
    have hm0 : m = 0 := by rw [← HM.out, ← HXS.out, ex]; rfl
    have hl0 : l = 0 := by rw [← HLY.out, ← HYS.out, ey]; rfl
    subst hm0
    subst hl0
    clear hR6 hQ6 hg6 ht1 ex ey HXS HYS HM HLY HT
    cases t1
    · clear hno
      go_wp2_with ((go_at_call 25; refine (alive_any _).mono ?_; rintro e w9 ⟨rfl, hb9⟩))
      go_ret
      exact ⟨rfl, hbe.trans hb9⟩
    · have hq0 : q < 0 := by simpa using hno
      clear hno
      go_wp2_with ((go_at_call 25; refine (alive_any _).mono ?_; rintro e w9 ⟨rfl, hb9⟩))
      go_ret
      exact ⟨rfl, hbe.trans hb9⟩
  obtain ⟨rfl, hq0⟩ : t1 = true ∧ 0 ≤ q := by
    cases t1
    · simp at hno
    · simp at hno; exact ⟨rfl, by omega⟩
  obtain ⟨f1, f2, f3, f4, f5, f6⟩ := exp_facts ht1 hq0 (by omega)
  rw [HXS.out] at f1 f2 f3 f5 f6
  rw [HYS.out] at f1 f4 f5 f6
  rw [HM.out, HLY.out] at f1
  rw [HLY.out] at f4 f5
  have hlg := hg6.len2
  have F2 := Lib.hid f2
  have F3 := Lib.hid f3
  have F4 := Lib.hid f4
  have F5 := Lib.hid f5
  have hml : m + l = n := by omega
  have e4 : restR q xs = xs := by
    have h1 := exp_facts f2 hq0 (show q ≤ 100000 by omega)
    have h2 := h1.1
    unfold restR
    rw [if_pos (by unfold expOk; rw [f2, inB_iff.2 ⟨hq0, by omega⟩]; rfl), List.filter_eq_self]
    intro x hx
    have h3 := h1.2.2.2.2.1
    rw [f3] at h3
    obtain ⟨j, hj⟩ := List.getElem?_of_mem hx
    have := (h3 j x hj (by simp)).2
    simp only [due, Bool.not_eq_true', decide_eq_false_iff_not]
    omega
  have E4 := Lib.hid e4
  clear hno f1 f2 f3 f4 f5 f6 hlg ht1 HT HXS HYS e4
  go_wp2
  go_loopw [9] (fun i wr => ∃ k : Nat, k ≤ n ∧ i = .int .i64 k ∧ Ext w6 wr) (fun i _ => n - (intOf i).toNat)
  case atStart => exact ⟨0, Nat.zero_le _, rfl, Below.refl _ _⟩
  case round =>
    obtain ⟨k, hk, rfl, hE⟩ := hrel
    rename World => wo
    have hgo := hg6.below hE
    have hRo := hR6.below hE
    have hQo := hQ6.below hE
    have hbo := hbe.trans hE
    by_cases hlt : k < n
    · obtain ⟨b, off, x0, x1, hAA, X, g0, g1⟩ := hgo.at2 hlt
      subst hAA
      have G0 := later_cell g0
      have G1 := later_cell g1
      by_cases hkl : k < l
      · obtain ⟨b', off', y, hBB, Y, g2⟩ := hQo.atI hkl
        subst hBB
        have G2 := later_cell g2
        obtain ⟨u1, u2⟩ := F4.out k _ X.out hkl
        obtain rfl : x0 = y := by have := u1.symm.trans Y.out; simpa using this
        have v0 : (x0 == x0) = true := by simp
        have v2 : decide (q < x1) = false := by rw [decide_eq_false_iff_not]; omega
        clear hg6 hR6 hQ6 hgo hRo hQo X Y u1 F2 F3 F4 F5 E4 g0 g1 g2
        go_wp2
        (refine wp_region_later (by kernel_rfl) (by kernel_rfl) ?_; repeat (any_goals (first | (with_reducible refine wpQuiet_nil ?_; intro wq hq) | go_big_quiet_step ((fail)))))
        go_wp2
        go_roundw
        case rel => exact ⟨k + 1, by omega, by go_num, hE.trans hq⟩
        case measure => simp [intOf]; omega
      · obtain ⟨u1, u2⟩ := F5.out k _ X.out (by omega)
        obtain ⟨d, hd⟩ : ∃ d, k - l = d := ⟨_, rfl⟩
        rw [hd] at u1
        have hdm : d < m := by omega
        have ek : (k : Int) - (l : Int) = (d : Int) := by omega
        obtain ⟨b', off', y0, y1, hBB, Y, g2, g3⟩ := hRo.at2 hdm
        subst hBB
        have G2 := later_cell g2
        have G3 := later_cell g3
        obtain ⟨rfl, rfl⟩ : x0 = y0 ∧ x1 = y1 := by have := u1.symm.trans Y.out; simpa using this
        have u3 : q < x1 := u2
        have v1 : decide (m ≤ d) = false := by rw [decide_eq_false_iff_not]; omega
        have v2 : decide (x1 ≤ q) = false := by rw [decide_eq_false_iff_not]; omega
        clear hg6 hR6 hQ6 hgo hRo hQo X Y u1 u2 F2 F3 F4 F5 E4 g0 g1 g2 g3 hd
        go_wp2
        (refine wp_region_later (by kernel_rfl) (by kernel_rfl) ?_; repeat (any_goals (first | (with_reducible refine wpQuiet_nil ?_; intro wq hq) | go_big_quiet_step ((fail)))))
        go_wp2
        go_roundw
        case rel => exact ⟨k + 1, by omega, by go_num, hE.trans hq⟩
        case measure => simp [intOf]; omega
    · clear hg6 hR6 hQ6 hgo hQo F4 F5
      go_wp2_with fail
      refine (ExpireTimers_any _ _ _ _ _ _ hRo).mono ?_; rintro e w7 ⟨A7, c7', A8, c8', rfl, hF7, hP7, hb7⟩
      rw [F3.out, E4.out] at *
      have hRz := hRo.below hb7
      clear hF7 hP7 hRo F3
      go_wp2_with fail
      refine (TimersValid_any _ _ _ _ _ hRz).mono ?_; rintro e w8 ⟨rfl, hb8⟩; rw [F2.out]
      have hsum : ((m : Int) + (l : Int) == (n : Int)) = true := by rw [beq_iff_eq]; omega
      go_wp2
      go_ret
      exact ⟨rfl, (hbo.trans hb7).trans hb8⟩
end Go.Proofs.Ythjbafafkaoomaa
