/-
  Where a page is; which fault an address causes; where an address leads, as the program and as the reference ask it.
-/
import Derived.Test.YteahiiflgiimnaaMpB
namespace Go.Proofs.Yteahiiflgiimnaa
open Go.RowKit

abbrev Mp := Int × Int × Int
/-- The place of a page, or where it would be. -/
def pAt (page : Int) : List Mp → Nat
  | [] => 0
  | m :: r => if m.1 < page then pAt page r + 1 else 0
def pThere (page : Int) (ms : List Mp) : Bool := match ms[pAt page ms]? with | some m => m.1 == page | none => false
theorem pAt_le (page : Int) : ∀ ms : List Mp, pAt page ms ≤ ms.length
  | [] => Nat.le_refl _
  | m :: r => by unfold pAt; have := pAt_le page r; split <;> simp <;> omega
theorem pAt_drop (page : Int) : ∀ (ms : List Mp) (k : Nat), (∀ i, i < k → ∃ m, ms[i]? = some m ∧ m.1 < page) → pAt page ms = pAt page (ms.drop k) + k
  | ms, 0, _ => by simp
  | [], k + 1, h => by obtain ⟨m, hm, _⟩ := h 0 (by omega); simp at hm
  | m :: r, k + 1, h => by
    obtain ⟨m', hm, hlt⟩ := h 0 (by omega)
    simp only [List.getElem?_cons_zero, Option.some.injEq] at hm
    subst hm
    have ih := pAt_drop page r k fun i hi => by simpa using h (i + 1) (by omega)
    rw [pAt, if_pos hlt, ih, List.drop_succ_cons]
    omega

set_option maxHeartbeats 400000 in
theorem pageAt_any (A : Option Addr) (n c : Nat) (ms : List Mp) (page : Int) (w : World) (h : Rd w 3 A n c (c3 ms)) :
    Calls Try.prog 61 #[.slice A n c, .int .i64 page] w fun e w' => e = .returned (.tuple #[.int .i64 (pAt page ms : Nat), .bool (pThere page ms)]) ∧ Ext w w' := by
  have hle := h.le
  have htop := h.top
  have HL := Lib.hid h.len3
  go_enter Try.func61, Try.ntmps61
  go_wp2
  go_loopw [6] (fun i wr => ∃ k : Nat, k ≤ n ∧ i = .int .i64 k ∧ Ext w wr ∧ Hid (∀ i, i < k → ∃ m, ms[i]? = some m ∧ m.1 < page)) (fun i _ => n - (intOf i).toNat)
  case atStart => exact ⟨0, Nat.zero_le _, rfl, Below.refl _ _, fun i hi => absurd hi (by omega)⟩
  case round =>
    obtain ⟨k, hk, rfl, hb, H⟩ := hrel
    by_cases hlt : k < n
    · obtain ⟨b, off, p, f, r, rfl, X, g0, _, _⟩ := (h.below hb).at3 hlt
      have G0 := later_cell g0
      by_cases hp : p < page
      · clear h HL G0
        go_wp2
        go_roundw
        case rel => exact ⟨k + 1, by omega, by go_num, hb, fun i hi => by
          by_cases hik : i < k
          · exact H.out i hik
          · obtain rfl : i = k := by omega
            exact ⟨_, X.out, hp⟩⟩
        case measure => simp [intOf]; omega
      · have e1 : pAt page ms = k := by rw [pAt_drop page ms k H.out, drop_of_get X.out, pAt, if_neg hp]; omega
        have e2 : pThere page ms = (p == page) := by unfold pThere; rw [e1, X.out]
        have E1 := Lib.hid e1
        have E2 := Lib.hid e2
        clear h H HL X e1 e2
        go_wp2
        (refine wp_region_later (by kernel_rfl) (by kernel_rfl) ?_; repeat (any_goals (first | (with_reducible refine wpQuiet_nil ?_; intro wq hq) | go_big_quiet_step ((fail)))))
        go_wp2
        go_ret2
        exact ⟨by rw [E1.out, E2.out]; rfl, hb.trans hq⟩
    · have e0 : ms.drop k = [] := drop_all HL.out (by omega)
      have e1 : pAt page ms = k := by rw [pAt_drop page ms k H.out, e0, pAt]; omega
      have e2 : pThere page ms = false := by unfold pThere; rw [e1, List.getElem?_eq_none (by have := HL.out; omega)]
      have E1 := Lib.hid e1
      have E2 := Lib.hid e2
      have hd : decide (k < n) = false := by simpa using hlt
      clear h H HL e0 e1 e2
      go_wp2
      (refine wp_region_later (by kernel_rfl) (by kernel_rfl) ?_; repeat (any_goals (first | (with_reducible refine wpQuiet_nil ?_; intro wq hq) | go_big_quiet_step ((fail)))))
      go_wp2
      go_ret2
      exact ⟨by rw [E1.out, E2.out]; rfl, hb.trans hq⟩

/-- The mapping of a page. -/
def lookP (page : Int) (ms : List Mp) : Option Mp := match ms[pAt page ms]? with | some m => if m.1 == page then some m else none | none => none
theorem look_none {page : Int} {ms : List Mp} (h : pThere page ms = false) : lookP page ms = none := by
  unfold lookP; unfold pThere at h
  cases hm : ms[pAt page ms]? with
  | none => rfl
  | some m => rw [hm] at h; simp only at h ⊢; rw [h]; rfl
theorem look_some {page : Int} {ms : List Mp} (h : pThere page ms = true) : ∃ m, ms[pAt page ms]? = some m ∧ m.1 = page ∧ lookP page ms = some m := by
  unfold lookP; unfold pThere at h
  cases hm : ms[pAt page ms]? with
  | none => rw [hm] at h; cases h
  | some m => rw [hm] at h; simp only at h ⊢; exact ⟨m, rfl, by simpa using h, by rw [h]; rfl⟩
/-- r has nothing that q lacks, as the program asks it. -/
def covB (r q : Int) : Bool := bits .andNot .i64 r q == 0
/-- Which fault. -/
def fkOf (ms : List Mp) (addr r : Int) : Int :=
  if inB addr 0 65535 then (match lookP (addr / 256) ms with | none => 1 | some m => if covB r m.2.2 then 0 else 2) else 3

set_option maxHeartbeats 400000 in
theorem faultKind_any (A : Option Addr) (n c : Nat) (ms : List Mp) (addr r : Int) (w : World) (h : Rd w 3 A n c (c3 ms)) :
    Calls Try.prog 56 #[.slice A n c, .int .i64 addr, .int .i64 r] w fun e w' => e = .returned (.int .i64 (fkOf ms addr r)) ∧ Ext w w' := by
  have hle := h.le
  have htop := h.top
  by_cases ha : inB addr 0 65535 = true
  · have ha' := inB_iff.1 ha
    cases ht : pThere (addr / 256) ms with
    | false =>
      have e : fkOf ms addr r = 1 := by unfold fkOf; rw [if_pos ha, look_none ht]
      have E := Lib.hid e
      clear e
      go_enter Try.func56, Try.ntmps56
      go_wp2_with (first | ((go_at_call 89; refine (isAddress_any _ _).mono ?_; rintro e w' ⟨rfl, rfl⟩; rw [ha])) | ((go_at_call 61; refine (pageAt_any _ _ _ _ _ _ h).mono ?_; rintro e w1 ⟨rfl, hb1⟩; rw [ht])))
      go_ret
      exact ⟨ret_int E.out.symm, hb1⟩
    | true =>
      obtain ⟨⟨p, f, q⟩, hm, hp, hl⟩ := look_some ht
      have e : fkOf ms addr r = if covB r q then 0 else 2 := by unfold fkOf; rw [if_pos ha, hl]
      have E := Lib.hid e
      have hlt : pAt (addr / 256) ms < n := by have := (List.getElem?_eq_some_iff.1 hm).1; have := h.len3; omega
      obtain ⟨b, off, p', f', q', rfl, X, _, _, g2⟩ := h.at3 hlt
      have hq : q' = q := by have := X.out.symm.trans hm; simp at this; exact this.2.2
      subst hq
      have HT := Lib.hid ht
      clear e hm X hp hl ht
      go_enter Try.func56, Try.ntmps56
      go_wp2_with (first | ((go_at_call 89; refine (isAddress_any _ _).mono ?_; rintro e w' ⟨rfl, rfl⟩; rw [ha])) | ((go_at_call 61; refine (pageAt_any _ _ _ _ _ _ h).mono ?_; rintro e w1 ⟨rfl, hb1⟩; rw [HT.out]; have g2' := kept_of_below hb1 _ _ g2)))
      · go_ret
        exact ⟨ret_int (by rw [E.out, if_neg (by unfold covB; simp_all)]), hb1⟩
      · go_ret
        exact ⟨ret_int (by rw [E.out, if_pos (by unfold covB; simp_all)]), hb1⟩
  · have e : fkOf ms addr r = 3 := by unfold fkOf; rw [if_neg ha]
    have E := Lib.hid e
    have ha' : inB addr 0 65535 = false := by simpa using ha
    clear e ha
    go_enter Try.func56, Try.ntmps56
    go_wp2_with ((go_at_call 89; refine (isAddress_any _ _).mono ?_; rintro e w' ⟨rfl, rfl⟩; rw [ha']))
    go_ret
    exact ⟨ret_int E.out.symm, Below.refl _ _⟩

theorem look_cons (page : Int) (m : Mp) (r : List Mp) : lookP page (m :: r) = if m.1 < page then lookP page r else if m.1 == page then some m else none := by
  unfold lookP
  rw [pAt]
  by_cases h : m.1 < page
  · rw [if_pos h, if_pos h, List.getElem?_cons_succ]
  · rw [if_neg h, if_neg h, List.getElem?_cons_zero]
theorem mpOk_iff {l : Int} {m : Mp} : mpOk l m = true ↔ (l < m.1 ∧ m.1 ≤ 255) ∧ (0 ≤ m.2.1 ∧ m.2.1 ≤ 99) ∧ (1 ≤ m.2.2 ∧ m.2.2 ≤ 3) := by
  unfold mpOk; simp only [Bool.and_eq_true, inB_iff, and_assoc]; omega
theorem spFrom_cons {l : Int} {m : Mp} {r : List Mp} : spFrom l (m :: r) = true ↔ mpOk l m = true ∧ spFrom m.1 r = true := by
  show (mpOk l m && spFrom m.1 r) = true ↔ _
  rw [Bool.and_eq_true]
/-- Every mapping of a valid address space is in range. -/
theorem spFrom_mem : ∀ {ms : List Mp} {l : Int}, spFrom l ms = true → ∀ m ∈ ms, (l < m.1 ∧ m.1 ≤ 255) ∧ (0 ≤ m.2.1 ∧ m.2.1 ≤ 99) ∧ (1 ≤ m.2.2 ∧ m.2.2 ≤ 3)
  | [], _, _, m, hm => by simp at hm
  | a :: r, l, h, m, hm => by
    obtain ⟨h1, h2⟩ := spFrom_cons.1 h
    have h3 := mpOk_iff.1 h1
    rcases List.mem_cons.1 hm with rfl | hm
    · exact h3
    · have := spFrom_mem h2 m hm
      omega
theorem spValid_from {ms : List Mp} (h : spValid ms = true) : spFrom (-1) ms = true := by unfold spValid at h; simp only [Bool.and_eq_true] at h; exact h.1
theorem spValid_len {ms : List Mp} (h : spValid ms = true) : ms.length ≤ 20 := by unfold spValid at h; simp only [Bool.and_eq_true, decide_eq_true_eq] at h; exact h.2
theorem look_mem {page : Int} {ms : List Mp} {m : Mp} (h : lookP page ms = some m) : m ∈ ms ∧ m.1 = page := by
  unfold lookP at h
  cases hm : ms[pAt page ms]? with
  | none => rw [hm] at h; cases h
  | some x =>
    rw [hm] at h
    simp only at h
    split at h
    · next hp => simp only [Option.some.injEq] at h; subst h; exact ⟨List.mem_of_getElem? hm, by simpa using hp⟩
    · cases h
/-- In a valid address space the page is there once. -/
theorem find_look (page : Int) (c : Mp → Bool) : ∀ {ms : List Mp} {l : Int}, spFrom l ms = true → ms.find? (fun m => m.1 == page && c m) = (lookP page ms).filter c
  | [], _, _ => rfl
  | a :: r, l, h => by
    obtain ⟨h1, h2⟩ := spFrom_cons.1 h
    have ih := find_look page c h2
    rw [look_cons, List.find?_cons]
    by_cases hlt : a.1 < page
    · rw [if_pos hlt]
      have : (a.1 == page) = false := by rw [beq_eq_false_iff_ne]; omega
      rw [this, Bool.false_and]
      exact ih
    · rw [if_neg hlt]
      by_cases heq : a.1 = page
      · have h3 : (a.1 == page) = true := by simpa using heq
        rw [h3, Bool.true_and, if_pos rfl]
        have hno : r.find? (fun m => m.1 == page && c m) = none := by
          rw [List.find?_eq_none]
          intro m hm
          have := spFrom_mem h2 m hm
          have : (m.1 == page) = false := by rw [beq_eq_false_iff_ne]; omega
          simp [this]
        rw [hno]
        cases hc : c a <;> simp [Option.filter, hc]
      · have h3 : (a.1 == page) = false := by simpa using heq
        rw [h3, Bool.false_and]
        have hno : r.find? (fun m => m.1 == page && c m) = none := by
          rw [List.find?_eq_none]
          intro m hm
          have := spFrom_mem h2 m hm
          have : (m.1 == page) = false := by rw [beq_eq_false_iff_ne]; omega
          simp [this]
        rw [hno]
        rfl

/-- r within q, as the reference asks it. -/
def covA (r q : Int) : Bool := bits .and .i64 r q == r
theorem cov_nat : ∀ a b : Fin 16, (bits .and .i64 ((a : Nat) : Int) ((b : Nat) : Int) == ((a : Nat) : Int)) = (bits .andNot .i64 ((a : Nat) : Int) ((b : Nat) : Int) == 0) := by decide +kernel
theorem cov_same {r q : Int} (hr : 0 ≤ r ∧ r ≤ 15) (hq : 0 ≤ q ∧ q ≤ 15) : covA r q = covB r q := by
  have h := cov_nat ⟨r.toNat, by omega⟩ ⟨q.toNat, by omega⟩
  simp only [Int.toNat_of_nonneg hr.1, Int.toNat_of_nonneg hq.1] at h
  exact h

/-- Where an address leads. -/
def trOf (ms : List Mp) (addr r : Int) : Int :=
  if spValid ms && inB addr 0 65535 && inB r 0 15 then (match (lookP (addr / 256) ms).filter (fun m => covB r m.2.2) with | some m => m.2.1 * 256 + addr % 256 | none => -1) else -1
theorem trOf_not {ms : List Mp} {addr r : Int} (h : (spValid ms && inB addr 0 65535 && inB r 0 15) = false) : trOf ms addr r = -1 := by
  unfold trOf; rw [h]; rfl

set_option maxHeartbeats 400000 in
theorem Translate_any (A : Option Addr) (n c : Nat) (ms : List Mp) (addr r : Int) (w : World) (h : Rd w 3 A n c (c3 ms)) :
    Calls Try.prog 26 #[.slice A n c, .int .i64 addr, .int .i64 r] w fun e w' => e = .returned (.int .i64 (trOf ms addr r)) ∧ Ext w w' := by
  by_cases hok : spValid ms = true ∧ inB r 0 15 = true ∧ fkOf ms addr r = 0
  · obtain ⟨hv, hr, hf⟩ := hok
    have hA : inB addr 0 65535 = true := by
      cases hA : inB addr 0 65535 with
      | true => rfl
      | false => unfold fkOf at hf; rw [hA] at hf; simp at hf
    have hfk := hf
    unfold fkOf at hfk
    rw [if_pos hA] at hfk
    cases ht : pThere (addr / 256) ms with
    | false => rw [look_none ht] at hfk; simp at hfk
    | true =>
      obtain ⟨⟨p, f, q⟩, hm, hp, hl⟩ := look_some ht
      rw [hl] at hfk
      have hc : covB r q = true := by
        cases hc : covB r q with
        | true => rfl
        | false => simp [hc] at hfk
      have e : trOf ms addr r = f * 256 + addr % 256 := by
        unfold trOf; rw [hv, hA, hr, hl]; simp [Option.filter, hc]
      have hfr : 0 ≤ f ∧ f ≤ 99 := (spFrom_mem (spValid_from hv) _ (look_mem hl).1).2.1
      have hlt : pAt (addr / 256) ms < n := by have := (List.getElem?_eq_some_iff.1 hm).1; have := h.len3; omega
      obtain ⟨b, off, p', f', q', hA0, X, _, g1, _⟩ := h.at3 hlt
      subst hA0
      have hq : f' = f := by have := X.out.symm.trans hm; simp at this; exact this.2.1
      subst hq
      have E := Lib.hid e
      have HT := Lib.hid ht
      have HF := Lib.hid hf
      have hA' := inB_iff.1 hA
      have hle := h.le
      have htop := h.top
      obtain ⟨hf0, hf1⟩ := hfr
      clear e hm X hp hl ht hf hfk hc
      go_enter Try.func26, Try.ntmps26
      go_wp2_with (first
        | ((go_at_call 39; refine (SpaceValid_any _ _ _ _ _ h).mono ?_; rintro e w1 ⟨rfl, hb1⟩); rw [hv])
        | ((go_at_call 58; refine (RightsValid_any _ _).mono ?_; rintro e w' ⟨rfl, rfl⟩); rw [hr])
        | ((go_at_call 56; refine (faultKind_any _ _ _ _ _ _ _ (h.below hb1)).mono ?_; rintro e w2 ⟨rfl, hb2⟩); rw [HF.out])
        | ((go_at_call 61; refine (pageAt_any _ _ _ _ _ _ ((h.below hb1).below hb2)).mono ?_; rintro e w3 ⟨rfl, hb3⟩); rw [HT.out]; have g1' := kept_of_below ((hb1.trans hb2).trans hb3) _ _ g1))
      go_ret
      exact ⟨ret_int E.out.symm, (Ext.trans hb1 (Ext.trans hb2 hb3))⟩
  · have e : trOf ms addr r = -1 := by
      cases hv : spValid ms with
      | false => exact trOf_not (by rw [hv]; rfl)
      | true =>
        cases hr : inB r 0 15 with
        | false => exact trOf_not (by rw [hr]; simp)
        | true =>
          cases ha : inB addr 0 65535 with
          | false => exact trOf_not (by rw [ha]; simp)
          | true =>
            have hne : fkOf ms addr r ≠ 0 := fun hf => hok ⟨hv, hr, hf⟩
            unfold fkOf at hne
            unfold trOf
            rw [if_pos ha] at hne
            rw [hv, hr, ha]
            cases hl : lookP (addr / 256) ms with
            | none => rfl
            | some m =>
              rw [hl] at hne
              cases hc : covB r m.2.2 with
              | true => simp [hc] at hne
              | false => simp [Option.filter, hc]
    have E := Lib.hid e
    clear e
    cases hv : spValid ms with
    | false =>
      clear hok
      go_enter Try.func26, Try.ntmps26
      go_wp2_with ((go_at_call 39; refine (SpaceValid_any _ _ _ _ _ h).mono ?_; rintro e w1 ⟨rfl, hb1⟩); rw [hv])
      go_ret
      exact ⟨ret_int E.out.symm, hb1⟩
    | true =>
      cases hr : inB r 0 15 with
      | false =>
        clear hok
        go_enter Try.func26, Try.ntmps26
        go_wp2_with (first
          | ((go_at_call 39; refine (SpaceValid_any _ _ _ _ _ h).mono ?_; rintro e w1 ⟨rfl, hb1⟩); rw [hv])
          | ((go_at_call 58; refine (RightsValid_any _ _).mono ?_; rintro e w' ⟨rfl, rfl⟩); rw [hr]))
        go_ret
        exact ⟨ret_int E.out.symm, hb1⟩
      | true =>
        have hne : (fkOf ms addr r != 0) = true := by rw [bne_iff_ne]; exact fun hf => hok ⟨hv, hr, hf⟩
        generalize hfk : fkOf ms addr r = fk at hne
        have HF := Lib.hid hfk
        clear hok hfk
        go_enter Try.func26, Try.ntmps26
        go_wp2_with (first
          | ((go_at_call 39; refine (SpaceValid_any _ _ _ _ _ h).mono ?_; rintro e w1 ⟨rfl, hb1⟩); rw [hv])
          | ((go_at_call 58; refine (RightsValid_any _ _).mono ?_; rintro e w' ⟨rfl, rfl⟩); rw [hr])
          | ((go_at_call 56; refine (faultKind_any _ _ _ _ _ _ _ (h.below hb1)).mono ?_; rintro e w2 ⟨rfl, hb2⟩); rw [HF.out]))
        go_ret
        exact ⟨ret_int E.out.symm, hb1.trans hb2⟩

set_option maxHeartbeats 400000 in
theorem specTranslate_any (A : Option Addr) (n c : Nat) (ms : List Mp) (addr r : Int) (w : World) (h : Rd w 3 A n c (c3 ms)) :
    Calls Try.prog 49 #[.slice A n c, .int .i64 addr, .int .i64 r] w fun e w' => e = .returned (.int .i64 (trOf ms addr r)) ∧ Ext w w' := by
  have hle := h.le
  have htop := h.top
  by_cases hok : spValid ms = true ∧ inB addr 0 65535 = true ∧ inB r 0 15 = true
  · obtain ⟨hv, ha, hr⟩ := hok
    have ha' := inB_iff.1 ha
    have hr' := inB_iff.1 hr
    have hmem := spFrom_mem (spValid_from hv)
    have HL := Lib.hid h.len3
    have HM := Lib.hid hmem
    have e : trOf ms addr r = (match ms.find? (fun m => m.1 == addr / 256 && covA r m.2.2) with | some m => m.2.1 * 256 + addr % 256 | none => -1) := by
      have e1 : ms.find? (fun m => m.1 == addr / 256 && covA r m.2.2) = ms.find? (fun m => m.1 == addr / 256 && covB r m.2.2) := by
        refine find_congr fun m hm => ?_
        have := hmem m hm
        rw [cov_same (by omega) (by omega)]
      unfold trOf
      rw [e1, find_look (addr / 256) (fun m => covB r m.2.2) (spValid_from hv), hv, ha, hr]
      rfl
    have E := Lib.hid e
    clear e hmem
    go_enter Try.func49, Try.ntmps49
    go_wp2_with (first
      | ((go_at_call 44; refine (specSpaceValid_any _ _ _ _ _ h).mono ?_; rintro e w1 ⟨rfl, hb1⟩); rw [hv])
      | ((go_at_call 46; refine (l1In_any _ _ _ _).mono ?_; rintro e w' ⟨rfl, rfl⟩); rw [ha])
      | ((go_at_call 45; refine (specRightsValid_any _ _).mono ?_; rintro e w' ⟨rfl, rfl⟩); rw [hr]))
    go_loopw [7] (fun i wr => ∃ k : Nat, k ≤ n ∧ i = .int .i64 k ∧ Ext w wr ∧ Hid (ms.find? (fun m => m.1 == addr / 256 && covA r m.2.2) = (ms.drop k).find? (fun m => m.1 == addr / 256 && covA r m.2.2))) (fun i _ => n - (intOf i).toNat)
    case atStart => exact ⟨0, Nat.zero_le _, rfl, hb1, rfl⟩
    case round =>
      obtain ⟨k, hk, rfl, hb, H⟩ := hrel
      by_cases hlt : k < n
      · obtain ⟨b, off, p, f, q, rfl, X, g0, g1, g2⟩ := (h.below hb).at3 hlt
        have hfr := HM.out _ (List.mem_of_getElem? X.out)
        obtain ⟨hf0, hf1⟩ := hfr.2.1
        simp only at hf0 hf1
        have HD := Lib.hid (drop_of_get X.out)
        clear h hfr HL HM X
        go_wp2
        · go_ret
          exact ⟨ret_int (by rw [E.out, H.out, HD.out, List.find?_cons_of_pos (by simp_all [covA])]), hb⟩
        · go_roundw
          case rel => exact ⟨k + 1, by omega, by go_num, hb, by rw [H.out, HD.out, List.find?_cons_of_neg (by simp_all [covA])]; rfl⟩
          case measure => simp [intOf]; omega
        · go_roundw
          case rel => exact ⟨k + 1, by omega, by go_num, hb, by rw [H.out, HD.out, List.find?_cons_of_neg (by simp_all [covA])]; rfl⟩
          case measure => simp [intOf]; omega
      · have e : trOf ms addr r = -1 := by rw [E.out, H.out, drop_all HL.out (by omega)]; rfl
        have E' := Lib.hid e
        clear e h H HL HM E
        go_wp2
        go_ret
        exact ⟨ret_int E'.out.symm, hb⟩
  · have e : trOf ms addr r = -1 := trOf_not (by
      rw [← Bool.not_eq_true]; simp only [Bool.and_eq_true]; exact fun h => hok ⟨h.1.1, h.1.2, h.2⟩)
    have E := Lib.hid e
    clear e
    cases hv : spValid ms with
    | false =>
      clear hok
      go_enter Try.func49, Try.ntmps49
      go_wp2_with ((go_at_call 44; refine (specSpaceValid_any _ _ _ _ _ h).mono ?_; rintro e w1 ⟨rfl, hb1⟩); rw [hv])
      go_ret
      exact ⟨ret_int E.out.symm, hb1⟩
    | true =>
      cases ha : inB addr 0 65535 with
      | false =>
        clear hok
        go_enter Try.func49, Try.ntmps49
        go_wp2_with (first
          | ((go_at_call 44; refine (specSpaceValid_any _ _ _ _ _ h).mono ?_; rintro e w1 ⟨rfl, hb1⟩); rw [hv])
          | ((go_at_call 46; refine (l1In_any _ _ _ _).mono ?_; rintro e w' ⟨rfl, rfl⟩); rw [ha]))
        go_ret
        exact ⟨ret_int E.out.symm, hb1⟩
      | true =>
        have hr : inB r 0 15 = false := by
          rw [← Bool.not_eq_true]; exact fun h => hok ⟨hv, ha, h⟩
        clear hok
        go_enter Try.func49, Try.ntmps49
        go_wp2_with (first
          | ((go_at_call 44; refine (specSpaceValid_any _ _ _ _ _ h).mono ?_; rintro e w1 ⟨rfl, hb1⟩); rw [hv])
          | ((go_at_call 46; refine (l1In_any _ _ _ _).mono ?_; rintro e w' ⟨rfl, rfl⟩); rw [ha])
          | ((go_at_call 45; refine (specRightsValid_any _ _).mono ?_; rintro e w' ⟨rfl, rfl⟩); rw [hr]))
        go_ret
        exact ⟨ret_int E.out.symm, hb1⟩
end Go.Proofs.Yteahiiflgiimnaa
