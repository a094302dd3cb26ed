/-
  Where addresses lead behind a change of the address space, said of lists. No program is walked here.
-/
import Derived.Test.YteahiiflgiimnaaMpI
namespace Go.Proofs.Yteahiiflgiimnaa
open Go.RowKit

theorem tr_neg {ms : List Mp} {a r : Int} (h : ¬ 0 ≤ trOf ms a r) : trOf ms a r = -1 := by
  by_cases hok : (spValid ms && inB a 0 65535 && inB r 0 15) = true
  · have hok' := hok
    simp only [Bool.and_eq_true] at hok
    obtain ⟨⟨hv, ha⟩, hr⟩ := hok
    unfold trOf at h ⊢
    rw [if_pos hok'] at h ⊢
    cases hl : lookP (a / 256) ms with
    | none => rfl
    | some m =>
      have hm := (spFrom_mem (spValid_from hv) _ (look_mem hl).1).2.1
      cases hc : covB r m.2.2 with
      | false => simp [Option.filter, hc]
      | true =>
        rw [hl] at h
        simp [Option.filter, hc] at h
        omega
  · exact trOf_not (by simpa using hok)
theorem tr_pos {ms : List Mp} {a r : Int} (h : 0 ≤ trOf ms a r) : spValid ms = true ∧ inB a 0 65535 = true ∧ inB r 0 15 = true ∧ ∃ m, lookP (a / 256) ms = some m ∧ covB r m.2.2 = true ∧ trOf ms a r = m.2.1 * 256 + a % 256 ∧ (0 ≤ m.2.1 ∧ m.2.1 ≤ 99) ∧ (1 ≤ m.2.2 ∧ m.2.2 ≤ 3) := by
  by_cases hok : (spValid ms && inB a 0 65535 && inB r 0 15) = true
  · have hok' := hok
    simp only [Bool.and_eq_true] at hok
    obtain ⟨⟨hv, ha⟩, hr⟩ := hok
    refine ⟨hv, ha, hr, ?_⟩
    unfold trOf at h ⊢
    rw [if_pos hok'] at h ⊢
    cases hl : lookP (a / 256) ms with
    | none => rw [hl] at h; simp [Option.filter] at h
    | some m =>
      have hm := (spFrom_mem (spValid_from hv) _ (look_mem hl).1).2
      cases hc : covB r m.2.2 with
      | false => rw [hl] at h; simp [Option.filter, hc] at h
      | true => exact ⟨m, rfl, hc, by simp [Option.filter, hc], hm.1, hm.2⟩
  · rw [trOf_not (by simpa using hok)] at h; omega
theorem tr_val {ms : List Mp} {a r : Int} {m : Mp} (hv : spValid ms = true) (ha : inB a 0 65535 = true) (hr : inB r 0 15 = true) (hl : lookP (a / 256) ms = some m) (hc : covB r m.2.2 = true) : trOf ms a r = m.2.1 * 256 + a % 256 := by
  unfold trOf
  rw [hv, ha, hr, hl]
  simp [Option.filter, hc]
theorem tr_gone {ms : List Mp} {a r : Int} (hl : lookP (a / 256) ms = none) : trOf ms a r = -1 := by
  by_cases hok : (spValid ms && inB a 0 65535 && inB r 0 15) = true
  · unfold trOf; rw [if_pos hok, hl]; rfl
  · exact trOf_not (by simpa using hok)
theorem tr_uncov {ms : List Mp} {a r : Int} {m : Mp} (hl : lookP (a / 256) ms = some m) (hc : covB r m.2.2 = false) : trOf ms a r = -1 := by
  by_cases hok : (spValid ms && inB a 0 65535 && inB r 0 15) = true
  · unfold trOf; rw [if_pos hok, hl]; simp [Option.filter, hc]
  · exact trOf_not (by simpa using hok)
/-- Addresses of one page lead to one frame; without rights too. -/
theorem tr_same {ms : List Mp} {a r : Int} (h : 0 ≤ trOf ms a r) : (0 ≤ a ∧ a ≤ 65535) ∧ trOf ms a r ≤ 25599 ∧ trOf ms a r % 256 = a % 256 ∧ trOf ms (a - a % 256) r = trOf ms a r - trOf ms a r % 256 ∧ trOf ms a 0 = trOf ms a r := by
  obtain ⟨hv, ha, hr, m, hl, hc, e, hf, hq⟩ := tr_pos h
  have ha' := inB_iff.1 ha
  have e1 : (a - a % 256) / 256 = a / 256 := by omega
  have e2 := tr_val (a := a - a % 256) hv (inB_iff.2 (by omega)) hr (by rw [e1]; exact hl) hc
  have e3 := tr_val (r := 0) hv ha (by decide) hl (cov_zero (by omega))
  refine ⟨ha', by omega, by omega, ?_, ?_⟩
  · rw [e2, e]; omega
  · rw [e3, e]
theorem look_of_mem : ∀ {ms : List Mp} {l : Int}, spFrom l ms = true → ∀ m ∈ ms, lookP m.1 ms = some m
  | [], _, _, m, hm => by simp at hm
  | x :: r, l, h, m, hm => by
    obtain ⟨h1, h2⟩ := spFrom_cons.1 h
    rw [look_cons]
    rcases List.mem_cons.1 hm with rfl | hm
    · rw [if_neg (by omega), if_pos (by simp)]
    · have := spFrom_mem h2 m hm
      rw [if_pos (by omega)]
      exact look_of_mem h2 m hm

/-- Unmapped twice. -/
theorem unmap_again {ms : List Mp} (hv : spValid ms = true) (p : Int) : pThere p (unmapL p ms) = false ∧ (∀ r, trOf (unmapL p ms) (p * 256) r = -1) ∧ spValid (unmapL p ms) = true := by
  have hl : lookP p (unmapL p ms) = none := by rw [look_unmapL p p (spValid_from hv), if_pos rfl]
  refine ⟨by rw [pThere_look, hl]; rfl, fun r => tr_gone (by rw [show p * 256 / 256 = p by omega]; exact hl), unmapL_valid hv⟩
theorem unmapL_none {ms : List Mp} {p : Int} (h : pThere p ms = false) : unmapL p ms = ms := by unfold unmapL; rw [h]; rfl
theorem unmapL_one {ms : List Mp} {p : Int} (h : pThere p ms = true) : (unmapL p ms).length + 1 = ms.length := by
  obtain ⟨m, hm, _⟩ := look_some h
  have hlt := (List.getElem?_eq_some_iff.1 hm).1
  unfold unmapL
  rw [h, if_pos rfl, List.length_eraseIdx, if_pos hlt]
  omega

/-- A page mapped. -/
theorem mapR_ok {page k o r b rights : Int} {ms : List Mp} (h : (mapR page k o r b rights ms).2 = true) :
    ∃ q, q = bits .and .i64 (bits .and .i64 rights r) 3 ∧ k = 6 ∧ spValid ms = true ∧ (0 ≤ page ∧ page ≤ 255) ∧ (0 ≤ o ∧ o ≤ 99) ∧ (0 ≤ r ∧ r ≤ 15) ∧ b = 0 ∧ (0 ≤ rights ∧ rights ≤ 15) ∧ (1 ≤ q ∧ q ≤ 3) ∧ pThere page ms = false ∧ ms.length ≤ 19 ∧ mapR page k o r b rights ms = (insL (page, o, q) ms, true) := by
  unfold mapR at h ⊢
  by_cases hok : mapOk page k o r b rights ms = true
  · rw [if_pos hok] at h ⊢
    unfold mapOk at hok
    simp only [Bool.and_eq_true, beq_iff_eq] at hok
    obtain ⟨⟨⟨⟨h1, h2⟩, h3⟩, rfl⟩, h5⟩ := hok
    obtain ⟨c1, c2, c3⟩ := capB_iff6 h3
    have h5' := inB_iff.1 h5
    have hq := meet_range h5' c2
    rcases mapL_cases page o (bits .and .i64 (bits .and .i64 rights r) 3) ms with e | ⟨ht, hq0, hl, e⟩
    · rw [e] at h; cases h
    · have := spValid_len h1
      exact ⟨_, rfl, rfl, h1, inB_iff.1 h2, c1, c2, c3, h5', by omega, ht, by omega, e⟩
  · rw [if_neg hok] at h; cases h
theorem mapR_not {page k o r b rights : Int} {ms : List Mp} (h : (mapR page k o r b rights ms).2 = false) : (mapR page k o r b rights ms).1 = [] ∨ (mapR page k o r b rights ms).1 = ms := by
  unfold mapR at h ⊢
  by_cases hok : mapOk page k o r b rights ms = true
  · rw [if_pos hok] at h ⊢
    rcases mapL_cases page o (bits .and .i64 (bits .and .i64 rights r) 3) ms with e | ⟨_, _, _, e⟩
    · rw [e]; exact .inr rfl
    · rw [e] at h; cases h
  · rw [if_neg hok]; exact .inl rfl
theorem ins_valid {page o q : Int} {ms : List Mp} (hv : spValid ms = true) (hp : 0 ≤ page ∧ page ≤ 255) (ho : 0 ≤ o ∧ o ≤ 99) (hq : 1 ≤ q ∧ q ≤ 3) (ht : pThere page ms = false) (hl : ms.length ≤ 19) : spValid (insL (page, o, q) ms) = true :=
  spValid_iff.2 ⟨insL_from (spValid_from hv) (mpOk_iff.2 ⟨⟨by show -1 < page; omega, hp.2⟩, ho, hq⟩) ht, by rw [insL_len]; omega⟩
theorem ins_back {page o q : Int} {ms : List Mp} (hv : spValid (insL (page, o, q) ms) = true) (ht : pThere page ms = false) : unmapR page (insL (page, o, q) ms) = ms ∧ (spValid (insL (page, o, q) ms) && pThere page (insL (page, o, q) ms)) = true := by
  unfold unmapR
  rw [hv, if_pos rfl]
  refine ⟨unmapL_insL (x := (page, o, q)) ht, ?_⟩
  rw [pThere_look, look_insL (x := (page, o, q)) page ht, if_pos rfl]
  rfl
/-- Whether all rights of a set are in another one. -/
def withinB (a b : Int) : Bool := inB a 0 15 && inB b 0 15 && covB a b
theorem ins_tr {page o q r c u d : Int} {ms : List Mp} (hv : spValid (insL (page, o, q) ms) = true) (ht : pThere page ms = false) (hp : 0 ≤ page ∧ page ≤ 255) (hr : 0 ≤ r ∧ r ≤ 15) (hc : 0 ≤ c ∧ c ≤ 15) (hu : 0 ≤ u ∧ u ≤ 15) (hd : 0 ≤ d ∧ d ≤ 255) (hq : q = bits .and .i64 (bits .and .i64 u c) 3) :
    trOf (insL (page, o, q) ms) (page * 256 + d) r = if (withinB r c && withinB r u && withinB r 3) = true then o * 256 + d else -1 := by
  have e : (page * 256 + d) / 256 = page := by omega
  have e2 : (page * 256 + d) % 256 = d := by omega
  have hl : lookP ((page * 256 + d) / 256) (insL (page, o, q) ms) = some (page, o, q) := by rw [e, look_insL (x := (page, o, q)) page ht, if_pos rfl]
  have hw : (withinB r c && withinB r u && withinB r 3) = covB r q := by
    unfold withinB
    rw [inB_iff.2 hr, inB_iff.2 hc, inB_iff.2 hu, hq, meet_cov hr hu hc]
    rfl
  rw [hw]
  cases hcv : covB r q with
  | true => rw [tr_val hv (inB_iff.2 (by omega)) (inB_iff.2 hr) hl hcv, e2]; rfl
  | false => rw [tr_uncov hl hcv]; rfl
theorem map_order {ms : List Mp} {p1 k1 o1 r1 b1 u1 p2 k2 o2 r2 b2 u2 : Int} (h1 : (mapR p1 k1 o1 r1 b1 u1 ms).2 = true) (h2 : (mapR p2 k2 o2 r2 b2 u2 (mapR p1 k1 o1 r1 b1 u1 ms).1).2 = true) :
    (mapR p2 k2 o2 r2 b2 u2 ms).2 = true ∧ mapR p1 k1 o1 r1 b1 u1 (mapR p2 k2 o2 r2 b2 u2 ms).1 = mapR p2 k2 o2 r2 b2 u2 (mapR p1 k1 o1 r1 b1 u1 ms).1 := by
  obtain ⟨q1, hq1, rfl, hv, hp1, ho1, hr1, rfl, hu1, hqq1, ht1, hl1, e1⟩ := mapR_ok h1
  rw [e1] at h2 ⊢
  obtain ⟨q2, hq2, rfl, hv2, hp2, ho2, hr2, rfl, hu2, hqq2, ht2, hl2, e2⟩ := mapR_ok h2
  simp only at ht2 hl2 e2 hv2
  have hne : p1 ≠ p2 := by
    intro e
    rw [← e, pThere_look, look_insL (x := (p1, o1, q1)) p1 ht1, if_pos rfl] at ht2
    cases ht2
  have ht2' : pThere p2 ms = false := by
    rw [pThere_look, look_insL (x := (p1, o1, q1)) p2 ht1, if_neg (Ne.symm hne)] at ht2
    rw [pThere_look]; exact ht2
  rw [insL_len] at hl2
  have put : ∀ (p o r u q : Int) (l : List Mp), q = bits .and .i64 (bits .and .i64 u r) 3 → spValid l = true → 0 ≤ p ∧ p ≤ 255 → 0 ≤ o ∧ o ≤ 99 → 0 ≤ r ∧ r ≤ 15 → 0 ≤ u ∧ u ≤ 15 → 1 ≤ q → pThere p l = false → l.length ≤ 19 → mapR p 6 o r 0 u l = (insL (p, o, q) l, true) := by
    intro p o r u q l hq hv hp ho hr hu hq1 ht hl
    unfold mapR mapOk
    rw [hv, inB_iff.2 hp, inB_iff.2 hu, show capB 6 o r 0 = true by unfold capB; simp [inB_iff.2 ho, inB_iff.2 hr]; decide, ← hq]
    simp only [Bool.true_and, beq_self_eq_true, if_true]
    exact mapL_ins (by rw [ht]; simp; omega)
  have f2 := put p2 o2 r2 u2 q2 ms hq2 hv hp2 ho2 hr2 hu2 hqq2.1 ht2' (by omega)
  refine ⟨by rw [f2], ?_⟩
  rw [f2]
  simp only
  have hvv := ins_valid hv hp2 ho2 hqq2 ht2' (by omega)
  have ht1' : pThere p1 (insL (p2, o2, q2) ms) = false := by
    rw [pThere_look, look_insL (x := (p2, o2, q2)) p1 ht2', if_neg hne, ← pThere_look]; exact ht1
  rw [put p1 o1 r1 u1 q1 _ hq1 hvv hp1 ho1 hr1 hu1 hqq1.1 ht1' (by rw [insL_len]; omega), e2, insL_comm (x := (p1, o1, q1)) (y := (p2, o2, q2)) hne]
end Go.Proofs.Yteahiiflgiimnaa
