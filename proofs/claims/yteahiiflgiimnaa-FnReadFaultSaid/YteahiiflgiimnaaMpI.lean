/-
  A page mapped: what becomes of the address space, said of lists. No program is walked here.
-/
import Derived.Test.YteahiiflgiimnaaMpE
import Derived.Test.YteahiiflgiimnaaCap
namespace Go.Proofs.Yteahiiflgiimnaa
open Go.RowKit

def mapOk (page k o r b rights : Int) (ms : List Mp) : Bool := spValid ms && inB page 0 255 && capB k o r b && k == 6 && inB rights 0 15
/-- The address space with one mapping more, and whether there is one more. -/
def mapL (page o q : Int) (ms : List Mp) : List Mp × Bool :=
  if pThere page ms || q == 0 || decide (ms.length = 20) then (ms, false) else (ms.take (pAt page ms) ++ ([(page, o, q)] ++ ms.drop (pAt page ms)), true)
def mapR (page k o r b rights : Int) (ms : List Mp) : List Mp × Bool :=
  if mapOk page k o r b rights ms then mapL page o (bits .and .i64 (bits .and .i64 rights r) 3) ms else ([], false)
theorem mapL_same {page o q : Int} {ms : List Mp} (h : (pThere page ms || q == 0 || decide (ms.length = 20)) = true) : mapL page o q ms = (ms, false) := by unfold mapL; rw [if_pos h]
theorem mapL_more {page o q : Int} {ms : List Mp} (h : (pThere page ms || q == 0 || decide (ms.length = 20)) = false) : mapL page o q ms = (ms.take (pAt page ms) ++ ([(page, o, q)] ++ ms.drop (pAt page ms)), true) := by
  unfold mapL; rw [if_neg (by rw [h]; exact Bool.false_ne_true)]

/-- One mapping put in at its place. -/
def insL (x : Mp) : List Mp → List Mp
  | [] => [x]
  | m :: r => if m.1 < x.1 then m :: insL x r else x :: m :: r
theorem insL_eq (x : Mp) : ∀ ms : List Mp, ms.take (pAt x.1 ms) ++ ([x] ++ ms.drop (pAt x.1 ms)) = insL x ms
  | [] => rfl
  | m :: r => by
    rw [pAt, insL]
    by_cases h : m.1 < x.1
    · rw [if_pos h, if_pos h, List.take_succ_cons, List.drop_succ_cons, List.cons_append, insL_eq x r]
    · rw [if_neg h, if_neg h]; rfl
theorem insL_len (x : Mp) : ∀ ms : List Mp, (insL x ms).length = ms.length + 1
  | [] => rfl
  | m :: r => by rw [insL]; split <;> simp [insL_len x r]
theorem insL_from {x : Mp} : ∀ {ms : List Mp} {l : Int}, spFrom l ms = true → mpOk l x = true → pThere x.1 ms = false → spFrom l (insL x ms) = true
  | [], l, _, hx, _ => by rw [insL]; exact spFrom_cons.2 ⟨hx, rfl⟩
  | m :: r, l, h, hx, ht => by
    obtain ⟨h1, h2⟩ := spFrom_cons.1 h
    have k1 := mpOk_iff.1 h1
    have k2 := mpOk_iff.1 hx
    rw [pThere_cons] at ht
    rw [insL]
    by_cases hlt : m.1 < x.1
    · rw [if_pos hlt] at ht ⊢
      exact spFrom_cons.2 ⟨h1, insL_from h2 (mpOk_iff.2 ⟨⟨hlt, k2.1.2⟩, k2.2⟩) ht⟩
    · rw [if_neg hlt] at ht ⊢
      have hne : m.1 ≠ x.1 := by simpa using ht
      exact spFrom_cons.2 ⟨hx, spFrom_cons.2 ⟨mpOk_iff.2 ⟨⟨by omega, k1.1.2⟩, k1.2⟩, h2⟩⟩
theorem look_nil (p : Int) : lookP p [] = none := rfl
theorem look_insL {x : Mp} (p : Int) : ∀ {ms : List Mp}, pThere x.1 ms = false → lookP p (insL x ms) = if p = x.1 then some x else lookP p ms
  | [], _ => by
    rw [insL, look_cons, look_nil]
    by_cases h : p = x.1
    · rw [if_neg (by omega), if_pos (by simp [h]), if_pos h]
    · rw [if_neg h]
      split
      · rfl
      · rw [if_neg (by rw [beq_iff_eq]; omega)]
  | m :: r, ht => by
    rw [pThere_cons] at ht
    rw [insL]
    by_cases hlt : m.1 < x.1
    · rw [if_pos hlt] at ht ⊢
      rw [look_cons, look_cons, look_insL p ht]
      by_cases h : p = x.1
      · rw [if_pos (by omega), if_pos h, if_pos h]
      · rw [if_neg h, if_neg h]
    · rw [if_neg hlt] at ht ⊢
      have hne : m.1 ≠ x.1 := by simpa using ht
      rw [look_cons]
      by_cases h : p = x.1
      · rw [if_neg (by omega), if_pos (by simp [h]), if_pos h]
      · rw [if_neg h]
        by_cases hxp : x.1 < p
        · rw [if_pos hxp]
        · rw [if_neg hxp, if_neg (by rw [beq_iff_eq]; omega), look_cons, if_neg (by omega), if_neg (by rw [beq_iff_eq]; omega)]
theorem pThere_look (p : Int) (ms : List Mp) : pThere p ms = (lookP p ms).isSome := by
  cases h : pThere p ms with
  | false => rw [look_none h]; rfl
  | true => obtain ⟨m, _, _, hl⟩ := look_some h; rw [hl]; rfl
theorem unmapL_insL {x : Mp} : ∀ {ms : List Mp}, pThere x.1 ms = false → unmapL x.1 (insL x ms) = ms
  | [], _ => by rw [insL, unmapL_cons, if_neg (by omega), if_pos (by simp)]
  | m :: r, ht => by
    rw [pThere_cons] at ht
    rw [insL]
    by_cases hlt : m.1 < x.1
    · rw [if_pos hlt] at ht ⊢
      rw [unmapL_cons, if_pos hlt, unmapL_insL ht]
    · rw [if_neg hlt, unmapL_cons, if_neg (by omega), if_pos (by simp)]
theorem insL_comm {x y : Mp} (h : x.1 ≠ y.1) : ∀ ms : List Mp, insL x (insL y ms) = insL y (insL x ms)
  | [] => by
    by_cases h1 : y.1 < x.1
    · simp only [insL]; rw [if_pos h1, if_neg (by omega)]
    · simp only [insL]; rw [if_neg h1, if_pos (by omega)]
  | m :: r => by
    by_cases h1 : m.1 < x.1 <;> by_cases h2 : m.1 < y.1
    · simp only [insL, if_pos h1, if_pos h2, insL_comm h r]
    · simp only [insL, if_pos h1, if_neg h2]; rw [if_pos (by omega)]
    · simp only [insL, if_neg h1, if_pos h2]; rw [if_pos (by omega)]
    · by_cases h3 : y.1 < x.1
      · simp only [insL, if_neg h1, if_neg h2]; rw [if_pos h3, if_neg (by omega)]
      · simp only [insL, if_neg h1, if_neg h2]; rw [if_neg h3, if_pos (by omega)]
theorem spFrom_mono {l l' : Int} (hl : l' ≤ l) : ∀ {ms : List Mp}, spFrom l ms = true → spFrom l' ms = true
  | [], _ => rfl
  | m :: r, h => by
    obtain ⟨h1, h2⟩ := spFrom_cons.1 h
    have k1 := mpOk_iff.1 h1
    exact spFrom_cons.2 ⟨mpOk_iff.2 ⟨⟨by omega, k1.1.2⟩, k1.2⟩, h2⟩
theorem look_low {p l : Int} {ms : List Mp} (h : spFrom l ms = true) (hp : p ≤ l) : lookP p ms = none := by
  cases hm : lookP p ms with
  | none => rfl
  | some m =>
    obtain ⟨h1, h2⟩ := look_mem hm
    have := spFrom_mem h m h1
    omega
theorem unmapL_from (page : Int) : ∀ {ms : List Mp} {l : Int}, spFrom l ms = true → spFrom l (unmapL page ms) = true
  | [], _, _ => rfl
  | m :: r, l, h => by
    obtain ⟨h1, h2⟩ := spFrom_cons.1 h
    have k1 := mpOk_iff.1 h1
    rw [unmapL_cons]
    split
    · exact spFrom_cons.2 ⟨h1, unmapL_from page h2⟩
    · split
      · exact spFrom_mono (by omega) h2
      · exact h
theorem look_unmapL (p page : Int) : ∀ {ms : List Mp} {l : Int}, spFrom l ms = true → lookP p (unmapL page ms) = if p = page then none else lookP p ms
  | [], _, _ => by split <;> rfl
  | m :: r, l, h => by
    obtain ⟨h1, h2⟩ := spFrom_cons.1 h
    rw [unmapL_cons]
    by_cases hlt : m.1 < page
    · rw [if_pos hlt, look_cons, look_cons, look_unmapL p page h2]
      by_cases h : p = page
      · rw [if_pos (by omega), if_pos h, if_pos h]
      · rw [if_neg h, if_neg h]
    · rw [if_neg hlt]
      by_cases he : m.1 = page
      · rw [if_pos (by simpa using he), look_cons]
        by_cases h : p = page
        · rw [if_pos h]; exact look_low h2 (by omega)
        · rw [if_neg h]
          by_cases hp : m.1 < p
          · rw [if_pos hp]
          · rw [if_neg hp, if_neg (by rw [beq_iff_eq]; omega)]; exact look_low h2 (by omega)
      · rw [if_neg (by simpa using he)]
        by_cases h : p = page
        · rw [if_pos h, look_cons, if_neg (by omega), if_neg (by rw [beq_iff_eq]; omega)]
        · rw [if_neg h]
theorem filter_from (c : Mp → Bool) : ∀ {ms : List Mp} {l : Int}, spFrom l ms = true → spFrom l (ms.filter c) = true
  | [], _, _ => rfl
  | m :: r, l, h => by
    obtain ⟨h1, h2⟩ := spFrom_cons.1 h
    have k1 := mpOk_iff.1 h1
    rw [List.filter_cons]
    split
    · exact spFrom_cons.2 ⟨h1, filter_from c h2⟩
    · exact filter_from c (spFrom_mono (by omega) h2)
theorem look_filter (c : Mp → Bool) (p : Int) : ∀ {ms : List Mp} {l : Int}, spFrom l ms = true → lookP p (ms.filter c) = (lookP p ms).filter c
  | [], _, _ => rfl
  | m :: r, l, h => by
    obtain ⟨h1, h2⟩ := spFrom_cons.1 h
    have ih := look_filter c p h2
    rw [List.filter_cons, look_cons]
    cases hc : c m with
    | true =>
      rw [if_pos rfl, look_cons]
      by_cases hp : m.1 < p
      · rw [if_pos hp, if_pos hp, ih]
      · rw [if_neg hp, if_neg hp]
        by_cases he : m.1 = p
        · rw [if_pos (by simpa using he)]; simp [Option.filter, hc]
        · rw [if_neg (by simpa using he)]; rfl
    | false =>
      rw [if_neg Bool.false_ne_true, ih]
      by_cases hp : m.1 < p
      · rw [if_pos hp]
      · rw [if_neg hp, look_low h2 (by omega)]
        by_cases he : m.1 = p
        · rw [if_pos (by simpa using he)]; simp [Option.filter, hc]
        · rw [if_neg (by simpa using he)]
/-- What an address space of one mapping more is. -/
theorem mapL_ins {page o q : Int} {ms : List Mp} (h : (pThere page ms || q == 0 || decide (ms.length = 20)) = false) : mapL page o q ms = (insL (page, o, q) ms, true) := by
  rw [mapL_more h]; exact congrArg (fun x => (x, true)) (insL_eq (page, o, q) ms)
theorem mapL_cases (page o q : Int) (ms : List Mp) : mapL page o q ms = (ms, false) ∨ (pThere page ms = false ∧ q ≠ 0 ∧ ms.length ≠ 20 ∧ mapL page o q ms = (insL (page, o, q) ms, true)) := by
  cases h : (pThere page ms || q == 0 || decide (ms.length = 20)) with
  | true => exact .inl (mapL_same h)
  | false =>
    refine .inr ⟨?_, ?_, ?_, mapL_ins h⟩ <;> simp only [Bool.or_eq_false_iff, decide_eq_false_iff_not, beq_eq_false_iff_ne, ne_eq] at h
    · exact h.1.1
    · exact h.1.2
    · exact h.2
theorem mapL_len (page o q : Int) (ms : List Mp) (h : ms.length ≤ 20) : (mapL page o q ms).1.length ≤ 20 := by
  rcases mapL_cases page o q ms with e | ⟨_, _, hl, e⟩
  · rw [e]; exact h
  · rw [e]; show (insL _ _).length ≤ 20; rw [insL_len]; omega
theorem spValid_iff {ms : List Mp} : spValid ms = true ↔ spFrom (-1) ms = true ∧ ms.length ≤ 20 := by
  unfold spValid; simp only [Bool.and_eq_true, decide_eq_true_eq]
theorem mapL_valid {page o q : Int} {ms : List Mp} (h : spValid ms = true) (hp : 0 ≤ page ∧ page ≤ 255) (ho : 0 ≤ o ∧ o ≤ 99) (hq : 0 ≤ q ∧ q ≤ 3) : spValid (mapL page o q ms).1 = true := by
  obtain ⟨h1, h2⟩ := spValid_iff.1 h
  rcases mapL_cases page o q ms with e | ⟨ht, hq0, hl, e⟩
  · rw [e]; exact h
  · rw [e]
    exact spValid_iff.2 ⟨insL_from h1 (mpOk_iff.2 ⟨⟨by show -1 < page; omega, hp.2⟩, ho, ⟨by show 1 ≤ q; omega, hq.2⟩⟩) ht, by rw [insL_len]; omega⟩
theorem mapR_len (page k o r b rights : Int) (ms : List Mp) : (mapR page k o r b rights ms).1.length ≤ 20 := by
  unfold mapR
  split
  · rename_i h
    unfold mapOk at h
    simp only [Bool.and_eq_true] at h
    exact mapL_len _ _ _ _ (spValid_len h.1.1.1.1)
  · simp
theorem unmapL_valid {page : Int} {ms : List Mp} (h : spValid ms = true) : spValid (unmapL page ms) = true := by
  obtain ⟨h1, h2⟩ := spValid_iff.1 h
  exact spValid_iff.2 ⟨unmapL_from page h1, Nat.le_trans (unmapL_len page ms) h2⟩

/-- Sets of rights, as numbers of four bits. -/
theorem meet_all : ∀ a b : Fin 16, (0 ≤ bits .and .i64 (bits .and .i64 ((a : Nat) : Int) ((b : Nat) : Int)) 3 ∧ bits .and .i64 (bits .and .i64 ((a : Nat) : Int) ((b : Nat) : Int)) 3 ≤ 3) := by decide +kernel
theorem meet_range {a b : Int} (ha : 0 ≤ a ∧ a ≤ 15) (hb : 0 ≤ b ∧ b ≤ 15) : 0 ≤ bits .and .i64 (bits .and .i64 a b) 3 ∧ bits .and .i64 (bits .and .i64 a b) 3 ≤ 3 := by
  have h := meet_all ⟨a.toNat, by omega⟩ ⟨b.toNat, by omega⟩
  simp only [Int.toNat_of_nonneg ha.1, Int.toNat_of_nonneg hb.1] at h
  exact h
theorem meet_cov_all : ∀ x a b : Fin 16, covB ((x : Nat) : Int) (bits .and .i64 (bits .and .i64 ((a : Nat) : Int) ((b : Nat) : Int)) 3) = (covB ((x : Nat) : Int) ((b : Nat) : Int) && covB ((x : Nat) : Int) ((a : Nat) : Int) && covB ((x : Nat) : Int) 3) := by decide +kernel
theorem meet_cov {x a b : Int} (hx : 0 ≤ x ∧ x ≤ 15) (ha : 0 ≤ a ∧ a ≤ 15) (hb : 0 ≤ b ∧ b ≤ 15) : covB x (bits .and .i64 (bits .and .i64 a b) 3) = (covB x b && covB x a && covB x 3) := by
  have h := meet_cov_all ⟨x.toNat, by omega⟩ ⟨a.toNat, by omega⟩ ⟨b.toNat, by omega⟩
  simp only [Int.toNat_of_nonneg ha.1, Int.toNat_of_nonneg hb.1, Int.toNat_of_nonneg hx.1] at h
  exact h
theorem cov_zero_all : ∀ q : Fin 16, covB 0 ((q : Nat) : Int) = true := by decide +kernel
theorem cov_zero {q : Int} (hq : 0 ≤ q ∧ q ≤ 15) : covB 0 q = true := by
  have h := cov_zero_all ⟨q.toNat, by omega⟩
  simp only [Int.toNat_of_nonneg hq.1] at h
  exact h
theorem capB_iff6 {o r b : Int} (h : capB 6 o r b = true) : (0 ≤ o ∧ o ≤ 99) ∧ (0 ≤ r ∧ r ≤ 15) ∧ b = 0 := by
  unfold capB badgedB at h
  rw [if_neg (by decide)] at h
  simp only [Bool.and_eq_true, inB_iff, Bool.or_eq_true, beq_iff_eq] at h
  refine ⟨h.1.1.2, h.1.2, ?_⟩
  rcases h.2 with h | h
  · exact h
  · exact absurd h.1 (by decide)
end Go.Proofs.Yteahiiflgiimnaa
