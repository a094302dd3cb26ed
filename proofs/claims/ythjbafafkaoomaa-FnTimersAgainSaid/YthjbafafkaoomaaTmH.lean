/-
  A timer set: what becomes of the list, said of lists. No program is walked here.
-/
import Derived.Test.YthjbafafkaoomaaTmG
namespace Go.Proofs.Ythjbafafkaoomaa
open Go.RowKit

/-- One timer put in behind all that are not later. -/
def insT (x : Tm) : List Tm → List Tm
  | [] => [x]
  | m :: r => if m.2 ≤ x.2 then m :: insT x r else x :: m :: r
/-- Where it comes. -/
def tAt (v : Int) : List Tm → Nat
  | [] => 0
  | m :: r => if m.2 ≤ v then tAt v r + 1 else 0
theorem tAt_le (v : Int) : ∀ ms : List Tm, tAt v ms ≤ ms.length
  | [] => Nat.le_refl _
  | m :: r => by unfold tAt; have := tAt_le v r; split <;> simp <;> omega
theorem tAt_drop (v : Int) : ∀ (ms : List Tm) (k : Nat), (∀ i, i < k → ∃ m, ms[i]? = some m ∧ m.2 ≤ v) → tAt v ms = tAt v (ms.drop k) + k
  | ms, 0, _ => by simp
  | [], k + 1, h => by obtain ⟨m, hm, _⟩ := h 0 (by omega); simp at hm
  | m :: r, k + 1, h => by
    obtain ⟨m', hm, hlt⟩ := h 0 (by omega)
    simp only [List.getElem?_cons_zero, Option.some.injEq] at hm
    subst hm
    have ih := tAt_drop v r k fun i hi => by simpa using h (i + 1) (by omega)
    rw [tAt, if_pos hlt, ih, List.drop_succ_cons]
    omega
theorem insT_eq (x : Tm) : ∀ ms : List Tm, ms.take (tAt x.2 ms) ++ ([x] ++ ms.drop (tAt x.2 ms)) = insT x ms
  | [] => rfl
  | m :: r => by
    rw [tAt, insT]
    by_cases h : m.2 ≤ x.2
    · rw [if_pos h, if_pos h, List.take_succ_cons, List.drop_succ_cons, List.cons_append, insT_eq x r]
    · rw [if_neg h, if_neg h]; rfl
theorem insT_len (x : Tm) : ∀ ms : List Tm, (insT x ms).length = ms.length + 1
  | [] => rfl
  | m :: r => by rw [insT]; split <;> simp [insT_len x r]
theorem insT_head {x : Tm} {ms : List Tm} (h : ∀ y ∈ ms, x.2 < y.2) : insT x ms = x :: ms := by
  cases ms with
  | nil => rfl
  | cons m r => rw [insT, if_neg (by have := h m (by simp); omega)]
theorem insT_mem {x y : Tm} : ∀ {ms : List Tm}, y ∈ insT x ms → y = x ∨ y ∈ ms
  | [], h => by simp [insT] at h; exact .inl h
  | m :: r, h => by
    rw [insT] at h
    split at h
    · rcases List.mem_cons.1 h with rfl | h
      · exact .inr (by simp)
      · rcases insT_mem h with h | h
        · exact .inl h
        · exact .inr (by simp [h])
    · rcases List.mem_cons.1 h with h | h
      · exact .inl h
      · exact .inr h
theorem setK_fold (t v : Int) (ms : List Tm) : ∀ k, k ≤ ms.length → setK t v ms k = (ms.take k).foldl (fun r x => setB t (setA t v r x) x) ([], false)
  | 0, _ => rfl
  | k + 1, h => by
    obtain ⟨x, hx⟩ := get_of_lt (rfl : ms.length = ms.length) (show k < ms.length by omega)
    rw [setK_step hx, take_of_get hx, List.foldl_append, ← setK_fold t v ms k (by omega)]
    rfl
theorem wot_cons (t : Int) (m : Tm) (r : List Tm) : wot t (m :: r) = if m.1 = t then wot t r else m :: wot t r := by
  unfold wot
  rw [List.filter_cons]
  by_cases h : m.1 = t
  · rw [if_pos h, if_neg (by simp [isT, h])]
  · rw [if_neg h, if_pos (by simp [isT, h])]
theorem setB_same {t : Int} {m : Tm} (h : m.1 = t) (r : List Tm × Bool) : setB t r m = r := by unfold setB; rw [if_pos h]
theorem setB_add {t : Int} {m : Tm} (h : ¬ m.1 = t) (xs : List Tm) (p : Bool) : setB t (xs, p) m = (xs ++ [m], p) := by unfold setB; rw [if_neg h]
theorem fold_true (t v : Int) : ∀ (ms acc : List Tm), ms.foldl (fun r x => setB t (setA t v r x) x) (acc, true) = (acc ++ wot t ms, true)
  | [], acc => by simp [wot]
  | m :: r, acc => by
    have ea : setA t v (acc, true) m = (acc, true) := by unfold setA; rw [if_neg (by simp)]
    rw [List.foldl_cons, ea, wot_cons]
    by_cases h : m.1 = t
    · rw [setB_same h, if_pos h]; exact fold_true t v r acc
    · rw [setB_add h, if_neg h, fold_true t v r (acc ++ [m]), List.append_assoc]; rfl
theorem fold_ins (t v : Int) {all : List Tm} : ∀ (ms acc : List Tm) (l : Int) (k : Nat), tFrom all l k ms = true →
    (if (ms.foldl (fun r x => setB t (setA t v r x) x) (acc, false)).2 = true then (ms.foldl (fun r x => setB t (setA t v r x) x) (acc, false)).1 else (ms.foldl (fun r x => setB t (setA t v r x) x) (acc, false)).1 ++ [(t, v)]) = acc ++ insT (t, v) (wot t ms)
  | [], acc, _, _, _ => rfl
  | m :: r, acc, l, k, h => by
    have h2 : tFrom all m.2 (k + 1) r = true := by
      have : (tOk all l k m && tFrom all m.2 (k + 1) r) = true := h
      simp only [Bool.and_eq_true] at this; exact this.2
    have hge := tFrom_ge h2
    rw [List.foldl_cons, wot_cons]
    by_cases hp : v < m.2
    · have ea : setA t v (acc, false) m = (acc ++ [(t, v)], true) := by unfold setA; rw [if_pos (by rw [decide_eq_true hp]; rfl)]
      rw [ea]
      by_cases ht : m.1 = t
      · rw [setB_same ht, if_pos ht, fold_true, if_pos rfl, insT_head (fun y hy => by
          have := hge y (List.mem_filter.1 hy).1
          show v < y.2; omega), List.append_assoc]
        rfl
      · rw [setB_add ht, if_neg ht, fold_true, if_pos rfl, insT, if_neg (by show ¬ m.2 ≤ v; omega)]
        simp
    · have ea : setA t v (acc, false) m = (acc, false) := by unfold setA; rw [if_neg (by simp; omega)]
      rw [ea]
      by_cases ht : m.1 = t
      · rw [setB_same ht, if_pos ht]
        exact fold_ins t v r acc m.2 (k + 1) h2
      · have e := fold_ins t v r (acc ++ [m]) m.2 (k + 1) h2
        have ei : insT (t, v) (m :: wot t r) = m :: insT (t, v) (wot t r) := by rw [insT, if_pos (by show m.2 ≤ v; omega)]
        rw [setB_add ht, if_neg ht, ei]
        refine e.trans ?_
        simp
theorem setR_eq (t v : Int) (ms : List Tm) : setR t v ms = if setOk t v ms = true then insT (t, v) (wot t ms) else [] := by
  unfold setR
  by_cases h : setOk t v ms = true
  · rw [if_pos h, if_pos h]
    have hv : tmValid ms = true := by unfold setOk at h; simp only [Bool.and_eq_true] at h; exact h.1.1
    unfold tmValid at hv
    simp only [Bool.and_eq_true] at hv
    have e := setK_fold t v ms ms.length (Nat.le_refl _)
    rw [List.take_of_length_le (Nat.le_refl _)] at e
    rw [e]
    have := fold_ins t v ms [] 0 0 hv.1
    simpa using this
  · rw [if_neg h, if_neg h]
/-- Each thread once: there is room for one that has none. -/
def cntS (l : List Tm) : Nat → Nat
  | 0 => 0
  | n + 1 => cntS l n + (l.filter (isT (n : Nat))).length
theorem cntS_cons (y : Tm) (l : List Tm) : ∀ n, cntS (y :: l) n = cntS l n + if 0 ≤ y.1 ∧ y.1 < n then 1 else 0
  | 0 => by
    rw [if_neg (by omega)]; rfl
  | n + 1 => by
    have e1 : ((y :: l).filter (isT (n : Nat))).length = (l.filter (isT (n : Nat))).length + if y.1 = (n : Int) then 1 else 0 := by
      rw [List.filter_cons]
      by_cases h : y.1 = (n : Int) <;> simp [isT, h]
    show cntS (y :: l) n + ((y :: l).filter (isT (n : Nat))).length = cntS l n + (l.filter (isT (n : Nat))).length + _
    rw [cntS_cons y l n, e1]
    split <;> split <;> split <;> omega
theorem cntS_len (n : Nat) : ∀ l : List Tm, (∀ y ∈ l, 0 ≤ y.1 ∧ y.1 < n) → l.length = cntS l n
  | [], _ => by
    have : ∀ n, cntS [] n = 0 := by
      intro n
      induction n with
      | zero => rfl
      | succ n ih => show cntS [] n + _ = 0; rw [ih]; rfl
    rw [this]; rfl
  | y :: l, h => by
    rw [cntS_cons, if_pos (h y (by simp)), ← cntS_len n l (fun z hz => h z (by simp [hz]))]; rfl
theorem cntS_le (l : List Tm) (h : ∀ t, (l.filter (isT t)).length ≤ 1) : ∀ n, cntS l n ≤ n
  | 0 => Nat.le_refl _
  | n + 1 => by show cntS l n + _ ≤ n + 1; have := cntS_le l h n; have := h (n : Nat); omega
theorem cntS_lt (l : List Tm) (h : ∀ t, (l.filter (isT t)).length ≤ 1) (t : Nat) (h0 : (l.filter (isT (t : Nat))).length = 0) : ∀ n, t < n → cntS l n + 1 ≤ n
  | 0, ht => by omega
  | n + 1, ht => by
    show cntS l n + _ + 1 ≤ n + 1
    by_cases he : t = n
    · subst he
      have := cntS_le l h t; omega
    · have := cntS_lt l h t h0 n (by omega); have := h (n : Nat); omega
theorem tSeq_mem : ∀ (r b : List Tm) (q : Option Int), tSeq q b r = true → ∀ y ∈ r, 0 ≤ y.1 ∧ y.1 ≤ 15
  | [], _, _, _, y, hy => by simp at hy
  | m :: r, b, q, h, y, hy => by
    have h' : (!tBad q m && !(b.any (isT m.1)) && tSeq (some m.2) (b ++ [m]) r) = true := h
    simp only [Bool.and_eq_true, Bool.not_eq_true'] at h'
    rcases List.mem_cons.1 hy with rfl | hy
    · have := h'.1.1
      unfold tBad at this
      simp only [Bool.or_eq_false_iff, Bool.not_eq_false'] at this
      exact inB_iff.1 this.1.1
    · exact tSeq_mem r _ _ h'.2 y hy
theorem tSeq_swap : ∀ (r b b' : List Tm) (q : Option Int), (∀ y ∈ r, b'.any (isT y.1) = true → b.any (isT y.1) = true) → tSeq q b r = true → tSeq q b' r = true
  | [], _, _, _, _, _ => rfl
  | m :: r, b, b', q, hb, h => by
    have h' : (!tBad q m && !(b.any (isT m.1)) && tSeq (some m.2) (b ++ [m]) r) = true := h
    simp only [Bool.and_eq_true, Bool.not_eq_true'] at h'
    show (!tBad q m && !(b'.any (isT m.1)) && tSeq (some m.2) (b' ++ [m]) r) = true
    have h2 : b'.any (isT m.1) = false := by
      rw [← Bool.not_eq_true]; intro hc
      have := hb m (by simp) hc
      rw [h'.1.2] at this; cases this
    rw [h'.1.1, h2, tSeq_swap r (b ++ [m]) (b' ++ [m]) _ (fun y hy => by
      simp only [List.any_append, Bool.or_eq_true]
      rintro (h | h)
      · exact .inl (hb y (by simp [hy]) h)
      · exact .inr h) h'.2]
    rfl
theorem tSeq_ins {x : Tm} : ∀ (r b : List Tm) (q : Option Int), tSeq q b r = true → (∀ y ∈ r, y.1 ≠ x.1) → b.any (isT x.1) = false → tBad q x = false → tSeq q b (insT x r) = true
  | [], b, q, _, _, hb, hq => by
    show (!tBad q x && !(b.any (isT x.1)) && tSeq (some x.2) (b ++ [x]) []) = true
    rw [hb, hq]; rfl
  | m :: r, b, q, h, hne, hb, hq => by
    have h' : (!tBad q m && !(b.any (isT m.1)) && tSeq (some m.2) (b ++ [m]) r) = true := h
    simp only [Bool.and_eq_true, Bool.not_eq_true'] at h'
    have hmx : m.1 ≠ x.1 := hne m (by simp)
    have hq2 : inB x.1 0 15 = true ∧ inB x.2 0 100000 = true := by
      unfold tBad at hq
      simp only [Bool.or_eq_false_iff, Bool.not_eq_false'] at hq
      exact hq.1
    rw [insT]
    by_cases hle : m.2 ≤ x.2
    · rw [if_pos hle]
      show (!tBad q m && !(b.any (isT m.1)) && tSeq (some m.2) (b ++ [m]) (insT x r)) = true
      rw [h'.1.1, h'.1.2, tSeq_ins r (b ++ [m]) (some m.2) h'.2 (fun y hy => hne y (by simp [hy])) (by simp [hb, isT, hmx]) (by unfold tBad; rw [hq2.1, hq2.2]; simp; omega)]
      rfl
    · rw [if_neg hle]
      show (!tBad q x && !(b.any (isT x.1)) && (!tBad (some x.2) m && !((b ++ [x]).any (isT m.1)) && tSeq (some m.2) (b ++ [x] ++ [m]) r)) = true
      have e1 : tBad (some x.2) m = false := by
        have := h'.1.1
        unfold tBad at this ⊢
        simp only [Bool.or_eq_false_iff] at this
        rw [this.1.1, this.1.2]; simp; omega
      have e2 : (b ++ [x]).any (isT m.1) = false := by
        rw [List.any_append, h'.1.2]; simp [isT]; exact fun h => hmx h.symm
      have e3 : tSeq (some m.2) (b ++ [x] ++ [m]) r = true := tSeq_swap r (b ++ [m]) _ _ (fun y hy => by
        simp only [List.any_append, Bool.or_eq_true, List.any_cons, List.any_nil, Bool.or_false]
        rintro ((h | h) | h)
        · exact .inl h
        · have : x.1 = y.1 := by simpa [isT] using h
          exact absurd this.symm (hne y (by simp [hy]))
        · exact .inr h) h'.2
      rw [hq, hb, e1, e2, e3]
      rfl
theorem mem_wot {t : Int} {ms : List Tm} {y : Tm} (h : y ∈ wot t ms) : y.1 ≠ t := by
  have := (List.mem_filter.1 h).2
  simpa [isT] using this
theorem setOk_iff {t v : Int} {ms : List Tm} : setOk t v ms = true ↔ tmValid ms = true ∧ (0 ≤ t ∧ t ≤ 15) ∧ (0 ≤ v ∧ v ≤ 100000) := by
  unfold setOk; simp only [Bool.and_eq_true, inB_iff, and_assoc]
theorem wot_room {t : Int} {ms : List Tm} (h : tmValid ms = true) (ht : 0 ≤ t ∧ t ≤ 15) : (wot t ms).length + 1 ≤ 16 := by
  have hv := tmValid_filter h (fun x => !isT t x)
  change tmValid (wot t ms) = true at hv
  rw [tmValid_seq] at hv
  simp only [Bool.and_eq_true] at hv
  have h1 := cntS_len 16 (wot t ms) (fun y hy => by have := tSeq_mem _ _ _ hv.1 y hy; omega)
  have h2 : ∀ t', ((wot t ms).filter (isT t')).length ≤ 1 := fun t' => by
    have := tSeq_one _ _ _ t' hv.1
    simpa using this
  have h3 := cntS_lt (wot t ms) h2 t.toNat (by
    have e : ((t.toNat : Nat) : Int) = t := Int.toNat_of_nonneg ht.1
    rw [e, List.filter_eq_nil_iff.2 (fun y hy => by have := mem_wot hy; simpa [isT] using this)]
    rfl) 16 (by omega)
  omega
theorem setR_valid {t v : Int} {ms : List Tm} (h : setOk t v ms = true) : tmValid (setR t v ms) = true := by
  obtain ⟨hv, ht, hw⟩ := setOk_iff.1 h
  rw [setR_eq, if_pos h, tmValid_seq]
  have h1 := tmValid_filter hv (fun x => !isT t x)
  change tmValid (wot t ms) = true at h1
  rw [tmValid_seq] at h1
  simp only [Bool.and_eq_true] at h1 ⊢
  refine ⟨tSeq_ins _ _ _ h1.1 (fun y hy => mem_wot hy) rfl ?_, ?_⟩
  · unfold tBad; rw [show inB t 0 15 = true from inB_iff.2 ht, show inB v 0 100000 = true from inB_iff.2 hw]; rfl
  · rw [insT_len]; exact decide_eq_true (wot_room hv ht)
theorem wot_ins (t v : Int) : ∀ ms : List Tm, wot t (insT (t, v) ms) = wot t ms
  | [] => by rw [insT, wot_cons, if_pos rfl]
  | m :: r => by
    rw [insT]
    split
    · rw [wot_cons, wot_cons, wot_ins t v r]
    · rw [wot_cons, if_pos rfl]
theorem wot_wot (t : Int) (ms : List Tm) : wot t (wot t ms) = wot t ms := wot_same (wot_none t ms)
theorem wot_setR {t v : Int} {ms : List Tm} (h : setOk t v ms = true) : wot t (setR t v ms) = wot t ms := by
  rw [setR_eq, if_pos h, wot_ins, wot_wot]
/-- The last time counts. -/
theorem setR_again {t v u : Int} {ms : List Tm} (h : setOk t v ms = true) (hu : 0 ≤ u ∧ u ≤ 100000) : setR t u (setR t v ms) = setR t u ms := by
  obtain ⟨hv, ht, _⟩ := setOk_iff.1 h
  rw [setR_eq t u (setR t v ms), setR_eq t u ms, if_pos (setOk_iff.2 ⟨setR_valid h, ht, hu⟩), if_pos (setOk_iff.2 ⟨hv, ht, hu⟩), wot_setR h]
theorem setR_none {t v : Int} {ms : List Tm} (h : ¬ setOk t v ms = true) : setR t v ms = [] := by rw [setR_eq, if_neg h]
theorem insT_at (x : Tm) : ∀ ms : List Tm, (insT x ms)[tAt x.2 ms]? = some x ∧ (∀ y, (insT x ms)[tAt x.2 ms + 1]? = some y → x.2 < y.2) ∧ ∀ k y, k ≠ tAt x.2 ms → (insT x ms)[k]? = some y → y ∈ ms ∨ x.2 < y.2 ∧ y ∈ ms
  | [] => by
    refine ⟨rfl, fun y h => by simp [insT, tAt] at h, fun k y hk h => ?_⟩
    rcases k with _ | k
    · exact absurd rfl hk
    · simp [insT] at h
  | m :: r => by
    obtain ⟨i1, i2, i3⟩ := insT_at x r
    rw [insT, tAt]
    by_cases hle : m.2 ≤ x.2
    · rw [if_pos hle, if_pos hle]
      refine ⟨by simpa using i1, fun y h => i2 y (by simpa using h), fun k y hk h => ?_⟩
      rcases k with _ | k
      · simp at h; subst h; exact .inl (by simp)
      · rcases i3 k y (by omega) (by simpa using h) with h | h
        · exact .inl (by simp [h])
        · exact .inl (by simp [h.2])
    · rw [if_neg hle, if_neg hle]
      refine ⟨rfl, fun y h => by simp at h; subst h; omega, fun k y hk h => ?_⟩
      rcases k with _ | k
      · exact absurd rfl hk
      · exact .inl (List.mem_of_getElem? (by simpa using h))
/-- The thread has one timer, at its place, and the next one is later. -/
theorem setR_one {t v : Int} {ms : List Tm} (h : setOk t v ms = true) : ∃ p, (setR t v ms)[p]? = some (t, v) ∧ (∀ y, (setR t v ms)[p + 1]? = some y → v < y.2) ∧ ∀ k y, k ≠ p → (setR t v ms)[k]? = some y → y.1 ≠ t := by
  rw [setR_eq, if_pos h]
  obtain ⟨i1, i2, i3⟩ := insT_at (t, v) (wot t ms)
  refine ⟨_, i1, i2, fun k y hk hy => ?_⟩
  rcases i3 k y hk hy with h | h
  · exact mem_wot h
  · exact mem_wot h.2
theorem setR_pos {t v : Int} {ms : List Tm} (h : setOk t v ms = true) : 0 < (setR t v ms).length := by rw [setR_eq, if_pos h, insT_len]; omega
theorem setR_len16 (t v : Int) (ms : List Tm) : (setR t v ms).length ≤ 16 := by
  by_cases h : setOk t v ms = true
  · exact tmValid_len (setR_valid h)
  · rw [setR_none h]; simp
end Go.Proofs.Ythjbafafkaoomaa
