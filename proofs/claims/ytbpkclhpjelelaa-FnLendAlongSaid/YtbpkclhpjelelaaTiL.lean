/-
  Amounts of time in plain Lean: lending, using, going around.
-/
import Derived.Test.YtbpkclhpjelelaaTiA
namespace Go.Proofs.Ytbpkclhpjelelaa
open Go.RowKit

def at0 (zs : List Int) (i : Nat) : Int := zs.getD i 0
theorem at0_get {zs : List Int} {i : Nat} {z : Int} (h : zs[i]? = some z) : at0 zs i = z := by unfold at0; rw [List.getD_eq_getElem?_getD, h]; rfl
theorem get_at0 {zs : List Int} {i : Nat} (h : i < zs.length) : zs[i]? = some (at0 zs i) := by
  unfold at0; rw [List.getD_eq_getElem?_getD, List.getElem?_eq_getElem h]; rfl
theorem at0_set (zs : List Int) (i j : Nat) (v : Int) (h : i < zs.length) : at0 (zs.set i v) j = if i = j then v else at0 zs j := by
  unfold at0
  rw [List.getD_eq_getElem?_getD, List.getD_eq_getElem?_getD, List.getElem?_set]
  by_cases hij : i = j
  · subst hij; simp [h]
  · simp [hij]
theorem ext_at0 {a b : List Int} (hl : a.length = b.length) (h : ∀ i, i < a.length → at0 a i = at0 b i) : a = b := by
  apply List.ext_getElem? ; intro i
  by_cases hi : i < a.length
  · rw [get_at0 hi, get_at0 (hl ▸ hi), h i hi]
  · rw [List.getElem?_eq_none (by omega), List.getElem?_eq_none (by omega)]
theorem sum_set : ∀ (zs : List Int) (i : Nat) (v : Int), i < zs.length → (zs.set i v).sum = zs.sum - at0 zs i + v
  | [], _, _, h => by simp at h
  | z :: zs, 0, v, _ => by simp [at0]; omega
  | z :: zs, i + 1, v, h => by
    have := sum_set zs i v (by simpa using h)
    simp only [List.set_cons_succ, List.sum_cons, this]
    have e : at0 (z :: zs) (i + 1) = at0 zs i := by simp [at0]
    rw [e]; omega
theorem tValid_iff {zs : List Int} : tValid zs = true ↔ (∀ i, i < zs.length → 0 ≤ at0 zs i ∧ at0 zs i ≤ 10000) ∧ zs.length ≤ 16 := by
  unfold tValid
  simp only [Bool.and_eq_true, decide_eq_true_eq, List.all_eq_true]
  refine and_congr_left' ⟨fun h i hi => ?_, fun h z hz => ?_⟩
  · have := h _ (List.mem_of_getElem? (get_at0 hi))
    exact inB_iff.1 this
  · obtain ⟨i, hi, e⟩ := List.getElem_of_mem hz
    have := h i hi
    rw [at0_get (List.getElem?_eq_some_iff.2 ⟨hi, e⟩)] at this
    exact inB_iff.2 this
theorem tValid_set {zs : List Int} (h : tValid zs = true) (i : Nat) (hi : i < zs.length) (v : Int) (h0 : 0 ≤ v) (h1 : v ≤ 10000) : tValid (zs.set i v) = true := by
  rw [tValid_iff] at h ⊢
  refine ⟨fun j hj => ?_, by rw [List.length_set]; exact h.2⟩
  rw [List.length_set] at hj
  rw [at0_set zs i j v hi]
  split
  · exact ⟨h0, h1⟩
  · exact h.1 j hj

def okT (zs : List Int) (a b x : Int) : Bool := tValid zs && inB a 0 ((zs.length : Int) - 1) && inB b 0 ((zs.length : Int) - 1) && decide (0 ≤ x)
theorem okT_iff {zs : List Int} {a b x : Int} : okT zs a b x = true ↔ tValid zs = true ∧ (0 ≤ a ∧ a ≤ (zs.length : Int) - 1) ∧ (0 ≤ b ∧ b ≤ (zs.length : Int) - 1) ∧ 0 ≤ x := by
  unfold okT; simp only [Bool.and_eq_true, decide_eq_true_eq, inB_iff, and_assoc]
/-- What is lent. -/
def lendT (zs : List Int) (a b : Nat) (x : Int) : List Int := (zs.set a (at0 zs a - x)).set b (at0 zs b + x)
def lendB (zs : List Int) (a b : Nat) (x : Int) : Bool := !decide (a = b) && decide (x ≤ at0 zs a) && decide (at0 zs b + x ≤ 10000)
/-- What LendTime hands back. -/
def lendL (zs : List Int) (a b x : Int) : List Int := if okT zs a b x = true then (if lendB zs a.toNat b.toNat x = true then lendT zs a.toNat b.toNat x else zs) else []
def lendO (zs : List Int) (a b x : Int) : Bool := okT zs a b x && lendB zs a.toNat b.toNat x
def useN (zs : List Int) (a x : Int) : Int := if okT zs a a x = true then min x (at0 zs a.toNat) else 0
def useL (zs : List Int) (a x : Int) : List Int := if okT zs a a x = true then zs.set a.toNat (at0 zs a.toNat - min x (at0 zs a.toNat)) else []

theorem lendT_len (zs : List Int) (a b : Nat) (x : Int) : (lendT zs a b x).length = zs.length := by unfold lendT; rw [List.length_set, List.length_set]
theorem lendT_at (zs : List Int) (a b j : Nat) (x : Int) (ha : a < zs.length) (hb : b < zs.length) : at0 (lendT zs a b x) j = if b = j then at0 zs b + x else if a = j then at0 zs a - x else at0 zs j := by
  unfold lendT; rw [at0_set _ _ _ _ (by rw [List.length_set]; exact hb), at0_set _ _ _ _ ha]
theorem lendT_valid {zs : List Int} {a b : Nat} {x : Int} (h : tValid zs = true) (ha : a < zs.length) (hb : b < zs.length) (hx : 0 ≤ x) (hB : lendB zs a b x = true) : tValid (lendT zs a b x) = true := by
  unfold lendB at hB
  simp only [Bool.and_eq_true, Bool.not_eq_true', decide_eq_false_iff_not, decide_eq_true_eq] at hB
  have h1 := (tValid_iff.1 h).1 a ha
  have h2 := (tValid_iff.1 h).1 b hb
  refine tValid_set (tValid_set h a ha _ (by omega) (by omega)) b (by rw [List.length_set]; exact hb) _ (by omega) (by omega)
theorem lendT_sum {zs : List Int} {a b : Nat} {x : Int} (ha : a < zs.length) (hb : b < zs.length) (hab : a ≠ b) : (lendT zs a b x).sum = zs.sum := by
  unfold lendT
  rw [sum_set _ b _ (by rw [List.length_set]; exact hb), sum_set _ a _ ha, at0_set _ _ _ _ ha, if_neg hab]; omega
theorem lendT_back {zs : List Int} {a b : Nat} {x : Int} (ha : a < zs.length) (hb : b < zs.length) (hab : a ≠ b) : lendT (lendT zs a b x) b a x = zs := by
  refine ext_at0 (by rw [lendT_len, lendT_len]) fun i hi => ?_
  rw [lendT_at _ b a i x (by rw [lendT_len]; exact hb) (by rw [lendT_len]; exact ha), lendT_at zs a b a x ha hb, lendT_at zs a b b x ha hb, lendT_at zs a b i x ha hb, if_neg (Ne.symm hab), if_pos rfl, if_pos rfl]
  by_cases h1 : a = i
  · subst h1; rw [if_pos rfl]; omega
  · by_cases h2 : b = i
    · subst h2; rw [if_neg h1, if_pos rfl]; omega
    · rw [if_neg h1, if_neg h2, if_neg h2, if_neg h1]
theorem lendB_back {zs : List Int} {a b : Nat} {x : Int} (h : tValid zs = true) (ha : a < zs.length) (hb : b < zs.length) (hB : lendB zs a b x = true) : lendB (lendT zs a b x) b a x = true := by
  unfold lendB at hB ⊢
  simp only [Bool.and_eq_true, Bool.not_eq_true', decide_eq_false_iff_not, decide_eq_true_eq] at hB ⊢
  have h1 := (tValid_iff.1 h).1 a ha
  have h2 := (tValid_iff.1 h).1 b hb
  rw [lendT_at zs a b a x ha hb, lendT_at zs a b b x ha hb, if_pos rfl, if_neg (Ne.symm hB.1.1), if_pos rfl]
  exact ⟨⟨Ne.symm hB.1.1, by omega⟩, by omega⟩

/-- A list of which the first has lent on, and number k has it. -/
def ringT (zs : List Int) (m : Int) (k : Nat) : List Int := if k = 0 ∨ k = zs.length then zs else lendT zs 0 k m
theorem ringT_len (zs : List Int) (m : Int) (k : Nat) : (ringT zs m k).length = zs.length := by
  unfold ringT; split
  · rfl
  · exact lendT_len ..
theorem ringT_step {zs : List Int} {m : Int} {k : Nat} (hk : k < zs.length) (hn : 2 ≤ zs.length) : lendT (ringT zs m k) k ((k + 1) % zs.length) m = ringT zs m (k + 1) := by
  by_cases hlast : k + 1 = zs.length
  · have e : ringT zs m k = lendT zs 0 k m := by unfold ringT; rw [if_neg (by omega)]
    have e2 : ringT zs m (k + 1) = zs := by unfold ringT; rw [if_pos (by omega)]
    rw [e, e2, hlast, Nat.mod_self]
    exact lendT_back (by omega) hk (by omega)
  · rw [Nat.mod_eq_of_lt (by omega)]
    have e2 : ringT zs m (k + 1) = lendT zs 0 (k + 1) m := by unfold ringT; rw [if_neg (by omega)]
    rw [e2]
    by_cases h0 : k = 0
    · subst h0; unfold ringT; rw [if_pos (by omega)]
    · have e : ringT zs m k = lendT zs 0 k m := by unfold ringT; rw [if_neg (by omega)]
      rw [e]
      refine ext_at0 (by rw [lendT_len, lendT_len, lendT_len]) fun i _ => ?_
      rw [lendT_at _ k (k + 1) i m (by rw [lendT_len]; omega) (by rw [lendT_len]; omega), lendT_at zs 0 k _ m (by omega) hk, lendT_at zs 0 k _ m (by omega) hk, lendT_at zs 0 k _ m (by omega) hk, lendT_at zs 0 (k + 1) i m (by omega) (by omega)]
      by_cases h1 : k + 1 = i
      · subst h1; rw [if_pos rfl, if_pos rfl, if_neg (by omega), if_neg (by omega)]
      · rw [if_neg h1, if_neg h1, if_pos rfl]
        by_cases h2 : k = i
        · subst h2; rw [if_pos rfl, if_neg (by omega)]; omega
        · rw [if_neg h2, if_neg h2]
theorem ring_lend {zs : List Int} {m : Int} {k : Nat} (hk : k < zs.length) (hn : 2 ≤ zs.length) (hO : lendO (ringT zs m k) k (((k + 1) % zs.length : Nat) : Int) m = true) : lendL (ringT zs m k) k (((k + 1) % zs.length : Nat) : Int) m = ringT zs m (k + 1) := by
  unfold lendO at hO
  simp only [Bool.and_eq_true] at hO
  unfold lendL
  rw [if_pos hO.1, if_pos hO.2, Int.toNat_natCast, Int.toNat_natCast]
  exact ringT_step hk hn
theorem lendL_back {zs : List Int} {a b x : Int} (h : lendO zs a b x = true) : lendL (lendL zs a b x) b a x = zs ∧ lendO (lendL zs a b x) b a x = true ∧ (lendL zs a b x).sum = zs.sum ∧ tValid (lendL zs a b x) = true ∧ (lendL zs a b x).length = zs.length ∧
    at0 (lendL zs a b x) a.toNat = at0 zs a.toNat - x ∧ at0 (lendL zs a b x) b.toNat = at0 zs b.toNat + x := by
  unfold lendO at h
  simp only [Bool.and_eq_true] at h
  obtain ⟨h1, h2⟩ := h
  have e : lendL zs a b x = lendT zs a.toNat b.toNat x := by unfold lendL; rw [if_pos h1, if_pos h2]
  obtain ⟨hv, ha, hb, hx⟩ := okT_iff.1 h1
  have la : a.toNat < zs.length := by omega
  have lb : b.toNat < zs.length := by omega
  have hne : a.toNat ≠ b.toNat := by
    unfold lendB at h2
    simp only [Bool.and_eq_true, Bool.not_eq_true', decide_eq_false_iff_not] at h2
    exact h2.1.1
  rw [e]
  have hv' := lendT_valid hv la lb hx h2
  have hok : okT (lendT zs a.toNat b.toNat x) b a x = true := okT_iff.2 ⟨hv', by rw [lendT_len]; exact hb, by rw [lendT_len]; exact ha, hx⟩
  have hB := lendB_back hv la lb h2
  refine ⟨?_, ?_, lendT_sum la lb hne, hv', lendT_len .., ?_, ?_⟩
  · unfold lendL; rw [if_pos hok, if_pos hB]; exact lendT_back la lb hne
  · unfold lendO; rw [hok, hB]; rfl
  · rw [lendT_at _ _ _ _ _ la lb, if_neg (Ne.symm hne), if_pos rfl]
  · rw [lendT_at _ _ _ _ _ la lb, if_pos rfl]
theorem useL_facts {zs : List Int} {a x : Int} (h : okT zs a a x = true) : (useL zs a x).length = zs.length ∧ (useL zs a x).sum = zs.sum - useN zs a x ∧ tValid (useL zs a x) = true ∧ useN zs a x ≤ x ∧ useN zs a x ≤ at0 zs a.toNat ∧ (useN zs a x = x ∨ useN zs a x = at0 zs a.toNat) ∧
    useN (useL zs a x) a 1099511627776 = at0 zs a.toNat - useN zs a x := by
  obtain ⟨hv, ha, _, hx⟩ := okT_iff.1 h
  have la : a.toNat < zs.length := by omega
  have h1 := (tValid_iff.1 hv).1 _ la
  have e1 : useN zs a x = min x (at0 zs a.toNat) := by unfold useN; rw [if_pos h]
  have e2 : useL zs a x = zs.set a.toNat (at0 zs a.toNat - useN zs a x) := by rw [e1]; unfold useL; rw [if_pos h]
  have hm : useN zs a x ≤ x ∧ useN zs a x ≤ at0 zs a.toNat ∧ (useN zs a x = x ∨ useN zs a x = at0 zs a.toNat) ∧ 0 ≤ useN zs a x := by rw [e1]; omega
  have hv' : tValid (useL zs a x) = true := by rw [e2]; exact tValid_set hv _ la _ (by omega) (by omega)
  have hl : (useL zs a x).length = zs.length := by rw [e2, List.length_set]
  have hat : at0 (useL zs a x) a.toNat = at0 zs a.toNat - useN zs a x := by rw [e2, at0_set _ _ _ _ la, if_pos rfl]
  refine ⟨hl, by rw [e2, sum_set _ _ _ la]; omega, hv', hm.1, hm.2.1, hm.2.2.1, ?_⟩
  have hok : okT (useL zs a x) a a 1099511627776 = true := okT_iff.2 ⟨hv', by rw [hl]; exact ha, by rw [hl]; exact ha, by omega⟩
  unfold useN
  rw [if_pos hok]
  have : at0 (useL zs a x) a.toNat ≤ 10000 := by rw [hat]; omega
  rw [Int.min_eq_right (by omega), hat]
  unfold useN
  rfl
end Go.Proofs.Ytbpkclhpjelelaa
