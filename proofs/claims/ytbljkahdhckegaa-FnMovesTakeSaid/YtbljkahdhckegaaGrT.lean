/-
  Rounds of giving and taking, in plain lists: what a round adds; that rounds come to an end; the closure.
-/
import Derived.Test.YtbljkahdhckegaaGrP
namespace Go.Proofs.Ytbljkahdhckegaa
open Go.RowKit

def Rg (x : Int) : Prop := 0 ≤ x ∧ x ≤ 15
theorem lift1 (P : Int → Bool) (h : ∀ a : Fin 16, P ((a : Nat) : Int) = true) {x : Int} (hx : Rg x) : P x = true := by
  have := h ⟨x.toNat, by have := hx.1; have := hx.2; omega⟩
  simpa only [Int.toNat_of_nonneg hx.1] using this
theorem lift2 (P : Int → Int → Bool) (h : ∀ a b : Fin 16, P ((a : Nat) : Int) ((b : Nat) : Int) = true) {x y : Int} (hx : Rg x) (hy : Rg y) : P x y = true :=
  lift1 (fun x => P x y) (fun a => lift1 (fun y => P ((a : Nat) : Int) y) (h a) hy) hx
theorem lift3 (P : Int → Int → Int → Bool) (h : ∀ a b c : Fin 16, P ((a : Nat) : Int) ((b : Nat) : Int) ((c : Nat) : Int) = true) {x y z : Int} (hx : Rg x) (hy : Rg y) (hz : Rg z) : P x y z = true :=
  lift1 (fun x => P x y z) (fun a => lift2 (fun y z => P ((a : Nat) : Int) y z) (h a) hy hz) hx
theorem or_rg {x y : Int} (hx : Rg x) (hy : Rg y) : Rg (orI x y) := by
  have := lift2 (fun x y => decide (0 ≤ orI x y) && decide (orI x y ≤ 15)) (by decide +kernel) hx hy
  simpa [Rg] using this
theorem cv_refl {x : Int} (hx : Rg x) : cvB x x = true := lift1 (fun x => cvB x x) (by decide +kernel) hx
theorem cv_orl {x y : Int} (hx : Rg x) (hy : Rg y) : cvB x (orI x y) = true := lift2 (fun x y => cvB x (orI x y)) (by decide +kernel) hx hy
theorem cv_orr {x y : Int} (hx : Rg x) (hy : Rg y) : cvB y (orI x y) = true := lift2 (fun x y => cvB y (orI x y)) (by decide +kernel) hx hy
theorem cv_anti {x y : Int} (hx : Rg x) (hy : Rg y) (h1 : cvB x y = true) (h2 : cvB y x = true) : x = y := by
  have := lift2 (fun x y => !(cvB x y && cvB y x) || decide (x = y)) (by decide +kernel) hx hy
  simpa [h1, h2] using this
theorem cv_le {x y : Int} (hx : Rg x) (hy : Rg y) (h1 : cvB x y = true) : x ≤ y := by
  have := lift2 (fun x y => !(cvB x y) || decide (x ≤ y)) (by decide +kernel) hx hy
  simpa [h1] using this
theorem cv_trans {x y z : Int} (hx : Rg x) (hy : Rg y) (hz : Rg z) (h1 : cvB x y = true) (h2 : cvB y z = true) : cvB x z = true := by
  have := lift3 (fun x y z => !(cvB x y && cvB y z) || cvB x z) (by decide +kernel) hx hy hz
  simpa [h1, h2] using this
theorem cv_least {x y z : Int} (hx : Rg x) (hy : Rg y) (hz : Rg z) (h1 : cvB x z = true) (h2 : cvB y z = true) : cvB (orI x y) z = true := by
  have := lift3 (fun x y z => !(cvB x z && cvB y z) || cvB (orI x y) z) (by decide +kernel) hx hy hz
  simpa [h1, h2] using this
theorem cv_bit1 {x y : Int} (hx : Rg x) (hy : Rg y) (h : cvB x y = true) (h1 : (bits .and .i64 x 1 == 0) = false) : (bits .and .i64 y 1 == 0) = false := by
  have := lift2 (fun x y => !(cvB x y && !(bits .and .i64 x 1 == 0)) || !(bits .and .i64 y 1 == 0)) (by decide +kernel) hx hy
  simpa [h, h1] using this
theorem cv_bit4 {x y : Int} (hx : Rg x) (hy : Rg y) (h : cvB x y = true) (h1 : (bits .and .i64 x 4 == 0) = false) : (bits .and .i64 y 4 == 0) = false := by
  have := lift2 (fun x y => !(cvB x y && !(bits .and .i64 x 4 == 0)) || !(bits .and .i64 y 4 == 0)) (by decide +kernel) hx hy
  simpa [h, h1] using this

/-- Rights asked the reference's way round. -/
theorem cv_flip {r q : Int} (hr : Rg r) (hq : Rg q) : (bits .and .i64 q r == r) = cvB r q := by
  have := lift2 (fun r q => (bits .and .i64 q r == r) == cvB r q) (by decide +kernel) hr hq
  exact eq_of_beq this
/-- A table of n rows of m rights each. -/
structure Tab (n m : Nat) (g : List (List Int)) : Prop where
  len : g.length = n
  row : ∀ xs ∈ g, xs.length = m
  rg : ∀ xs ∈ g, ∀ z ∈ xs, Rg z
theorem tab_of_valid {g : List (List Int)} (h : gValid g = true) : ∃ n m, Tab n m g ∧ n ≤ m ∧ n ≤ 6 ∧ m ≤ 10 ∧ (0 < n → len0 g = m) := by
  obtain ⟨h6, hr⟩ := gValid_rows h
  cases g with
  | nil => exact ⟨0, 0, ⟨rfl, by simp, by simp⟩, by omega, by omega, by omega, by omega⟩
  | cons x r =>
    have hx := hr x (by simp)
    exact ⟨(x :: r).length, len0 (x :: r), ⟨rfl, fun xs hm => (hr xs hm).1, fun xs hm z hz => (hr xs hm).2.2.2 z hz⟩, by omega, h6, by omega, fun _ => rfl⟩
theorem valid_of_tab {n m : Nat} {g : List (List Int)} (h : Tab n m g) (hnm : n ≤ m) (h6 : n ≤ 6) (hm : m ≤ 10) : gValid g = true := by
  unfold gValid
  rw [Bool.and_eq_true, List.all_eq_true]
  refine ⟨fun xs hx => ?_, by rw [h.len]; simpa using h6⟩
  unfold rowOk
  have h0 : len0 g = m := by
    cases g with
    | nil => cases hx
    | cons y r => exact h.row y (by simp)
  rw [h0, h.row xs hx, h.len, decide_eq_true rfl, Bool.true_and, Bool.and_eq_true]
  refine ⟨inB_iff.2 ⟨by omega, by omega⟩, ?_⟩
  rw [List.all_eq_true]
  intro z hz
  exact inB_iff.2 (h.rg xs hx z hz)
section
variable {n m : Nat} {g : List (List Int)}
theorem Tab.el_rg (h : Tab n m g) (i j : Nat) : Rg (el g i j) := by
  unfold el rowAt
  rw [List.getD_eq_getElem?_getD, List.getD_eq_getElem?_getD]
  cases hx : g[i]? with
  | none => simp [Rg]
  | some xs =>
    simp only [Option.getD_some]
    cases hz : xs[j]? with
    | none => simp [Rg]
    | some z => simp only [Option.getD_some]; exact h.rg xs (List.mem_of_getElem? hx) z (List.mem_of_getElem? hz)
theorem Tab.at (h : Tab n m g) {i : Nat} (hi : i < n) : ∃ xs, g[i]? = some xs ∧ xs.length = m := by
  obtain ⟨xs, hx⟩ := get_of_lt h.len hi
  exact ⟨xs, hx, h.row xs (List.mem_of_getElem? hx)⟩
/-- Two tables with the same numbers are one. -/
theorem tab_ext {g' : List (List Int)} (h : Tab n m g) (h' : Tab n m g') (he : ∀ i j, i < n → j < m → el g i j = el g' i j) : g = g' := by
  apply List.ext_getElem?
  intro i
  by_cases hi : i < n
  · obtain ⟨xs, hx, hl⟩ := h.at hi
    obtain ⟨ys, hy, hl'⟩ := h'.at hi
    rw [hx, hy]
    congr 1
    apply List.ext_getElem?
    intro j
    by_cases hj : j < m
    · obtain ⟨z, hz⟩ := get_of_lt hl hj
      obtain ⟨z', hz'⟩ := get_of_lt hl' hj
      have := he i j hi hj
      rw [el_get hx hz, el_get hy hz'] at this
      rw [hz, hz', this]
    · rw [List.getElem?_eq_none (by omega), List.getElem?_eq_none (by omega)]
  · rw [List.getElem?_eq_none (by have := h.len; omega), List.getElem?_eq_none (by have := h'.len; omega)]
theorem orRow_get {a b : List Int} {j : Nat} {x y : Int} (hx : a[j]? = some x) (hy : b[j]? = some y) : (orRow a b)[j]? = some (orI x y) := by
  unfold orRow; rw [List.getElem?_zipWith, hx, hy]
/-- The number at place j of a row in the making. -/
def tel (g : List (List Int)) (i k j : Nat) : Int := (growTo g i k).getD j 0
theorem tel_zero (i j : Nat) : tel g i 0 j = el g i j := rfl
theorem tel_succ (h : Tab n m g) {i k j : Nat} (hi : i < n) (hk : k < n) (hj : j < m) : tel g i (k + 1) j = if lnk g i k then orI (tel g i k j) (el g k j) else tel g i k j := by
  unfold tel
  show (if lnk g i k then _ else _ : List Int).getD j 0 = _
  split
  · obtain ⟨x, hx⟩ := get_of_lt (growTo_len h.row (by rw [h.len]; exact hi) k (by rw [h.len]; omega)) hj
    obtain ⟨ys, hy, hl⟩ := h.at hk
    obtain ⟨y, hyj⟩ := get_of_lt hl hj
    rw [el_get hy hyj, rowAt_get hy, List.getD_eq_getElem?_getD, orRow_get hx hyj, List.getD_eq_getElem?_getD, hx]
    rfl
  · rfl
theorem tel_rg (h : Tab n m g) {i j : Nat} (hi : i < n) (hj : j < m) : ∀ k, k ≤ n → Rg (tel g i k j)
  | 0, _ => h.el_rg i j
  | k + 1, hk => by
    rw [tel_succ h hi (by omega) hj]
    split
    · exact or_rg (tel_rg h hi hj k (by omega)) (h.el_rg k j)
    · exact tel_rg h hi hj k (by omega)
theorem tel_keep (h : Tab n m g) {i j : Nat} (hi : i < n) (hj : j < m) : ∀ k, k ≤ n → cvB (el g i j) (tel g i k j) = true
  | 0, _ => cv_refl (h.el_rg i j)
  | k + 1, hk => by
    rw [tel_succ h hi (by omega) hj]
    split
    · exact cv_trans (h.el_rg i j) (tel_rg h hi hj k (by omega)) (or_rg (tel_rg h hi hj k (by omega)) (h.el_rg k j)) (tel_keep h hi hj k (by omega)) (cv_orl (tel_rg h hi hj k (by omega)) (h.el_rg k j))
    · exact tel_keep h hi hj k (by omega)
theorem tel_gets (h : Tab n m g) {i j q : Nat} (hi : i < n) (hj : j < m) (hl : lnk g i q = true) : ∀ k, k ≤ n → q < k → cvB (el g q j) (tel g i k j) = true
  | 0, _, hq => by omega
  | k + 1, hk, hq => by
    rw [tel_succ h hi (by omega) hj]
    by_cases hqk : q = k
    · subst hqk
      rw [if_pos hl]
      exact cv_orr (tel_rg h hi hj q (by omega)) (h.el_rg q j)
    · have ih := tel_gets h hi hj hl k (by omega) (by omega)
      split
      · exact cv_trans (h.el_rg q j) (tel_rg h hi hj k (by omega)) (or_rg (tel_rg h hi hj k (by omega)) (h.el_rg k j)) ih (cv_orl (tel_rg h hi hj k (by omega)) (h.el_rg k j))
      · exact ih
theorem tel_least (h : Tab n m g) {i j : Nat} {u : Int} (hi : i < n) (hj : j < m) (hu : Rg u) (h0 : cvB (el g i j) u = true) (hl : ∀ q, q < n → lnk g i q = true → cvB (el g q j) u = true) : ∀ k, k ≤ n → cvB (tel g i k j) u = true
  | 0, _ => h0
  | k + 1, hk => by
    have ih := tel_least h hi hj hu h0 hl k (by omega)
    rw [tel_succ h hi (by omega) hj]
    split
    · next hlk => exact cv_least (tel_rg h hi hj k (by omega)) (h.el_rg k j) hu ih (hl k (by omega) hlk)
    · exact ih
theorem growG_el (h : Tab n m g) {i j : Nat} (hi : i < n) : el (growG g) i j = tel g i n j := by
  unfold el tel rowAt
  rw [List.getD_eq_getElem?_getD (l := growG g), growG_get (by rw [h.len]; exact hi), h.len]
  rfl
theorem growG_tab (h : Tab n m g) : Tab n m (growG g) := by
  refine ⟨by rw [growG_len, h.len], growG_rows h.row, fun xs hx z hz => ?_⟩
  unfold growG at hx
  obtain ⟨i, hi, rfl⟩ := List.mem_map.1 hx
  have hi' : i < n := by rw [← h.len]; simpa using hi
  obtain ⟨j, hj, rfl⟩ := List.mem_iff_getElem.1 hz
  have hjm : j < m := by rw [growTo_len h.row (by rw [h.len]; exact hi') _ (Nat.le_refl _)] at hj; exact hj
  have := tel_rg h hi' hjm n (Nat.le_refl _)
  unfold tel at this
  rw [List.getD_eq_getElem?_getD, ← h.len, List.getElem?_eq_getElem hj] at this
  exact this
theorem grow_keep (h : Tab n m g) {i j : Nat} (hi : i < n) (hj : j < m) : cvB (el g i j) (el (growG g) i j) = true := by rw [growG_el h hi]; exact tel_keep h hi hj n (Nat.le_refl _)
theorem grow_gets (h : Tab n m g) {i j q : Nat} (hi : i < n) (hj : j < m) (hq : q < n) (hl : lnk g i q = true) : cvB (el g q j) (el (growG g) i j) = true := by rw [growG_el h hi]; exact tel_gets h hi hj hl n (Nat.le_refl _) hq
theorem grow_least (h : Tab n m g) {i j : Nat} {u : Int} (hi : i < n) (hj : j < m) (hu : Rg u) (h0 : cvB (el g i j) u = true) (hl : ∀ q, q < n → lnk g i q = true → cvB (el g q j) u = true) : cvB (el (growG g) i j) u = true := by
  rw [growG_el h hi]; exact tel_least h hi hj hu h0 hl n (Nat.le_refl _)
end

/-- Place by place within. -/
def Sub (n m : Nat) (a b : List (List Int)) : Prop := ∀ i j, i < n → j < m → cvB (el a i j) (el b i j) = true
section
variable {n m : Nat} {a b c : List (List Int)}
theorem sub_refl (h : Tab n m a) : Sub n m a a := fun i j _ _ => cv_refl (h.el_rg i j)
theorem sub_trans (ha : Tab n m a) (hb : Tab n m b) (hc : Tab n m c) (h1 : Sub n m a b) (h2 : Sub n m b c) : Sub n m a c := fun i j hi hj => cv_trans (ha.el_rg i j) (hb.el_rg i j) (hc.el_rg i j) (h1 i j hi hj) (h2 i j hi hj)
theorem sub_anti (ha : Tab n m a) (hb : Tab n m b) (h1 : Sub n m a b) (h2 : Sub n m b a) : a = b := tab_ext ha hb fun i j hi hj => cv_anti (ha.el_rg i j) (hb.el_rg i j) (h1 i j hi hj) (h2 i j hi hj)
theorem grow_sub (h : Tab n m a) : Sub n m a (growG a) := fun _ _ hi hj => grow_keep h hi hj
theorem lnk_mono (ha : Tab n m a) (hb : Tab n m b) (hnm : n ≤ m) (h : Sub n m a b) {i q : Nat} (hi : i < n) (hq : q < n) (hl : lnk a i q = true) : lnk b i q = true := by
  unfold lnk at hl ⊢
  simp only [Bool.or_eq_true, Bool.not_eq_true'] at hl ⊢
  rcases hl with h1 | h1
  · exact .inl (cv_bit1 (ha.el_rg i q) (hb.el_rg i q) (h i q hi (by omega)) h1)
  · exact .inr (cv_bit4 (ha.el_rg q i) (hb.el_rg q i) (h q i hq (by omega)) h1)
theorem grow_mono (ha : Tab n m a) (hb : Tab n m b) (hnm : n ≤ m) (h : Sub n m a b) : Sub n m (growG a) (growG b) := fun i j hi hj => by
  have hgb := growG_tab hb
  refine grow_least ha hi hj (hgb.el_rg i j) ?_ fun q hq hl => ?_
  · exact cv_trans (ha.el_rg i j) (hb.el_rg i j) (hgb.el_rg i j) (h i j hi hj) (grow_keep hb hi hj)
  · exact cv_trans (ha.el_rg q j) (hb.el_rg q j) (hgb.el_rg i j) (h q j hq hj) (grow_gets hb hi hj hq (lnk_mono ha hb hnm h hi hq hl))
end
/-- What is lacking to all rights. -/
def defR : List Int → Nat
  | [] => 0
  | z :: r => (15 - z).toNat + defR r
def defi : List (List Int) → Nat
  | [] => 0
  | x :: r => defR x + defi r
theorem defR_le : ∀ {a b : List Int}, a.length = b.length → (∀ (j : Nat) x y, a[j]? = some x → b[j]? = some y → Rg x ∧ Rg y ∧ x ≤ y) → defR b ≤ defR a ∧ (defR b = defR a → a = b)
  | [], [], _, _ => ⟨Nat.le_refl _, fun _ => rfl⟩
  | [], _ :: _, h, _ => by simp at h
  | _ :: _, [], h, _ => by simp at h
  | x :: a, y :: b, h, hh => by
    obtain ⟨h1, h2⟩ := defR_le (a := a) (b := b) (by simpa using h) (fun j u v hu hv => hh (j + 1) u v (by simpa using hu) (by simpa using hv))
    obtain ⟨⟨r1, r2⟩, ⟨r3, r4⟩, r5⟩ := hh 0 x y rfl rfl
    unfold defR
    refine ⟨by omega, fun e => ?_⟩
    have e2 : x = y := by omega
    rw [h2 (by omega), e2]
theorem defi_le : ∀ {a b : List (List Int)}, a.length = b.length → (∀ (i : Nat) xs ys, a[i]? = some xs → b[i]? = some ys → defR ys ≤ defR xs ∧ (defR ys = defR xs → xs = ys)) → defi b ≤ defi a ∧ (defi b = defi a → a = b)
  | [], [], _, _ => ⟨Nat.le_refl _, fun _ => rfl⟩
  | [], _ :: _, h, _ => by simp at h
  | _ :: _, [], h, _ => by simp at h
  | x :: a, y :: b, h, hh => by
    obtain ⟨h1, h2⟩ := defi_le (a := a) (b := b) (by simpa using h) (fun j u v hu hv => hh (j + 1) u v (by simpa using hu) (by simpa using hv))
    obtain ⟨h3, h4⟩ := hh 0 x y rfl rfl
    unfold defi
    refine ⟨by omega, fun e => ?_⟩
    rw [h2 (by omega), h4 (by omega)]
theorem defi_grow {n m : Nat} {g : List (List Int)} (h : Tab n m g) (hne : growG g ≠ g) : defi (growG g) < defi g := by
  have hg := growG_tab h
  obtain ⟨h1, h2⟩ := defi_le (a := g) (b := growG g) (by rw [h.len, hg.len]) (fun i xs ys hx hy => by
    have hl := h.row xs (List.mem_of_getElem? hx)
    have hl' := hg.row ys (List.mem_of_getElem? hy)
    refine defR_le (by omega) fun j x y hxj hyj => ?_
    have hi : i < n := by rw [← h.len]; exact (List.getElem?_eq_some_iff.1 hx).1
    have hj : j < m := by rw [← hl]; exact (List.getElem?_eq_some_iff.1 hxj).1
    have e1 := el_get hx hxj
    have e2 := el_get hy hyj
    have hk := grow_keep h hi hj
    rw [e1, e2] at hk
    have r1 := h.el_rg i j
    have r2 := hg.el_rg i j
    rw [e1] at r1
    rw [e2] at r2
    exact ⟨r1, r2, cv_le r1 r2 hk⟩)
  rcases Nat.lt_or_ge (defi (growG g)) (defi g) with h3 | h3
  · exact h3
  · exact absurd (h2 (by omega)).symm hne

def iterG : Nat → List (List Int) → List (List Int)
  | 0, g => g
  | k + 1, g => growG (iterG k g)
def closeG (g : List (List Int)) : List (List Int) := iterG (defi g) g
theorem iterG_tab {n m : Nat} {g : List (List Int)} (h : Tab n m g) : ∀ k, Tab n m (iterG k g)
  | 0 => h
  | k + 1 => growG_tab (iterG_tab h k)
theorem iterG_fix {g : List (List Int)} {k : Nat} (hf : growG (iterG k g) = iterG k g) : ∀ d, iterG (k + d) g = iterG k g
  | 0 => rfl
  | d + 1 => by show growG (iterG (k + d) g) = _; rw [iterG_fix hf d, hf]
theorem iterG_def {n m : Nat} {g : List (List Int)} (h : Tab n m g) : ∀ k, growG (iterG k g) = iterG k g ∨ defi (iterG k g) + k ≤ defi g
  | 0 => .inr (Nat.le_refl _)
  | k + 1 => by
    rcases iterG_def h k with h1 | h1
    · left; show growG (growG (iterG k g)) = growG (iterG k g); rw [h1, h1]
    · by_cases hf : growG (iterG k g) = iterG k g
      · left; show growG (growG (iterG k g)) = growG (iterG k g); rw [hf, hf]
      · right
        have := defi_grow (iterG_tab h k) hf
        show defi (growG (iterG k g)) + (k + 1) ≤ _
        omega
/-- The closure does not grow. -/
theorem close_fix {n m : Nat} {g : List (List Int)} (h : Tab n m g) : growG (closeG g) = closeG g := by
  by_cases hf : growG (closeG g) = closeG g
  · exact hf
  · have h1 := (iterG_def h (defi g)).resolve_left hf
    have h2 := defi_grow (iterG_tab h (defi g)) hf
    have : defi (iterG (defi g) g) = 0 := by omega
    have h3 : defi (growG (closeG g)) < defi (iterG (defi g) g) := h2
    omega
theorem close_of_fix {n m : Nat} {g : List (List Int)} {k : Nat} (h : Tab n m g) (hf : growG (iterG k g) = iterG k g) : iterG k g = closeG g := by
  rcases Nat.le_total k (defi g) with hk | hk
  · obtain ⟨d, hd⟩ := Nat.exists_eq_add_of_le hk
    unfold closeG; rw [hd]; exact (iterG_fix hf d).symm
  · obtain ⟨d, hd⟩ := Nat.exists_eq_add_of_le hk
    rw [hd]; exact iterG_fix (close_fix h) d
theorem close_tab {n m : Nat} {g : List (List Int)} (h : Tab n m g) : Tab n m (closeG g) := iterG_tab h _
/-- Within, as both packages ask it. -/
theorem within_sub {n m : Nat} {a b : List (List Int)} (ha : Tab n m a) (hb : Tab n m b) (hnm : n ≤ m) (h6 : n ≤ 6) (hm : m ≤ 10) : gWithin a b = true ↔ Sub n m a b := by
  unfold gWithin
  rw [valid_of_tab ha hnm h6 hm, valid_of_tab hb hnm h6 hm, ha.len, hb.len, decide_eq_true rfl]
  simp only [Bool.true_and]
  rw [all2_iff (by rw [ha.len, hb.len])]
  constructor
  · intro h i j hi hj
    obtain ⟨xs, hx, hl⟩ := ha.at hi
    obtain ⟨ys, hy, hl'⟩ := hb.at hi
    have h1 := h i xs ys hx hy
    unfold rowW at h1
    rw [Bool.and_eq_true, all2_iff (by omega)] at h1
    obtain ⟨x, hxj⟩ := get_of_lt hl hj
    obtain ⟨y, hyj⟩ := get_of_lt hl' hj
    rw [el_get hx hxj, el_get hy hyj]
    exact h1.2 j x y hxj hyj
  · intro h i xs ys hx hy
    have hl := ha.row xs (List.mem_of_getElem? hx)
    have hl' := hb.row ys (List.mem_of_getElem? hy)
    unfold rowW
    rw [Bool.and_eq_true, all2_iff (by omega)]
    refine ⟨by simp; omega, fun j x y hxj hyj => ?_⟩
    have := h i j (by rw [← ha.len]; exact (List.getElem?_eq_some_iff.1 hx).1) (by rw [← hl]; exact (List.getElem?_eq_some_iff.1 hxj).1)
    rwa [el_get hx hxj, el_get hy hyj] at this
theorem within_grow {n m : Nat} {g : List (List Int)} (h : Tab n m g) (hnm : n ≤ m) (h6 : n ≤ 6) (hm : m ≤ 10) : gWithin (growG g) g = decide (growG g = g) := by
  rw [Bool.eq_iff_iff, within_sub (growG_tab h) h hnm h6 hm, decide_eq_true_eq]
  constructor
  · intro hs; exact sub_anti (growG_tab h) h hs (grow_sub h)
  · intro e; rw [e]; exact sub_refl h
/-- A graph's row and the number in it, read. -/
theorem RdR.atEl {w : World} {A : Option Addr} {n c m : Nat} {g : List (List Int)} (h : RdR w A n c g) (ht : Tab n m g) {i j : Nat} (hi : i < n) (hj : j < m) :
    ∃ b off b1 off1 c1, A = some ⟨b, off, none⟩ ∧ w.cell? ⟨b, off + i, none⟩ = some (.slice (some ⟨b1, off1, none⟩) m c1) ∧ m ≤ c1 ∧ c1 ≤ 9223372036854775807 ∧ w.cell? ⟨b1, off1 + j, none⟩ = some (.int .i64 (el g i j)) := by
  obtain ⟨b, off, A1, m1, c1, xs, rfl, X, g0, R⟩ := h.atR hi
  have hm : m1 = m := by rw [← R.lenI]; exact ht.row _ (List.mem_of_getElem? X.out)
  subst hm
  obtain ⟨b1, off1, z, rfl, Z, q⟩ := R.atI hj
  rw [← el_get X.out Z.out] at q
  exact ⟨b, off, b1, off1, c1, rfl, g0, R.le, R.top, q⟩

end Go.Proofs.Ytbljkahdhckegaa
