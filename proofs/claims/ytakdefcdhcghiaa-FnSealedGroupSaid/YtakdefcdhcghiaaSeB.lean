/-
  The smallest sealed group of a subject, as the program and as the reference find it.
-/
import Derived.Test.YtakdefcdhcghiaaSeA
import Derived.Deep.LoopGhost
import Derived.Deep.Cut
namespace Go.Proofs.Ytakdefcdhcghiaa
open Go.RowKit

theorem filter_lt {p q : Nat → Bool} : ∀ (l : List Nat), (∀ x ∈ l, p x = true → q x = true) → (l.filter p).length ≤ (l.filter q).length ∧ (∀ z ∈ l, p z = false → q z = true → (l.filter p).length < (l.filter q).length)
  | [], _ => ⟨Nat.le_refl _, by simp⟩
  | x :: r, h => by
    obtain ⟨h1, h2⟩ := filter_lt r fun y hy => h y (by simp [hy])
    have hx := h x (by simp)
    rw [List.filter_cons, List.filter_cons]
    refine ⟨?_, fun z hz hp hq => ?_⟩
    · cases hpx : p x <;> cases hqx : q x
      · simpa using h1
      · simp; omega
      · rw [hpx, hqx] at hx; simp at hx
      · simpa using h1
    · rcases List.mem_cons.1 hz with rfl | hz
      · rw [hp, hq]; simp; omega
      · have h3 := h2 z hz hp hq
        cases hpx : p x <;> cases hqx : q x
        · simpa using h3
        · simp; omega
        · rw [hpx, hqx] at hx; simp at hx
        · simpa using h3

/-- Who is reached after k steps. -/
def jac (g : List (List Int)) (n i : Nat) : Nat → Nat → Bool
  | 0, a => decide (a = i)
  | k + 1, a => jac g n i k a || (List.range n).any fun b => jac g n i k b && lnkd g a b
section
variable {g : List (List Int)} {n i : Nat}
theorem jac_mono (k a : Nat) (h : jac g n i k a = true) : jac g n i (k + 1) a = true := by show (_ || _) = true; rw [h]; rfl
theorem jac_step {k a b : Nat} (hb : b < n) (h : jac g n i k b = true) (hl : lnkd g a b = true) : jac g n i (k + 1) a = true := by
  show (_ || _) = true
  rw [Bool.or_eq_true]
  right
  exact List.any_eq_true.2 ⟨b, List.mem_range.2 hb, by rw [h, hl]; rfl⟩
theorem jac_next {k : Nat} (h : ∀ a, a < n → jac g n i (k + 1) a = jac g n i k a) : ∀ a, a < n → jac g n i (k + 1 + 1) a = jac g n i (k + 1) a := fun a ha => by
  have e : ((List.range n).any fun b => jac g n i (k + 1) b && lnkd g a b) = ((List.range n).any fun b => jac g n i k b && lnkd g a b) := by
    rw [Bool.eq_iff_iff, List.any_eq_true, List.any_eq_true]
    constructor <;> rintro ⟨b, hb, hh⟩ <;> refine ⟨b, hb, ?_⟩
    · rwa [h b (List.mem_range.1 hb)] at hh
    · rwa [← h b (List.mem_range.1 hb)] at hh
  show (jac g n i (k + 1) a || (List.range n).any fun b => jac g n i (k + 1) b && lnkd g a b) = _
  rw [e, h a ha]
  exact h a ha
theorem jac_count (hi : i < n) : ∀ k, (∀ a, a < n → jac g n i (k + 1) a = jac g n i k a) ∨ k + 1 ≤ ((List.range n).filter (jac g n i k)).length
  | 0 => .inr (List.length_pos_of_mem (List.mem_filter.2 ⟨List.mem_range.2 hi, by show decide (i = i) = true; simp⟩))
  | k + 1 => by
    rcases jac_count hi k with h | h
    · exact .inl (jac_next h)
    · by_cases hf : ∀ a, a < n → jac g n i (k + 1) a = jac g n i k a
      · exact .inl (jac_next hf)
      · right
        have hex : ∃ a, a < n ∧ jac g n i (k + 1) a ≠ jac g n i k a := by
          apply Classical.byContradiction
          intro hne
          exact hf fun a ha => Classical.byContradiction fun h2 => hne ⟨a, ha, h2⟩
        obtain ⟨a, ha, hne⟩ := hex
        have hk : jac g n i k a = false := by
          cases hh : jac g n i k a
          · rfl
          · rw [hh, jac_mono k a hh] at hne; exact absurd rfl hne
        have hk1 : jac g n i (k + 1) a = true := by
          cases hh : jac g n i (k + 1) a
          · rw [hk, hh] at hne; exact absurd rfl hne
          · rfl
        have := (filter_lt (p := jac g n i k) (q := jac g n i (k + 1)) (List.range n) (fun x _ hx => jac_mono k x hx)).2 a (List.mem_range.2 ha) hk hk1
        omega
theorem jac_fix (hi : i < n) : ∀ a, a < n → jac g n i (n + 1) a = jac g n i n a := by
  rcases jac_count (g := g) hi n with h | h
  · exact h
  · have := List.length_filter_le (jac g n i n) (List.range n)
    simp at this
    omega
theorem jac_closed (hi : i < n) {a b : Nat} (ha : a < n) (hb : b < n) (h : jac g n i n b = true) (hl : lnkd g a b = true) : jac g n i n a = true := by
  rw [← jac_fix hi a ha]; exact jac_step hb h hl
theorem jac_self (k : Nat) : jac g n i k i = true := by
  induction k with
  | zero => show decide (i = i) = true; simp
  | succ k ih => exact jac_mono k i ih
theorem jac_least {s : List Bool} (hs : gb s i = true) (hS : SealP g s n) : ∀ k a, a < n → jac g n i k a = true → gb s a = true
  | 0, a, _, h => by
    have : a = i := by simpa [jac] using h
    rw [this]; exact hs
  | k + 1, a, ha, h => by
    have h' : (jac g n i k a || (List.range n).any fun b => jac g n i k b && lnkd g a b) = true := h
    rw [Bool.or_eq_true] at h'
    rcases h' with h' | h'
    · exact jac_least hs hS k a ha h'
    · obtain ⟨b, hb, hh⟩ := List.any_eq_true.1 h'
      simp only [Bool.and_eq_true] at hh
      have hb' := List.mem_range.1 hb
      have h1 := jac_least hs hS k b hb' hh.1
      have h2 := hS b a hb' ha
      unfold badI at h2
      rw [h1, lnkd_symm, hh.2] at h2
      cases hg : gb s a
      · rw [hg] at h2; simp at h2
      · rfl
end

def sealedR (g : List (List Int)) (i : Int) : List Bool := if gValid g && inB i 0 (g.length - 1) then (List.range g.length).map (jac g g.length i.toNat g.length) else []
theorem sealedR_len (g : List (List Int)) (i : Int) : (sealedR g i).length ≤ 1048576 := by
  unfold sealedR
  split
  · rename_i h
    rw [Bool.and_eq_true] at h
    have := (gValid_rows h.1).1
    rw [List.length_map, List.length_range]; omega
  · simp
theorem gb_set {s : List Bool} {a : Nat} (ha : a < s.length) (v : Bool) (x : Nat) : gb (s.set a v) x = if a = x then v else gb s x := by
  unfold gb
  rw [List.getD_eq_getElem?_getD, List.getD_eq_getElem?_getD, List.getElem?_set]
  by_cases hax : a = x
  · subst hax; simp [ha]
  · simp [hax]
theorem list_of_gb {s : List Bool} {n : Nat} {p : Nat → Bool} (hl : s.length = n) (h : ∀ x, x < n → gb s x = p x) : s = (List.range n).map p := by
  apply List.ext_getElem?
  intro x
  by_cases hx : x < n
  · obtain ⟨t, ht⟩ := get_of_lt hl hx
    rw [List.getElem?_map, List.getElem?_range hx, ht, ← gb_get ht, h x hx]; rfl
  · rw [List.getElem?_eq_none (by omega), List.getElem?_eq_none (by simp; omega)]
theorem gb_map {n x : Nat} {p : Nat → Bool} (hx : x < n) : gb ((List.range n).map p) x = p x := gb_get (by rw [List.getElem?_map, List.getElem?_range hx]; rfl)

/-- Where the program's rounds stand: round k, row a, column b. -/
structure InR (g : List (List Int)) (n i k a b : Nat) (s : List Bool) : Prop where
  len : s.length = n
  lo : ∀ x, x < n → jac g n i k x = true → gb s x = true
  hi : ∀ x, x < n → gb s x = true → jac g n i n x = true
  row : ∀ x, x < a → jac g n i (k + 1) x = true → gb s x = true
  col : ∀ y, y < b → jac g n i k y = true → lnkd g a y = true → gb s a = true
section
variable {g : List (List Int)} {n i k a b : Nat} {s : List Bool}
theorem InR.start (hin : i < n) : InR g n i 0 0 0 ((List.replicate n false).set i true) := by
  have hl : (List.replicate n false).length = n := by simp
  have hg : ∀ x, gb ((List.replicate n false).set i true) x = if i = x then true else gb (List.replicate n false) x := fun x => gb_set (by rw [hl]; exact hin) true x
  refine ⟨by rw [List.length_set, hl], fun x _ hx => ?_, fun x hx hgx => ?_, fun x hx => absurd hx (by omega), fun y hy => absurd hy (by omega)⟩
  · have : x = i := by simpa [jac] using hx
    rw [hg, if_pos this.symm]
  · rw [hg] at hgx
    by_cases h : i = x
    · subst h; exact jac_self n
    · rw [if_neg h] at hgx
      unfold gb at hgx
      rw [List.getD_eq_getElem?_getD, List.getElem?_replicate, if_pos hx] at hgx
      cases hgx
theorem InR.put (h : InR g n i k a b s) (hin : i < n) (ha : a < n) (hb : b < n) {v : Bool} (hv : v = (gb s a || gb s b && lnkd g a b)) : InR g n i k a (b + 1) (s.set a v) := by
  have hg := gb_set (s := s) (a := a) (by rw [h.len]; exact ha) v
  have up : ∀ x, gb s x = true → gb (s.set a v) x = true := fun x hx => by
    rw [hg]
    split
    · rename_i e; subst e; rw [hv, hx]; rfl
    · exact hx
  refine ⟨by rw [List.length_set]; exact h.len, fun x hx hj => up x (h.lo x hx hj), fun x hx hgx => ?_, fun x hx hj => up x (h.row x hx hj), fun y hy hj hl => ?_⟩
  · rw [hg] at hgx
    split at hgx
    · rename_i e
      subst e
      rw [hv, Bool.or_eq_true] at hgx
      rcases hgx with hgx | hgx
      · exact h.hi a hx hgx
      · rw [Bool.and_eq_true] at hgx
        exact jac_closed hin ha hb (h.hi b hb hgx.1) hgx.2
    · exact h.hi x hx hgx
  · by_cases hyb : y < b
    · exact up a (h.col y hyb hj hl)
    · obtain rfl : y = b := by omega
      rw [hg, if_pos rfl, hv, h.lo y hb hj, hl]
      simp
theorem InR.nextA (h : InR g n i k a n s) (ha : a < n) : InR g n i k (a + 1) 0 s := by
  refine ⟨h.len, h.lo, h.hi, fun x hx hj => ?_, fun y hy => absurd hy (by omega)⟩
  by_cases hxa : x < a
  · exact h.row x hxa hj
  · obtain rfl : x = a := by omega
    have h' : (jac g n i k x || (List.range n).any fun b => jac g n i k b && lnkd g x b) = true := hj
    rw [Bool.or_eq_true] at h'
    rcases h' with h' | h'
    · exact h.lo x ha h'
    · obtain ⟨b, hb, hh⟩ := List.any_eq_true.1 h'
      simp only [Bool.and_eq_true] at hh
      exact h.col b (List.mem_range.1 hb) hh.1 hh.2
theorem InR.nextK (h : InR g n i k n 0 s) : InR g n i (k + 1) 0 0 s :=
  ⟨h.len, fun x hx hj => h.row x hx hj, h.hi, fun x hx => absurd hx (by omega), fun y hy => absurd hy (by omega)⟩
theorem InR.last (h : InR g n i n 0 0 s) : s = (List.range n).map (jac g n i n) := list_of_gb h.len fun x hx => by
  rw [Bool.eq_iff_iff]
  exact ⟨h.hi x hx, h.lo x hx⟩
end

/-- Where the reference's round stands, which began with s0. -/
structure SpR (g : List (List Int)) (n i : Nat) (s0 : List Bool) (a b : Nat) (s : List Bool) : Prop where
  len : s.length = n
  up : ∀ x, x < n → gb s0 x = true → gb s x = true
  hi : ∀ x, x < n → gb s x = true → jac g n i n x = true
  met : ∀ x y, x < n → y < n → (x < a ∨ x = a ∧ y < b) → (el g x y == 0) = false → (gb s0 x || gb s0 y) = true → gb s x = true ∧ gb s y = true
def cntB (s : List Bool) (n : Nat) : Nat := ((List.range n).filter (gb s)).length
section
variable {g : List (List Int)} {n i a b : Nat} {s0 s : List Bool}
theorem SpR.start (hl : s0.length = n) (hh : ∀ x, x < n → gb s0 x = true → jac g n i n x = true) : SpR g n i s0 0 0 s0 :=
  ⟨hl, fun _ _ h => h, hh, fun x y _ _ h => by omega⟩
theorem lnkd_el {x y : Nat} (h : (el g x y == 0) = false) : lnkd g x y = true := by unfold lnkd; rw [h]; rfl
theorem SpR.put (h : SpR g n i s0 a b s) (hin : i < n) (ha : a < n) (hb : b < n) (he : (el g a b == 0) = false) (hc : (gb s a || gb s b) = true) : SpR g n i s0 a (b + 1) ((s.set a true).set b true) := by
  have hg1 := gb_set (s := s) (a := a) (by rw [h.len]; exact ha) true
  have hg2 := gb_set (s := s.set a true) (a := b) (by rw [List.length_set, h.len]; exact hb) true
  have up : ∀ x, gb s x = true → gb ((s.set a true).set b true) x = true := fun x hx => by
    rw [hg2]; split
    · rfl
    · rw [hg1]; split
      · rfl
      · exact hx
  have hl := lnkd_el he
  have hjab : jac g n i n a = true ∧ jac g n i n b = true := by
    rw [Bool.or_eq_true] at hc
    rcases hc with hc | hc
    · have := h.hi a ha hc
      exact ⟨this, jac_closed hin hb ha this (by rw [lnkd_symm]; exact hl)⟩
    · have := h.hi b hb hc
      exact ⟨jac_closed hin ha hb this hl, this⟩
  refine ⟨by rw [List.length_set, List.length_set]; exact h.len, fun x hx hh => up x (h.up x hx hh), fun x hx hgx => ?_, fun x y hx hy hxy hel hor => ?_⟩
  · rw [hg2] at hgx
    split at hgx
    · rename_i e; subst e; exact hjab.2
    · rw [hg1] at hgx
      split at hgx
      · rename_i e; subst e; exact hjab.1
      · exact h.hi x hx hgx
  · by_cases hold : x < a ∨ x = a ∧ y < b
    · obtain ⟨h1, h2⟩ := h.met x y hx hy hold hel hor
      exact ⟨up x h1, up y h2⟩
    · obtain ⟨rfl, rfl⟩ : x = a ∧ y = b := by omega
      refine ⟨?_, ?_⟩
      · rw [hg2]; split
        · rfl
        · rw [hg1, if_pos rfl]
      · rw [hg2, if_pos rfl]
theorem SpR.skip (h : SpR g n i s0 a b s) (hc : (el g a b == 0) = true ∨ (gb s a || gb s b) = false) : SpR g n i s0 a (b + 1) s :=
  ⟨h.len, h.up, h.hi, fun x y hx hy hxy hel hor => by
    by_cases hold : x < a ∨ x = a ∧ y < b
    · exact h.met x y hx hy hold hel hor
    · obtain ⟨rfl, rfl⟩ : x = a ∧ y = b := by omega
      exfalso
      rcases hc with hc | hc
      · rw [hel] at hc; cases hc
      · rw [Bool.or_eq_false_iff] at hc
        rw [Bool.or_eq_true] at hor
        rcases hor with h1 | h1
        · rw [h.up x hx h1] at hc; exact absurd hc.1 (by simp)
        · rw [h.up y hy h1] at hc; exact absurd hc.2 (by simp)⟩
theorem SpR.nextA (h : SpR g n i s0 a n s) : SpR g n i s0 (a + 1) 0 s :=
  ⟨h.len, h.up, h.hi, fun x y hx hy hxy hel hor => h.met x y hx hy (by omega) hel hor⟩
theorem SpR.more (h : SpR g n i s0 n 0 s) (hn : sealL g s0 n = false) : cntB s0 n < cntB s n := by
  have hex : ∃ x y, x < n ∧ y < n ∧ badS g s0 x y = true := by
    apply Classical.byContradiction
    intro hne
    have : sealL g s0 n = true := by
      rw [sealL_iff, seal_badS]
      intro x y hx hy
      cases hb : badS g s0 x y
      · rfl
      · exact absurd ⟨x, y, hx, hy, hb⟩ hne
    rw [this] at hn; cases hn
  obtain ⟨x, y, hx, hy, hb⟩ := hex
  unfold badS at hb
  simp only [Bool.and_eq_true, bne_iff_ne, ne_eq, Bool.not_eq_true'] at hb
  obtain ⟨hne, hel⟩ := hb
  have hor : (gb s0 x || gb s0 y) = true := by
    revert hne
    cases gb s0 x <;> cases gb s0 y <;> simp
  obtain ⟨h1, h2⟩ := h.met x y hx hy (by omega) hel hor
  have hf := filter_lt (p := gb s0) (q := gb s) (List.range n) (fun z hz hp => h.up z (List.mem_range.1 hz) hp)
  cases hgx : gb s0 x
  · exact hf.2 x (List.mem_range.2 hx) hgx h1
  · have hgy : gb s0 y = false := by
      cases hh : gb s0 y
      · rfl
      · rw [hgx, hh] at hne; exact absurd rfl hne
    exact hf.2 y (List.mem_range.2 hy) hgy h2
theorem cntB_le (s : List Bool) (n : Nat) : cntB s n ≤ n := by
  unfold cntB
  have := List.length_filter_le (gb s) (List.range n)
  simpa using this
theorem SpR.last (hl : s.length = n) (hs : gb s i = true) (hh : ∀ x, x < n → gb s x = true → jac g n i n x = true) (hS : sealL g s n = true) : s = (List.range n).map (jac g n i n) := list_of_gb hl fun x hx => by
  rw [Bool.eq_iff_iff]
  exact ⟨hh x hx, fun h => jac_least hs ((sealL_iff g s n).1 hS) n x hx h⟩
end

section
variable {w : World} {n i : Nat}
theorem made_bools {w : World} {B : Nat} (hown : w.ownsRow B 4 1 (.slice (some ⟨B, 0, none⟩) n n) n (madeCells (Value.bool false).cells (n * 1)).toList) : Row w B 4 1 (.slice (some ⟨B, 0, none⟩) n n) n (cB (List.replicate n false)) := by
  have := Row.of_own hown
  rwa [show (madeCells (Value.bool false).cells (n * 1)).toList = cB (List.replicate n false) from cB_replicate n] at this
end

set_option maxHeartbeats 4000000 in
theorem SealedGroup_any (A : Option Addr) (n c : Nat) (g : List (List Int)) (i : Int) (w : World) (h : RdR w A n c g) :
    Calls Try.prog 17 #[.slice A n c, .int .i64 i] w fun e w' => ∃ A' c', e = .returned (.slice A' (sealedR g i).length c') ∧ Fr w' w.heap.size 4 1 (.slice A' (sealedR g i).length c') (sealedR g i).length (cB (sealedR g i)) ∧ Ext w w' := by
  have hlen := h.lenR
  have hle := h.le
  have htop := h.top
  obtain ⟨ib, hib, hbz0, hbz1, hbz2⟩ := info_parts Try.infoBool
  obtain ⟨t, ht⟩ : ∃ t, (gValid g && inB i 0 (n - 1)) = t := ⟨_, rfl⟩
  have HT := Lib.hid ht
  cases t
  · have e : sealedR g i = [] := by unfold sealedR; rw [hlen, ht]; rfl
    rw [e]
    clear e ht
    go_enter Try.func17, Try.ntmps17
    go_wp2_with fail
    refine (subject_any _ _ _ _ _ _ h).mono ?_; rintro e w1 ⟨rfl, hb1⟩; rw [HT.out]
    clear h
    go_wp2
    go_ret
    exact ⟨_, _, rfl, .inl ⟨_, rfl, rfl, rfl⟩, hb1⟩
  have eR : sealedR g i = (List.range n).map (jac g n i.toNat n) := by unfold sealedR; rw [hlen, ht]; rfl
  have ht2 := ht
  rw [Bool.and_eq_true] at ht2
  obtain ⟨hv, hi2⟩ := ht2
  have ia := inB_iff.1 hi2
  obtain ⟨i, rfl⟩ := Int.eq_ofNat_of_zero_le ia.1
  rw [Int.toNat_natCast] at eR
  have hin : i < n := by omega
  obtain ⟨n', m, htab, hnm, h6, hm, _⟩ := tab_of_valid hv
  have hn' : n' = n := by rw [← htab.len, hlen]
  subst hn'
  have hRl : ((List.range n').map (jac g n' i n')).length = n' := by simp
  have ER := Lib.hid eR
  have HTAB := Lib.hid htab
  have HRL := Lib.hid hRl
  clear eR ht hv hi2 ia hlen htab hRl
  go_enter Try.func17, Try.ntmps17
  go_wp2_with fail
  refine (subject_any _ _ _ _ _ _ h).mono ?_; rintro e w1 ⟨rfl, hb1⟩; rw [HT.out]
  go_upto_region 4 with (at_make; refine wpList_make_full _ rfl _ _ 23 rfl w1.heap.size 4 ib _ 1 Try.underlying23 hib hbz0 hbz1 .i64 .i64 _ _ n' rfl rfl rfl rfl (by rw [hbz2]; omega) (by unfold maxLen; omega) (Nat.le_refl _) ?_; intro w2 hown hgw)
  have hE2 : Ext w w2 := hb1.trans (ext_grown (Below.refl _ _) hgw (fun k e => by simp at e))
  have hO := (made_bools hown).mono (B' := w.heap.size) hb1.size
  obtain ⟨u0, _, q0⟩ := ownB_at hO hin
  have f0 := hO.frozenAt i
  have hO2 := ownB_set (k := i) hO true
  have hgB : w.heap.size ≤ w1.heap.size := hb1.size
  have hE3 : Ext w (w2.setCell ⟨w1.heap.size, i, none⟩ (.bool true)) := ext_grown hE2 (grown_set (p := ⟨w1.heap.size, i, none⟩) (g := w1.heap.size) (World.grownBy.refl w2 _) rfl _) (fun k e => by cases e; exact hgB)
  obtain ⟨go, hgo⟩ : ∃ go, w1.heap.size = go := ⟨_, rfl⟩
  rw [hgo] at hO2 hE3 hgB q0 f0 ⊢
  have START := Lib.hid (InR.start (g := g) hin)
  clear hown hgw hE2 hO hgo hb1
  go_wp2
  go_loopw [20] (fun kk wr => ∃ (k : Nat) (s : List Bool), k ≤ n' ∧ kk = .int .i64 k ∧ Hid (InR g n' i k 0 0 s) ∧ Row wr w.heap.size 4 1 (.slice (some ⟨go, 0, none⟩) n' n') n' (cB s) ∧ Ext w wr) (fun kk _ => n' - (intOf kk).toNat)
  case atStart => exact ⟨0, _, Nat.zero_le _, rfl, START, hO2, hE3⟩
  case round =>
    clear hO2 hE3 q0 f0 START
    obtain ⟨k, s, hk, rfl, HI, hO, hE⟩ := hrel
    by_cases hlt : k < n'
    · go_wp2
      go_loopw [24] (fun aa wr => ∃ (a : Nat) (s : List Bool), a ≤ n' ∧ aa = .int .i64 a ∧ Hid (InR g n' i k a 0 s) ∧ Row wr w.heap.size 4 1 (.slice (some ⟨go, 0, none⟩) n' n') n' (cB s) ∧ Ext w wr) (fun aa _ => n' - (intOf aa).toNat)
      case atStart => exact ⟨0, s, Nat.zero_le _, rfl, HI, hO, hE⟩
      case round =>
        clear hO hE HI
        obtain ⟨a, s, ha, rfl, HI, hO, hE⟩ := hrel
        by_cases hla : a < n'
        · go_wp2
          go_loopw [29] (fun bb wr => ∃ (b : Nat) (s : List Bool), b ≤ n' ∧ bb = .int .i64 b ∧ Hid (InR g n' i k a b s) ∧ Row wr w.heap.size 4 1 (.slice (some ⟨go, 0, none⟩) n' n') n' (cB s) ∧ Ext w wr) (fun bb _ => n' - (intOf bb).toNat)
          case atStart => exact ⟨0, s, Nat.zero_le _, rfl, HI, hO, hE⟩
          case round =>
            clear hO hE HI
            obtain ⟨b, s, hb, rfl, HI, hO, hE⟩ := hrel
            rename World => wo
            by_cases hlb : b < n'
            · obtain ⟨t1, T1, q1⟩ := ownB_at hO hla
              obtain ⟨t2, T2, q2⟩ := ownB_at hO hlb
              have f1 := hO.frozenAt a
              have g1 := gb_get T1.out
              have g2 := gb_get T2.out
              have hR := h.below hE
              have hset : ∀ v, Ext w (wo.setCell ⟨go, a, none⟩ (.bool v)) := fun v => ext_grown hE (grown_set (p := ⟨go, a, none⟩) (g := go) (World.grownBy.refl wo _) rfl _) (fun k e => by cases e; exact hgB)
              have HPUT : Hid (∀ v, v = (t1 || t2 && lnkd g a b) → InR g n' i k a (b + 1) (s.set a v)) := Lib.hid (fun v hv => HI.out.put hin hla hlb (by rw [g1, g2]; exact hv))
              have HSET := Lib.hid hset
              have HROW : Hid (∀ v, Row (wo.setCell ⟨go, a, none⟩ (.bool v)) w.heap.size 4 1 (.slice (some ⟨go, 0, none⟩) n' n') n' (cB (s.set a v))) := Lib.hid (fun v => ownB_set (k := a) hO v)
              clear g1 g2 hset hO HI T1 T2 hE
              cases t1
              · cases t2
                · clear hR
                  go_wp2
                  go_roundw
                  case rel => exact ⟨b + 1, _, by omega, by go_num, Lib.hid (HPUT.out false rfl), HROW.out false, HSET.out false⟩
                  case measure => simp [intOf]; omega
                · obtain ⟨tl, htl⟩ : ∃ t, lnkd g a b = t := ⟨_, rfl⟩
                  rw [htl] at HPUT
                  have HTL := Lib.hid htl
                  clear htl
                  go_wp2_with fail
                  refine (linked_any _ _ _ _ _ _ _ _ hR HTAB.out hnm hla hlb).mono ?_; rintro e w' ⟨rfl, rfl⟩; rw [HTL.out]
                  clear hR
                  go_wp2
                  go_roundw
                  case rel => exact ⟨b + 1, _, by omega, by go_num, Lib.hid (HPUT.out tl (by simp)), HROW.out tl, HSET.out tl⟩
                  case measure => simp [intOf]; omega
              · clear hR
                go_wp2
                go_roundw
                case rel => exact ⟨b + 1, _, by omega, by go_num, Lib.hid (HPUT.out true rfl), HROW.out true, HSET.out true⟩
                case measure => simp [intOf]; omega
            · obtain rfl : b = n' := by omega
              have HN := Lib.hid (HI.out.nextA hla)
              clear HI
              go_wp2
              go_roundw
              case rel => exact ⟨a + 1, s, by omega, by go_num, HN, hO, hE⟩
              case measure => simp [intOf]; omega
        · obtain rfl : a = n' := by omega
          have HN := Lib.hid (HI.out.nextK)
          clear HI
          go_wp2
          go_roundw
          case rel => exact ⟨k + 1, s, by omega, by go_num, HN, hO, hE⟩
          case measure => simp [intOf]; omega
    · obtain rfl : k = n' := by omega
      have es := HI.out.last
      subst es
      clear h HI
      go_wp2
      go_ret
      exact ⟨_, _, by rw [ER.out, HRL.out]; rfl, by rw [ER.out, HRL.out]; exact .inr hO, hE⟩
end Go.Proofs.Ytakdefcdhcghiaa
