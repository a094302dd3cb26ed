/-
  What is true of moves, in plain Lean.
-/
import Derived.Test.YtbljkahdhckegaaMvP
import Derived.Test.YtbljkahdhckegaaClA
namespace Go.Proofs.Ytbljkahdhckegaa
open Go.RowKit

theorem and_rg {x : Int} (hx : Rg x) : Rg (bits .and .i64 x 5) := by
  have := lift1 (fun x => decide (0 ≤ bits .and .i64 x 5) && decide (bits .and .i64 x 5 ≤ 15)) (by decide +kernel) hx
  simpa [Rg] using this
theorem cv_less {r q : Int} (hr : Rg r) (hq : Rg q) (h : cvB r q = true) : cvB (bits .and .i64 r 5) q = true := by
  have := lift2 (fun r q => !(cvB r q) || cvB (bits .and .i64 r 5) q) (by decide +kernel) hr hq
  rw [h] at this
  simpa using this
/-- A move that is possible is possible with fewer rights, and as a drop. -/
theorem allow_less {g : List (List Int)} {kd who oth thg rts : Int} (h : allowR g (kd, who, oth, thg, rts) = true) :
    allowR g (kd, who, oth, thg, bits .and .i64 rts 5) = true ∧ allowR g (3, who, oth, thg, rts) = true := by
  unfold allowR at h ⊢
  rw [Bool.and_eq_true] at h
  obtain ⟨hv, hok⟩ := h
  obtain ⟨n, m, ht, hnm, h6, hm, h0⟩ := tab_of_valid hv
  unfold okMv at hok ⊢
  rw [Bool.and_eq_true] at hok
  obtain ⟨i, k, j, h1, h2, h3, h4, h5, h6', h7, h8⟩ := rngMv_iff.1 hok.1
  simp only at h1 h2 h3 h7 h8
  have hr : Rg rts := ⟨h7, h8⟩
  have hr5 := and_rg hr
  rw [hv, Bool.true_and, Bool.true_and]
  refine ⟨?_, ?_⟩
  · rw [Bool.and_eq_true]
    refine ⟨rngMv_iff.2 ⟨i, k, j, h1, h2, h3, h4, h5, h6', hr5.1, hr5.2⟩, ?_⟩
    have hk := hok.2
    unfold kindOk at hk ⊢
    simp only at hk ⊢
    split
    · rename_i e
      rw [if_pos e, Bool.and_eq_true] at hk
      rw [hk.1, cv_less hr (ht.el_rg _ _) hk.2]; rfl
    · rename_i e
      rw [if_neg e] at hk
      split
      · rename_i e2
        rw [if_pos e2, Bool.and_eq_true] at hk
        rw [hk.1, cv_less hr (ht.el_rg _ _) hk.2]; rfl
      · rename_i e2
        rw [if_neg e2] at hk
        exact hk
  · rw [Bool.and_eq_true]
    exact ⟨rngMv_iff.2 ⟨i, k, j, h1, h2, h3, h4, h5, h6', h7, h8⟩, by unfold kindOk; rfl⟩

section
variable {n m : Nat} {g a : List (List Int)}
theorem cv_andn {x y : Int} (hx : Rg x) (hy : Rg y) : cvB (bits .andNot .i64 x y) x = true := lift2 (fun x y => cvB (bits .andNot .i64 x y) x) (by decide +kernel) hx hy
/-- Nobody gets by a move what he does not get by growing. -/
theorem doMv_sub (h : Tab n m g) (v : Mv) : Sub n m (doMv g v) (growG g) := fun a b ha hb => by
  have hkeep := grow_keep h ha hb
  unfold doMv
  split
  rotate_left
  · exact hkeep
  · next ho =>
    unfold okMv at ho
    rw [Bool.and_eq_true] at ho
    obtain ⟨i, k, j, h1, h2, h3, h4, h5, h6, h7, h8⟩ := rngMv_iff.1 ho.1
    have hk := ho.2
    rw [h.len] at h4 h5
    have hl0 : len0 g = m := len0_tab h (by omega)
    rw [hl0] at h6
    rw [h1, h2, h3] at hk ⊢
    simp only [Int.toNat_natCast] at hk ⊢
    have hr : Rg v.2.2.2.2 := ⟨h7, h8⟩
    unfold kindOk at hk
    unfold putMv
    split
    · next e =>
      rw [if_pos e, Bool.and_eq_true] at hk
      rw [setAt_el h h4 h6]
      split
      · next hab =>
        obtain ⟨rfl, rfl⟩ := hab
        have hl : lnk g a k = true := by unfold lnk; rw [Bool.or_eq_true]; exact .inl hk.1
        exact cv_least (h.el_rg _ _) hr ((growG_tab h).el_rg _ _) hkeep (cv_trans hr (h.el_rg _ _) ((growG_tab h).el_rg _ _) hk.2 (grow_gets h ha hb h5 hl))
      · exact hkeep
    · next e =>
      rw [if_neg e] at hk
      split
      · next e2 =>
        rw [if_pos e2, Bool.and_eq_true] at hk
        rw [setAt_el h h5 h6]
        split
        · next hab =>
          obtain ⟨rfl, rfl⟩ := hab
          have hl : lnk g a i = true := by unfold lnk; rw [Bool.or_eq_true]; exact .inr hk.1
          exact cv_least (h.el_rg _ _) hr ((growG_tab h).el_rg _ _) hkeep (cv_trans hr (h.el_rg _ _) ((growG_tab h).el_rg _ _) hk.2 (grow_gets h ha hb h4 hl))
        · exact hkeep
      · rw [setAt_el h h4 h6]
        split
        · next hab =>
          obtain ⟨rfl, rfl⟩ := hab
          exact cv_trans (andn_rg (h.el_rg _ _) hr) (h.el_rg _ _) ((growG_tab h).el_rg _ _) (cv_andn (h.el_rg _ _) hr) hkeep
        · exact hkeep
theorem runG_sub (hc : Tab n m a) (hnm : n ≤ m) (hf : growG a = a) : ∀ (l : List Mv) (g : List (List Int)), Tab n m g → Sub n m g a → Sub n m (runG g l) a := by
  intro l
  induction l with
  | nil => exact fun g _ h => h
  | cons v r ih =>
    intro g hg h
    refine ih (doMv g v) (doMv_tab hg v) ?_
    have h1 := sub_trans (doMv_tab hg v) (growG_tab hg) (growG_tab hc) (doMv_sub hg v) (grow_mono hg hc hnm h)
    rwa [hf] at h1
theorem close_sub' (h : Tab n m g) : ∀ k, Sub n m g (iterG k g)
  | 0 => sub_refl h
  | k + 1 => sub_trans h (iterG_tab h k) (iterG_tab h (k + 1)) (close_sub' h k) (grow_sub (iterG_tab h k))
end
theorem run_within {g : List (List Int)} (hv : gValid g = true) (l : List Mv) : gWithin (runG g l) (closeR g) = true := by
  obtain ⟨n, m, ht, hnm, h6, hm, _⟩ := tab_of_valid hv
  have e : closeR g = closeG g := by unfold closeR; rw [if_pos hv]
  rw [e, within_sub (runG_tab ht l) (close_tab ht) hnm h6 hm]
  exact runG_sub (close_tab ht) hnm (close_fix ht) l g ht (close_sub' ht _)
theorem runG_append (g : List (List Int)) : ∀ a b : List Mv, runG g (a ++ b) = runG (runG g a) b
  | [], _ => rfl
  | v :: a, b => runG_append (doMv g v) a b
theorem runN_append (g : List (List Int)) : ∀ a b : List Mv, runN g (a ++ b) = runN g a + runN (runG g a) b
  | [], b => by show runN g b = 0 + runN g b; omega
  | v :: a, b => by
    have := runN_append (doMv g v) a b
    show (if okMv g v = true then 1 else 0) + runN (doMv g v) (a ++ b) = (if okMv g v = true then 1 else 0) + runN (doMv g v) a + runN (runG (doMv g v) a) b
    omega
end Go.Proofs.Ytbljkahdhckegaa
