/-
  After how many rounds a subject has rights, as the program and as the reference reckon it.
-/
import Derived.Test.YtakdefcdhcghiaaClB
namespace Go.Proofs.Ytakdefcdhcghiaa
open Go.RowKit

def leakOk (g : List (List Int)) (i j r : Int) : Bool := gValid g && inB i 0 (g.length - 1) && inB j 0 (len0 g - 1) && inB r 0 15
def leakF (g : List (List Int)) (i j : Nat) (r : Int) : Option Nat := (List.range (defi g + 1)).find? (fun k => cvB r (el (iterG k g) i j))
def leakR (g : List (List Int)) (i j r : Int) : Int := if leakOk g i j r then (match leakF g i.toNat j.toNat r with | some k => (k : Int) | none => -1) else -1
theorem defR_bound : ∀ {xs : List Int}, (∀ z ∈ xs, Rg z) → defR xs ≤ 15 * xs.length
  | [], _ => Nat.le_refl _
  | z :: r, h => by
    have h1 := h z (by simp)
    have h2 := defR_bound (xs := r) fun u hu => h u (by simp [hu])
    obtain ⟨h3, h4⟩ := h1
    simp only [defR, List.length_cons]; omega
theorem defi_bound {m : Nat} (hm : m ≤ 10) : ∀ {g : List (List Int)}, (∀ xs ∈ g, xs.length = m) → (∀ xs ∈ g, ∀ z ∈ xs, Rg z) → defi g ≤ 150 * g.length
  | [], _, _ => Nat.le_refl _
  | x :: r, h, hr => by
    have h1 := defR_bound (hr x (by simp))
    have h2 := h x (by simp)
    have h3 := defi_bound hm (g := r) (fun y hy => h y (by simp [hy])) (fun y hy => hr y (by simp [hy]))
    simp only [defi, List.length_cons]; omega
theorem tab_defi {n m : Nat} {g : List (List Int)} (ht : Tab n m g) (h6 : n ≤ 6) (hm : m ≤ 10) : defi g ≤ 900 := by
  have := defi_bound hm ht.row ht.rg
  rw [ht.len] at this; omega
section
variable {n m : Nat} {g : List (List Int)} {i j : Nat} {r : Int}
theorem leak_some (ht : Tab n m g) {k : Nat} (h : cvB r (el (iterG k g) i j) = true) (hmin : ∀ k', k' < k → cvB r (el (iterG k' g) i j) = false) : leakF g i j r = some k := by
  unfold leakF
  rw [List.find?_range_eq_some]
  refine ⟨h, List.mem_range.2 ?_, fun k' hk' => by rw [hmin k' hk']; rfl⟩
  rcases Nat.lt_or_ge (defi g) k with hlt | hge
  · have hc := hmin (defi g) hlt
    obtain ⟨d, hd⟩ := Nat.exists_eq_add_of_le (Nat.le_of_lt hlt)
    rw [hd, iterG_fix (close_fix ht) d] at h
    rw [h] at hc; cases hc
  · omega
theorem leak_none {k : Nat} (hf : growG (iterG k g) = iterG k g) (hall : ∀ k', k' ≤ k → cvB r (el (iterG k' g) i j) = false) : leakF g i j r = none := by
  unfold leakF
  rw [List.find?_eq_none]
  intro k' _
  rcases Nat.le_total k' k with h | h
  · rw [hall k' h]; exact Bool.false_ne_true
  · obtain ⟨d, hd⟩ := Nat.exists_eq_add_of_le h
    rw [hd, iterG_fix hf d, hall k (Nat.le_refl _)]; exact Bool.false_ne_true
end

set_option maxHeartbeats 2000000 in
theorem LeakRounds_any (A : Option Addr) (n c : Nat) (g : List (List Int)) (i j r : Int) (w : World) (h : RdR w A n c g) :
    Calls Try.prog 24 #[.slice A n c, .int .i64 i, .int .i64 j, .int .i64 r] w fun e w' => e = .returned (.int .i64 (leakR g i j r)) ∧ Ext w w' := by
  have hn := h.lenR
  cases hs : (gValid g && inB i 0 (n - 1)) with
  | false =>
    have e : leakR g i j r = -1 := by unfold leakR leakOk; rw [hn, hs]; rfl
    have E := Lib.hid e
    clear e
    go_enter Try.func24, Try.ntmps24
    go_wp2_with fail
    refine (subject_any _ _ _ _ _ _ h).mono ?_; rintro e w1 ⟨rfl, hb1⟩; rw [hs]
    go_wp2
    go_ret
    exact ⟨ret_int E.out.symm, hb1⟩
  | true =>
    have hs2 := hs
    rw [Bool.and_eq_true] at hs2
    obtain ⟨hv, hin⟩ := hs2
    have hin2 := inB_iff.1 hin
    obtain ⟨n', m, ht, hnm, h6, hm, h0⟩ := tab_of_valid hv
    have hn' : n' = n := by rw [← ht.len, hn]
    subst hn'
    obtain ⟨ii, rfl⟩ : ∃ k : Nat, i = k := ⟨i.toNat, by omega⟩
    have hi : ii < n' := by omega
    have hl0 : len0 g = m := h0 (by omega)
    have e0 : leakR g ii j r = if inB j 0 (m - 1) && inB r 0 15 then (match leakF g ii j.toNat r with | some k => (k : Int) | none => -1) else -1 := by
      unfold leakR leakOk; rw [hn, hs, hl0]; simp
    have E0 := Lib.hid e0
    have HS := Lib.hid hs
    have HT := Lib.hid ht
    obtain ⟨b, off, A1, m1, c1, xs, rfl, X, g0, R⟩ := h.atR hi
    have hm1 : m1 = m := by rw [← R.lenI]; exact ht.row _ (List.mem_of_getElem? X.out)
    subst hm1
    have hle := h.le
    have htop := h.top
    have hml := Nat.le_trans R.le R.top
    clear e0 hs hn hl0 h0 hv hin hin2 ht X R
    cases hj : inB j 0 (m1 - 1) with
    | false =>
      clear HT
      go_enter Try.func24, Try.ntmps24
      go_wp2_with fail
      refine (subject_any _ _ _ _ _ _ h).mono ?_; rintro e w1 ⟨rfl, hb1⟩; rw [HS.out]
      have g1 := kept_of_below hb1 _ _ g0
      clear h
      go_wp2_with fail
      refine (in_any _ _ _ _).mono ?_; rintro e w' ⟨rfl, rfl⟩; rw [hj]
      go_wp2
      go_ret
      exact ⟨ret_int (by rw [E0.out, hj]; rfl), hb1⟩
    | true =>
      have hj2 := inB_iff.1 hj
      obtain ⟨jj, rfl⟩ : ∃ k : Nat, j = k := ⟨j.toNat, by omega⟩
      have hjm : jj < m1 := by omega
      have HJ := Lib.hid hj
      clear hj hj2
      cases hr : inB r 0 15 with
      | false =>
        clear HT
        go_enter Try.func24, Try.ntmps24
        go_wp2_with fail
        refine (subject_any _ _ _ _ _ _ h).mono ?_; rintro e w1 ⟨rfl, hb1⟩; rw [HS.out]
        have g1 := kept_of_below hb1 _ _ g0
        clear h
        go_wp2_with fail
        refine (in_any _ _ _ _).mono ?_; rintro e w' ⟨rfl, rfl⟩; rw [HJ.out]
        go_wp2_with fail
        refine (RightsValid_any _ _).mono ?_; rintro e w' ⟨rfl, rfl⟩; rw [hr]
        go_wp2
        go_ret
        exact ⟨ret_int (by rw [E0.out, hr, Bool.and_false]; rfl), hb1⟩
      | true =>
        have HR := Lib.hid hr
        have hd9 := tab_defi HT.out h6 hm
        have e1 : leakR g ii jj r = (match leakF g ii jj r with | some k => (k : Int) | none => -1) := by rw [E0.out, HJ.out, hr]; rfl
        have E1 := Lib.hid e1
        clear hr e1
        go_enter Try.func24, Try.ntmps24
        go_wp2_with fail
        refine (subject_any _ _ _ _ _ _ h).mono ?_; rintro e w1 ⟨rfl, hb1⟩; rw [HS.out]
        have g1 := kept_of_below hb1 _ _ g0
        have hR1 := h.below hb1
        clear h g0
        go_wp2_with fail
        refine (in_any _ _ _ _).mono ?_; rintro e w' ⟨rfl, rfl⟩; rw [HJ.out]
        go_wp2_with fail
        refine (RightsValid_any _ _).mono ?_; rintro e w' ⟨rfl, rfl⟩; rw [HR.out]
        go_wp2
        go_loopg [0, 9] (defi g) (fun d gv nv wr => ∃ (k : Nat) (Ag : Option Addr) (cg : Nat), gv = .slice Ag n' cg ∧ nv = .int .i64 k ∧ RdR wr Ag n' cg (iterG k g) ∧ Ext w wr ∧ Hid (d = defi (iterG k g)) ∧ k + d ≤ 900 ∧ Hid (∀ k', k' < k → cvB r (el (iterG k' g) ii jj) = false))
        case atStart => exact ⟨0, _, _, rfl, rfl, hR1, hb1, rfl, by omega, fun k' hk' => absurd hk' (by omega)⟩
        case round =>
          clear hR1 hb1 g1
          obtain ⟨k, Ag, cg, rfl, rfl, hR, hb, HD, hkd, HMIN⟩ := hrel
          have hk := iterG_tab HT.out k
          have HK := Lib.hid hk
          have hrow := hk.row
          have hgle := hR.le
          have hgtop := hR.top
          obtain ⟨b3, off3, b4, off4, c4, hA4, q3, q4, q5, q6⟩ := hR.atEl hk hi hjm
          subst hA4
          obtain ⟨z, hz⟩ : ∃ z, z = el (iterG k g) ii jj := ⟨_, rfl⟩
          rw [← hz] at q6
          have HZ := Lib.hid hz
          obtain ⟨t, hte⟩ : ∃ t, (bits .andNot .i64 r z == 0) = t := ⟨_, rfl⟩
          have HC : Hid (cvB r (el (iterG k g) ii jj) = t) := by rw [← hz]; exact hte
          clear hz hk
          cases t with
          | true =>
            have e2 := leak_some HT.out HC.out HMIN.out
            have E2 := Lib.hid e2
            clear e2 hR hrow
            go_wp2
            go_ret
            exact ⟨ret_int (by rw [E1.out, E2.out]), hb⟩
          | false =>
            obtain ⟨t2, ht2⟩ : ∃ t, eqRs (growG (iterG k g)) (iterG k g) = t := ⟨_, rfl⟩
            have HT2 := Lib.hid ht2
            clear ht2
            go_wp2_with fail
            refine (grow_any _ _ _ _ _ hR m1 hrow hnm (by omega)).mono ?_; rintro e w2 ⟨A2, c2, rfl, o2, hb2⟩
            go_wp2_with fail
            refine (sameGraph_any _ _ _ _ _ _ _ _ _ o2.rdR (hR.below hb2)).mono ?_; rintro e w3 ⟨rfl, hb3⟩; rw [HT2.out]
            clear q3 q6 hte
            cases t2 with
            | true =>
              have e1 := (eqRs_iff _ _).1 HT2.out
              have e2 := leak_none (r := r) (i := ii) (j := jj) e1 (fun k' hk' => by
                by_cases e : k' = k
                · rw [e]; exact HC.out
                · exact HMIN.out k' (by omega))
              have E2 := Lib.hid e2
              clear e1 e2 hR o2 hrow
              go_wp2
              go_ret
              exact ⟨ret_int (by rw [E1.out, E2.out]), Ext.trans hb (Ext.trans hb2 hb3)⟩
            | false =>
              have hne : growG (iterG k g) ≠ iterG k g := fun e => by have := HT2.out; rw [(eqRs_iff _ _).2 e] at this; cases this
              have hlt := defi_grow HK.out hne
              rw [← HD.out] at hlt
              have hlt2 : k + 1 + defi (iterG (k + 1) g) ≤ 900 := by
                have : defi (iterG (k + 1) g) < gk := hlt
                omega
              have HLT := Lib.hid hlt
              have HLT2 := Lib.hid hlt2
              have hR3 := o2.rdR.below hb3
              clear hne hlt hlt2 hR o2 hrow
              go_wp2
              go_roundg (defi (iterG (k + 1) g))
              case measure => exact HLT.out
              case rel => exact ⟨k + 1, _, _, rfl, by go_num, hR3, Ext.trans hb (Ext.trans hb2 hb3), rfl, HLT2.out, fun k' hk' => by
                by_cases e : k' = k
                · rw [e]; exact HC.out
                · exact HMIN.out k' (by omega)⟩

set_option maxHeartbeats 2000000 in
theorem specLeakRounds_any (A : Option Addr) (n c : Nat) (g : List (List Int)) (i j r : Int) (w : World) (h : RdR w A n c g) :
    Calls Try.prog 23 #[.slice A n c, .int .i64 i, .int .i64 j, .int .i64 r] w fun e w' => e = .returned (.int .i64 (leakR g i j r)) ∧ Ext w w' := by
  have hn := h.lenR
  cases hr : inB r 0 15 with
  | false =>
    have e : leakR g i j r = -1 := by unfold leakR leakOk; rw [hr, Bool.and_false]; rfl
    have E := Lib.hid e
    clear e h
    go_enter Try.func23, Try.ntmps23
    go_wp2_with fail
    refine (specRightsValid_any _ _).mono ?_; rintro e w' ⟨rfl, rfl⟩; rw [hr]
    go_wp2
    go_ret
    exact ⟨ret_int E.out.symm, Below.refl _ _⟩
  | true =>
    have HR := Lib.hid hr
    have hrr := inB_iff.1 hr
    cases hok : (gValid g && inB i 0 (g.length - 1) && inB j 0 (len0 g - 1)) with
    | false =>
      have e : leakR g i j r = -1 := by unfold leakR leakOk; rw [hok]; rfl
      have e2 : everR g i j = -1 := by unfold everR; rw [hok]; rfl
      have E := Lib.hid e
      have E2 := Lib.hid e2
      clear e e2 hr hok
      go_enter Try.func23, Try.ntmps23
      go_wp2_with fail
      refine (specRightsValid_any _ _).mono ?_; rintro e w' ⟨rfl, rfl⟩; rw [HR.out]
      go_wp2_with fail
      refine (specEverRights_any _ _ _ _ _ _ _ h).mono ?_; rintro e w1 ⟨rfl, hb1⟩; rw [E2.out]
      go_wp2
      go_ret
      exact ⟨ret_int E.out.symm, hb1⟩
    | true =>
      have hok2 := hok
      simp only [Bool.and_eq_true] at hok2
      obtain ⟨⟨hv, hin⟩, hjn⟩ := hok2
      have hin2 := inB_iff.1 hin
      have hjn2 := inB_iff.1 hjn
      obtain ⟨n', m, ht, hnm, h6, hm, h0⟩ := tab_of_valid hv
      have hn' : n' = n := by rw [← ht.len, hn]
      subst hn'
      rw [hn] at hin2
      obtain ⟨ii, rfl⟩ : ∃ k : Nat, i = k := ⟨i.toNat, by omega⟩
      have hi : ii < n' := by omega
      rw [h0 (by omega)] at hjn2
      obtain ⟨jj, rfl⟩ : ∃ k : Nat, j = k := ⟨j.toNat, by omega⟩
      have hjm : jj < m := by omega
      have hev : everR g ii jj = el (closeG g) ii jj := by unfold everR; rw [hok]; rfl
      have e1 : leakR g ii jj r = (match leakF g ii jj r with | some k => (k : Int) | none => -1) := by unfold leakR leakOk; rw [hok, hr]; rfl
      have hcl := (close_tab ht).el_rg ii jj
      have hfl := cv_flip hrr hcl
      obtain ⟨z, hz⟩ : ∃ z, z = el (closeG g) ii jj := ⟨_, rfl⟩
      rw [← hz] at hev hcl hfl
      obtain ⟨hz0, hz1⟩ := hcl
      have HEV := Lib.hid hev
      have E1 := Lib.hid e1
      have HT := Lib.hid ht
      have HZ := Lib.hid hz
      clear hz hev e1 hok hv hin hjn ht h0 hr hn
      cases ht2 : cvB r z with
      | false =>
        rw [ht2] at hfl
        have hne : (bits .and .i64 z r != r) = true := by simp [bne, hfl]
        have e2 : leakF g ii jj r = none := leak_none (k := defi g) (close_fix HT.out) (fun k' hk' => by
          cases hc : cvB r (el (iterG k' g) ii jj) with
          | false => rfl
          | true =>
            have h1 : Sub n' m (iterG k' g) (closeG g) := by
              obtain ⟨d, hd⟩ := Nat.exists_eq_add_of_le hk'
              have : ∀ d, Sub n' m (iterG k' g) (iterG (k' + d) g) := fun d => by
                induction d with
                | zero => exact sub_refl (iterG_tab HT.out k')
                | succ d ih => exact sub_trans (iterG_tab HT.out k') (iterG_tab HT.out (k' + d)) (iterG_tab HT.out (k' + d + 1)) ih (grow_sub (iterG_tab HT.out (k' + d)))
              unfold closeG; rw [hd]; exact this d
            have h2 := cv_trans hrr ((iterG_tab HT.out k').el_rg ii jj) ((close_tab HT.out).el_rg ii jj) hc (h1 ii jj hi hjm)
            rw [← HZ.out, ht2] at h2; cases h2)
        have E2 := Lib.hid e2
        clear e2 hfl
        go_enter Try.func23, Try.ntmps23
        go_wp2_with fail
        refine (specRightsValid_any _ _).mono ?_; rintro e w' ⟨rfl, rfl⟩; rw [HR.out]
        go_wp2_with fail
        refine (specEverRights_any _ _ _ _ _ _ _ h).mono ?_; rintro e w1 ⟨rfl, hb1⟩; rw [HEV.out]
        go_wp2_with fail
        refine (specEverRights_any _ _ _ _ _ _ _ (h.below hb1)).mono ?_; rintro e w2 ⟨rfl, hb2⟩; rw [HEV.out]
        go_wp2
        go_ret
        exact ⟨ret_int (by rw [E1.out, E2.out]), Ext.trans hb1 hb2⟩
      | true =>
        rw [ht2] at hfl
        have hne : (bits .and .i64 z r != r) = false := by simp [bne, hfl]
        have HC2 := Lib.hid ht2
        have hd9 := tab_defi HT.out h6 hm
        clear hfl ht2
        go_enter Try.func23, Try.ntmps23
        go_wp2_with fail
        refine (specRightsValid_any _ _).mono ?_; rintro e w' ⟨rfl, rfl⟩; rw [HR.out]
        go_wp2_with fail
        refine (specEverRights_any _ _ _ _ _ _ _ h).mono ?_; rintro e w1 ⟨rfl, hb1⟩; rw [HEV.out]
        go_wp2_with fail
        refine (specEverRights_any _ _ _ _ _ _ _ (h.below hb1)).mono ?_; rintro e w2 ⟨rfl, hb2⟩; rw [HEV.out]
        have hb12 := Ext.trans hb1 hb2
        have hR1 := h.below hb12
        clear h hb1 hb2
        go_wp2
        go_loopg [0, 9] (defi g) (fun d gv nv wr => ∃ (k : Nat) (Ag : Option Addr) (cg : Nat), gv = .slice Ag n' cg ∧ nv = .int .i64 k ∧ RdR wr Ag n' cg (iterG k g) ∧ Ext w wr ∧ Hid (d = defi (iterG k g)) ∧ k + d ≤ 900 ∧ Hid (∀ k', k' < k → cvB r (el (iterG k' g) ii jj) = false))
        case atStart => exact ⟨0, _, _, rfl, rfl, hR1, hb12, rfl, by omega, fun k' hk' => absurd hk' (by omega)⟩
        case round =>
          clear hR1 hb12
          obtain ⟨k, Ag, cg, rfl, rfl, hR, hb, HD, hkd, HMIN⟩ := hrel
          have hk := iterG_tab HT.out k
          have HK := Lib.hid hk
          have hgle := hR.le
          have hgtop := hR.top
          obtain ⟨b3, off3, b4, off4, c4, hA4, q3, q4, q5, q6⟩ := hR.atEl hk hi hjm
          subst hA4
          have hfl := cv_flip hrr (hk.el_rg ii jj)
          obtain ⟨u, hu⟩ : ∃ z, z = el (iterG k g) ii jj := ⟨_, rfl⟩
          rw [← hu] at q6 hfl
          have HC : Hid (cvB r (el (iterG k g) ii jj) = cvB r u) := by rw [← hu]; exact rfl
          clear hu hk
          cases t : cvB r u with
          | true =>
            rw [t] at hfl
            have hne2 : (bits .and .i64 u r != r) = false := by simp [bne, hfl]
            have e2 := leak_some HT.out (HC.out.trans t) HMIN.out
            have E2 := Lib.hid e2
            clear e2 hR hfl t
            go_wp2
            go_ret
            exact ⟨ret_int (by rw [E1.out, E2.out]), hb⟩
          | false =>
            rw [t] at hfl
            have hne2 : (bits .and .i64 u r != r) = true := by simp [bne, hfl]
            have hcf : cvB r (el (iterG k g) ii jj) = false := HC.out.trans t
            have hng : growG (iterG k g) ≠ iterG k g := fun e => by
              have := close_of_fix HT.out e
              rw [this, ← HZ.out, HC2.out] at hcf; cases hcf
            have hlt := defi_grow HK.out hng
            rw [← HD.out] at hlt
            have hlt2 : k + 1 + defi (iterG (k + 1) g) ≤ 900 := by
              have : defi (iterG (k + 1) g) < gk := hlt
              omega
            have hv2 : gValid (iterG k g) = true := valid_of_tab HK.out hnm h6 hm
            have hg2 : growR (iterG k g) = iterG (k + 1) g := by unfold growR; rw [hv2]; rfl
            have hgl : (growR (iterG k g)).length = n' := by rw [hg2, (iterG_tab HT.out (k + 1)).len]
            have HG2 := Lib.hid hg2
            have HGL := Lib.hid hgl
            have HCF := Lib.hid hcf
            have HLT := Lib.hid hlt
            have HLT2 := Lib.hid hlt2
            clear hv2 hg2 hgl hcf hng hlt hlt2 hfl t
            go_wp2_with fail
            refine (specGrowGraph_any _ _ _ _ _ hR).mono ?_; rintro e w3 ⟨A3, c3, rfl, o3, hb3⟩
            rw [HGL.out, HG2.out] at o3
            rw [HGL.out]
            have hR4 := o3.rdR
            have hb4 := Ext.trans hb hb3
            clear o3 hR hb3 hb q3 q6 hne2
            go_wp2
            go_roundg (defi (iterG (k + 1) g))
            case measure => exact HLT.out
            case rel => exact ⟨k + 1, _, _, rfl, by go_num, hR4, hb4, rfl, HLT2.out, fun k' hk' => by
              by_cases e : k' = k
              · rw [e]; exact HCF.out
              · exact HMIN.out k' (by omega)⟩
end Go.Proofs.Ytakdefcdhcghiaa
