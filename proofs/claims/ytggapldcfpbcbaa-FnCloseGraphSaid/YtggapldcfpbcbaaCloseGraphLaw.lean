/-
  The law FnCloseGraph returns true at every input, and leaves all that was there as it was: the walk.
-/
import Derived.Test.YtggapldcfpbcbaaGrowGraphLaw
import Derived.Deep.Cut
namespace Go.Proofs.Ytggapldcfpbcbaa
open Go.RowKit

/-- The graph with one place emptied. -/
def lessG (g : List (List Int)) (k p : Nat) : List (List Int) := g.set k ((rowAt g k).set p 0)
theorem lessG_len (g : List (List Int)) (k p : Nat) : (lessG g k p).length = g.length := by unfold lessG; rw [List.length_set]
theorem lessG_at {g : List (List Int)} {k p : Nat} {xs : List Int} (h : g[k]? = some xs) : (lessG g k p)[k]? = some (xs.set p 0) := by
  unfold lessG
  rw [rowAt_get h, List.getElem?_set_self (List.getElem?_eq_some_iff.1 h).1]
theorem lessG_ne {g : List (List Int)} {k p i : Nat} (h : i ≠ k) : (lessG g k p)[i]? = g[i]? := by
  unfold lessG; rw [List.getElem?_set_ne (Ne.symm h)]
theorem cv_zero {y : Int} (hy : Rg y) : cvB 0 y = true := lift1 (fun y => cvB 0 y) (by decide +kernel) hy
section
variable {n m : Nat} {g : List (List Int)}
theorem set_tab (h : Tab n m g) {k p : Nat} : Tab n m (lessG g k p) := by
  by_cases hk : k < n
  · obtain ⟨xs, hx, hl⟩ := h.at hk
    have hmem : ∀ ys ∈ lessG g k p, ys ∈ g ∨ ys = xs.set p 0 := fun ys hy => by
      unfold lessG at hy
      rw [rowAt_get hx] at hy
      exact List.mem_or_eq_of_mem_set hy
    refine ⟨by rw [lessG_len]; exact h.len, fun ys hy => ?_, fun ys hy z hz => ?_⟩
    · rcases hmem ys hy with h1 | h1
      · exact h.row ys h1
      · rw [h1, List.length_set]; exact hl
    · rcases hmem ys hy with h1 | h1
      · exact h.rg ys h1 z hz
      · rw [h1] at hz
        rcases List.mem_or_eq_of_mem_set hz with h2 | h2
        · exact h.rg xs (List.mem_of_getElem? hx) z h2
        · rw [h2]; exact ⟨by omega, by omega⟩
  · have e : lessG g k p = g := by unfold lessG; exact List.set_eq_of_length_le (by rw [h.len]; omega)
    rw [e]; exact h
theorem less_sub (h : Tab n m g) {k p : Nat} : Sub n m (lessG g k p) g := fun i j hi hj => by
  obtain ⟨xs, hx, hl⟩ := h.at hi
  by_cases hk : i = k
  · subst hk
    have h1 := lessG_at (p := p) hx
    obtain ⟨z, hz⟩ := get_of_lt hl hj
    by_cases hp : p = j
    · subst hp
      rw [el_get h1 (List.getElem?_set_self (by omega))]
      exact cv_zero (h.el_rg i p)
    · rw [el_get h1 (by rw [List.getElem?_set_ne hp]; exact hz), el_get hx hz]
      exact cv_refl (h.rg xs (List.mem_of_getElem? hx) z (List.mem_of_getElem? hz))
  · have h1 : (lessG g k p)[i]? = some xs := by rw [lessG_ne hk]; exact hx
    obtain ⟨z, hz⟩ := get_of_lt hl hj
    rw [el_get h1 hz, el_get hx hz]
    exact cv_refl (h.rg xs (List.mem_of_getElem? hx) z (List.mem_of_getElem? hz))
theorem iter_mono {a b : List (List Int)} (ha : Tab n m a) (hb : Tab n m b) (hnm : n ≤ m) (h : Sub n m a b) : ∀ k, Sub n m (iterG k a) (iterG k b)
  | 0 => h
  | k + 1 => grow_mono (iterG_tab ha k) (iterG_tab hb k) hnm (iter_mono ha hb hnm h k)
theorem iter_le (h : Tab n m g) (k : Nat) : ∀ d, Sub n m (iterG k g) (iterG (k + d) g)
  | 0 => sub_refl (iterG_tab h k)
  | d + 1 => sub_trans (iterG_tab h k) (iterG_tab h (k + d)) (iterG_tab h (k + d + 1)) (iter_le h k d) (grow_sub (iterG_tab h (k + d)))
theorem iter_close (h : Tab n m g) (k : Nat) : Sub n m (iterG k g) (closeG g) := by
  rcases Nat.le_total k (defi g) with hk | hk
  · obtain ⟨d, hd⟩ := Nat.exists_eq_add_of_le hk
    unfold closeG; rw [hd]; exact iter_le h k d
  · obtain ⟨d, hd⟩ := Nat.exists_eq_add_of_le hk
    have : iterG k g = closeG g := by rw [hd]; exact iterG_fix (close_fix h) d
    rw [this]; exact sub_refl (close_tab h)
theorem close_mono {a b : List (List Int)} (ha : Tab n m a) (hb : Tab n m b) (hnm : n ≤ m) (h : Sub n m a b) : Sub n m (closeG a) (closeG b) :=
  sub_trans (close_tab ha) (iterG_tab hb _) (close_tab hb) (iter_mono ha hb hnm h _) (iter_close hb _)
theorem close_close (h : Tab n m g) : closeG (closeG g) = closeG g := by
  have h1 := iterG_fix (g := closeG g) (k := 0) (close_fix h) (defi (closeG g))
  rw [Nat.zero_add] at h1
  exact h1
end
theorem close_law {g : List (List Int)} (hv : gValid g = true) (k p : Nat) : closeR (closeR g) = closeR g ∧ gWithin (closeR (lessG g k p)) (closeR g) = true := by
  obtain ⟨n, m, ht, hnm, h6, hm, _⟩ := tab_of_valid hv
  have e2 : closeR g = closeG g := by unfold closeR; rw [if_pos hv]
  have hvc := valid_of_tab (close_tab ht) hnm h6 hm
  have hvl := valid_of_tab (set_tab (k := k) (p := p) ht) hnm h6 hm
  have e3 : closeR (closeG g) = closeG (closeG g) := by unfold closeR; rw [if_pos hvc]
  have e4 : closeR (lessG g k p) = closeG (lessG g k p) := by unfold closeR; rw [if_pos hvl]
  rw [e2, e3, e4]
  exact ⟨close_close ht, (within_sub (close_tab (set_tab ht)) (close_tab ht) hnm h6 hm).2 (close_mono (set_tab ht) ht hnm (less_sub ht))⟩

set_option maxHeartbeats 4000000 in
theorem FnCloseGraph_walk (A : Option Addr) (n0 c : Nat) (code : List Int) (A' : Option Addr) (n' c' : Nat) (more : List Int) (w : World) (h0 : Rd w 1 A n0 c (code.map (Value.int .u8))) (F0 : ∀ z ∈ code, (Lit.int .u8 z).wf = true) (h0' : Rd w 1 A' n' c' (more.map (Value.int .u8))) (_F0' : ∀ z ∈ more, (Lit.int .u8 z).wf = true) :
    Calls Try.prog 14 #[.slice A n0 c, .slice A' n' c'] w fun e w' => e = .returned (.bool true) ∧ Ext w w' := by
  obtain ⟨bs, hbs⟩ := bytes_of F0
  rw [hbs] at h0
  have hle := h0.le
  have htop := h0.top
  have hle' := h0'.le
  have htop' := h0'.top
  clear h0'
  by_cases hn : 1048576 < n0
  · go_enter Try.func14, Try.ntmps14
    go_wp2
    go_ret
    exact ⟨rfl, Below.refl _ _⟩
  by_cases hn' : 1048576 < n'
  · go_enter Try.func14, Try.ntmps14
    go_wp2
    go_ret
    exact ⟨rfl, Below.refl _ _⟩
  obtain ⟨i0, hi, hz0, hz1, hz2⟩ := info_parts Try.infoInt
  obtain ⟨i1, ki, kz0, kz1, kz2⟩ := info_parts Try.infoRow
  go_enter Try.func14, Try.ntmps14
  go_wp2_with fail
  refine (DrawCloseGraph_any _ _ _ _ _ h0).mono ?_; rintro e w1 ⟨A1, n, c1, g, rfl, hg, hb1⟩
  go_wp2_with fail
  refine (CloseGraph_any _ _ _ _ _ hg).mono ?_; rintro e w2 ⟨A2, c2, rfl, o2, hb2⟩
  go_wp2_with fail
  refine (specCloseGraph_any _ _ _ _ _ (hg.below hb2)).mono ?_; rintro e w3 ⟨A3, c3, rfl, o3, hb3⟩
  go_wp2_with fail
  refine (sameRows_any _ _ _ _ _ _ _ _ _ (o2.rdR.below hb3) o3.rdR).mono ?_; rintro e w4 ⟨rfl, hb4⟩; rw [(eqRs_iff _ _).2 rfl]
  go_wp2_with fail
  refine (specGraphValid_any _ _ _ _ _ (hg.below (hb2.trans (hb3.trans hb4)))).mono ?_; rintro e w5 ⟨rfl, hb5⟩
  have hx5 := o2.rdR.below (hb3.trans (hb4.trans hb5))
  have hg5 := hg.below (hb2.trans (hb3.trans (hb4.trans hb5)))
  have hb := hb1.trans (hb2.trans (hb3.trans (hb4.trans hb5)))
  have hgle := hg5.le
  have hgtop := hg5.top
  clear hb1 hb2 hb3 hb4 hb5 o2 o3 hg h0
  cases hgv : gValid g with
  | false =>
    have e1 : (closeR g).length = 0 := by unfold closeR; rw [if_neg (by rw [hgv]; exact Bool.false_ne_true)]; rfl
    go_wp2_with ((go_at_call 23; refine (alive_any _).mono ?_; rintro e w6 ⟨rfl, hb6⟩))
    go_ret
    exact ⟨rfl, hb.trans hb6⟩
  | true =>
    by_cases hz : n = 0
    · have e1 : (closeR g).length = 0 := by
        have : g = [] := List.eq_nil_of_length_eq_zero (by rw [hg5.lenR]; exact hz)
        subst this; rfl
      subst hz
      go_wp2_with ((go_at_call 23; refine (alive_any _).mono ?_; rintro e w6 ⟨rfl, hb6⟩))
      go_ret
      exact ⟨rfl, hb.trans hb6⟩
    obtain ⟨nn, m, ht, hnm, h6, hm10, _⟩ := tab_of_valid hgv
    obtain rfl : nn = n := by rw [← ht.len, hg5.lenR]
    have hnp : 0 < nn := by omega
    have hnz : ((nn : Int) == 0) = false := by rw [beq_eq_false_iff_ne]; omega
    have HTB := Lib.hid ht
    have HV := Lib.hid hgv
    have hb0 : Ext w5 (w5.alloc (.cells #[] 30)) := (Below.refl _ _).alloc (Nat.le_refl _) _
    have hF0 : Row (w5.alloc (.cells #[] 30)) w5.heap.size 30 1 (.slice (some ⟨w5.heap.size, 0, none⟩) 0 0) 0 (([] : List Hd).map hv) := Row.lit (w := w5) (n := 0) #[] (by simp) (by unfold maxLen; omega) (Nat.le_refl _)
    have hq1 : (n' : Int).tmod (nn : Int) = ((n' % nn : Nat) : Int) := by rw [Int.tmod_eq_emod_of_nonneg (by omega)]; simp
    have hq2 : (n' : Int).tmod (m : Int) = ((n' % m : Nat) : Int) := by rw [Int.tmod_eq_emod_of_nonneg (by omega)]; simp
    have hp1 : n' % nn < nn := Nat.mod_lt _ hnp
    have hp2 : n' % m < m := Nat.mod_lt _ (by omega)
    obtain ⟨k0, hk0⟩ : ∃ k, n' % nn = k := ⟨_, rfl⟩
    obtain ⟨p0, hp0⟩ : ∃ k, n' % m = k := ⟨_, rfl⟩
    rw [hk0] at hq1 hp1
    rw [hp0] at hq2 hp2
    clear ht hgv hk0 hp0
    go_wp2
    go_loopw [7, 8] (fun out ii wr => ∃ (i : Nat) (Ao : Option Addr) (co : Nat) (hs : List Hd), i ≤ nn ∧ ii = .int .i64 i ∧ out = .slice Ao i co ∧ Hid (hs.length = i) ∧ Row wr w5.heap.size 30 1 (.slice Ao i co) i (hs.map hv) ∧ Rws wr w5.heap.size hs ((lessG g k0 p0).take i) ∧ Ext w5 wr) (fun _ ii _ => nn - (intOf ii).toNat)
    case atStart => exact ⟨0, _, _, [], Nat.zero_le _, rfl, rfl, rfl, hF0, by rw [List.take_zero]; exact Rws.nil, hb0⟩
    case round =>
      clear hF0 hb0
      obtain ⟨i, Ao, co, hs, hi', rfl, rfl, HH, hO, hR, hbx⟩ := hrel
      by_cases hlt : i < nn
      · obtain ⟨b, off, Ai, m', ci, xi, hA, Xi, gi, Ri⟩ := (hg5.below hbx).atR hlt
        obtain rfl : m' = m := by rw [← Ri.lenI]; exact HTB.out.row _ (List.mem_of_getElem? Xi.out)
        subst hA
        have hal : Ext wr (wr.alloc (.cells #[] 3)) := (Below.refl _ _).alloc (Nat.le_refl _) _
        have hFl : Fr (wr.alloc (.cells #[] 3)) wr.heap.size 3 1 (.slice (some ⟨wr.heap.size, 0, none⟩) 0 0) 0 [] := .inr (Row.lit (n := 0) #[] (by simp) (by unfold maxLen; omega) (Nat.le_refl _))
        have hRl := Ri.below hal
        have Gi := kept_of_below hal _ _ gi
        have hle0 := Nat.le_of_lt (show wr.heap.size < (wr.alloc (.cells #[] 3)).heap.size by simp)
        have hsw := hbx.size
        go_upto_region 14 with (at_builtin; refine wpList_append_fr _ rfl _ _ 30 rfl wr.heap.size 3 i0 _ 1 8 Try.underlying30 hi hz0 hz1 hz2 rfl (by omega) _ 0 [] rfl hFl _ m' ci _ rfl hRl (one_cI _) (by unfold maxLen; omega) (by omega) hle0 ?_; intro Ar cr wa row hFa hga hrow)
        rw [Nat.zero_add, List.nil_append] at hFa
        have hba : Ext wr wa := ext_grown hal hga (fun k hk => (hrow k hk).1)
        clear hFl hRl Gi hal hle0 hga hrow gi
        have hXl := Ri.lenI
        obtain ⟨g1, rfl, hB1, _, own⟩ := hFa.form (by omega)
        obtain ⟨z, Z, qz⟩ := ownI_at own hp2
        have fz := own.frozenAt p0
        have hcr := (Rd.of_row own).le
        have hcrt := (Rd.of_row own).top
        try rw [Nat.zero_add]
        by_cases hik : i = k0
        · subst hik
          have hset := ownI_set (k := p0) own 0
          have hbt : Ext wr (wa.setCell ⟨g1, p0, none⟩ (.int .i64 0)) := Below.setCell hba (p := ⟨g1, p0, none⟩) hB1 _
          have hget := lessG_at (p := p0) Xi.out
          go_upto_region 16 with (fail)
          obtain ⟨wt, hwt⟩ : ∃ wt, wa.setCell ⟨g1, p0, none⟩ (.int .i64 0) = wt := ⟨_, rfl⟩
          rw [hwt] at hset hbt ⊢
          clear hwt
          have hR2 := hR.snoc hbt hsw (.inr hset)
          rw [show (lessG g i p0).take i ++ [xi.set p0 0] = (lessG g i p0).take (i + 1) from (take_of_get hget).symm] at hR2
          have hal2 : Ext wt (wt.alloc (.cells #[.slice (some ⟨g1, 0, none⟩) m' cr] 30)) := (Below.refl _ _).alloc (Nat.le_refl _) _
          have hO3 := (hO.below hbt).below hal2
          have hR3 := hR2.below hal2
          have hRl2 : Rd (wt.alloc (.cells #[.slice (some ⟨g1, 0, none⟩) m' cr] 30)) 1 (some ⟨wt.heap.size, 0, none⟩) 1 1 (([(some ⟨g1, 0, none⟩, m', cr)] : List Hd).map hv) := Rd.lit (sz := 1) (n := 1) #[.slice (some ⟨g1, 0, none⟩) m' cr] rfl (by omega)
          have hbw := hbx.trans hbt
          have hbs := Nat.le_trans hbw.size hal2.size
          clear hR2 hO hR own qz fz
          go_wp2_with (at_builtin; refine wpList_append_fr _ rfl _ _ 22 rfl w5.heap.size 30 i1 _ 1 24 Try.underlying22 ki kz0 kz1 kz2 rfl (by omega) _ i _ rfl (.inr hO3) _ 1 1 _ rfl hRl2 (one_hv _) (by unfold maxLen; omega) (by omega) hbs ?_; intro A3 c3 w3 row3 hF4 hg3 hrow3)
          rw [← List.map_append] at hF4
          have hO4 := hF4.row (by omega)
          have hR4 := hR3.asideRow hO3 hg3 (fun k hk => (hrow3 k hk).2.2)
          have hb4 := ext_grown (hbw.trans hal2) hg3 (fun k hk => (hrow3 k hk).1)
          clear hF4 hR3 hO3
          go_roundw
          case rel => exact ⟨i + 1, A3, c3, _, by omega, by go_num, rfl, (by show (hs ++ [_]).length = i + 1; rw [List.length_append, HH.out]; rfl), hO4, hR4, hb4⟩
          case measure => simp [intOf]; omega
        · have hik' : ((i : Int) == (k0 : Int)) = false := by rw [beq_eq_false_iff_ne]; omega
          have hget : (lessG g k0 p0)[i]? = some xi := by rw [lessG_ne hik]; exact Xi.out
          go_upto_region 16 with (fail)
          have hR2 := hR.snoc hba hsw (.inr own)
          rw [show (lessG g k0 p0).take i ++ [xi] = (lessG g k0 p0).take (i + 1) from (take_of_get hget).symm] at hR2
          have hal2 : Ext wa (wa.alloc (.cells #[.slice (some ⟨g1, 0, none⟩) m' cr] 30)) := (Below.refl _ _).alloc (Nat.le_refl _) _
          have hO3 := (hO.below hba).below hal2
          have hR3 := hR2.below hal2
          have hRl2 : Rd (wa.alloc (.cells #[.slice (some ⟨g1, 0, none⟩) m' cr] 30)) 1 (some ⟨wa.heap.size, 0, none⟩) 1 1 (([(some ⟨g1, 0, none⟩, m', cr)] : List Hd).map hv) := Rd.lit (sz := 1) (n := 1) #[.slice (some ⟨g1, 0, none⟩) m' cr] rfl (by omega)
          have hbw := hbx.trans hba
          have hbs := Nat.le_trans hbw.size hal2.size
          clear hR2 hO hR own qz fz
          go_wp2_with (at_builtin; refine wpList_append_fr _ rfl _ _ 22 rfl w5.heap.size 30 i1 _ 1 24 Try.underlying22 ki kz0 kz1 kz2 rfl (by omega) _ i _ rfl (.inr hO3) _ 1 1 _ rfl hRl2 (one_hv _) (by unfold maxLen; omega) (by omega) hbs ?_; intro A3 c3 w3 row3 hF4 hg3 hrow3)
          rw [← List.map_append] at hF4
          have hO4 := hF4.row (by omega)
          have hR4 := hR3.asideRow hO3 hg3 (fun k hk => (hrow3 k hk).2.2)
          have hb4 := ext_grown (hbw.trans hal2) hg3 (fun k hk => (hrow3 k hk).1)
          clear hF4 hR3 hO3
          go_roundw
          case rel => exact ⟨i + 1, A3, c3, _, by omega, by go_num, rfl, (by show (hs ++ [_]).length = i + 1; rw [List.length_append, HH.out]; rfl), hO4, hR4, hb4⟩
          case measure => simp [intOf]; omega
      · have e : i = nn := by omega
        subst e
        rw [take_all (by rw [lessG_len]; exact hg5.lenR) (Nat.le_refl _)] at hR
        have hless := (RdA.of hs (.inr hO) hR).rdR
        obtain ⟨l1, l2⟩ := close_law HV.out k0 p0
        have l4 := (grow_law HV.out).2.2.2
        have L1 := Lib.hid l1
        have L2 := Lib.hid l2
        have L4 := Lib.hid l4
        have hgx := hg5.below hbx
        have hxw := hx5.below hbx
        have hbw := hb.trans hbx
        clear hO hR l1 l2 l4 hb hbx hg5 hx5
        go_wp2_with fail
        refine (GraphWithin_any _ _ _ _ _ _ _ _ _ hgx hxw).mono ?_; rintro e w6 ⟨rfl, hb6⟩; rw [L4.out]
        go_wp2_with fail
        refine (CloseGraph_any _ _ _ _ _ (hxw.below hb6)).mono ?_; rintro e w7 ⟨A7, c7, rfl, o7, hb7⟩
        go_wp2_with fail
        refine (sameRows_any _ _ _ _ _ _ _ _ _ o7.rdR (hxw.below (hb6.trans hb7))).mono ?_; rintro e w8 ⟨rfl, hb8⟩; rw [(eqRs_iff _ _).2 L1.out]
        go_wp2_with fail
        refine (CloseGraph_any _ _ _ _ _ (hless.below (hb6.trans (hb7.trans hb8)))).mono ?_; rintro e w9 ⟨A9, c9, rfl, o9, hb9⟩
        go_wp2_with fail
        refine (GraphWithin_any _ _ _ _ _ _ _ _ _ o9.rdR (hxw.below (hb6.trans (hb7.trans (hb8.trans hb9))))).mono ?_; rintro e w10 ⟨rfl, hb10⟩; rw [L2.out]
        go_wp2
        go_ret
        exact ⟨rfl, hbw.trans (hb6.trans (hb7.trans (hb8.trans (hb9.trans hb10))))⟩
end Go.Proofs.Ytggapldcfpbcbaa
