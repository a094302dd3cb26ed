/-
  Whether two graphs are equal, by the library's Equal; the closure of a graph, the program's and the reference's; rights that can ever be had.
-/
import Derived.Test.YtbljkahdhckegaaGrC
import Derived.Test.YtbljkahdhckegaaGrT
import Derived.Deep.LoopGhost
namespace Go.Proofs.Ytbljkahdhckegaa
open Go.RowKit

set_option maxHeartbeats 400000 in
theorem EqualI_any (A A' : Option Addr) (n c n' c' : Nat) (ms ms' : List Int) (w : World) (h : Rd w 1 A n c (cI ms)) (h' : Rd w 1 A' n' c' (cI ms')) :
    Calls Try.prog 66 #[.slice A n c, .slice A' n' c'] w fun e w' => e = .returned (.bool (eqIs ms ms')) ∧ Ext w w' := by
  have hl := h.lenI
  have hl' := h'.lenI
  have hle := h.le
  have htop := h.top
  have htl := Nat.le_trans h.le h.top
  have htl' := Nat.le_trans h'.le h'.top
  by_cases hnn : n = n'
  · have HL := Lib.hid hl
    have HL' := Lib.hid hl'
    clear hl hl' htl'
    subst hnn
    go_enter Try.func66, Try.ntmps66
    go_wp2
    go_loopw [13] (fun i wr => ∃ k : Nat, k ≤ n ∧ i = .int .i64 k ∧ Ext w wr ∧ Hid (eqIs ms ms' = eqIs (ms.drop k) (ms'.drop k))) (fun i _ => n - (intOf i).toNat)
    case atStart => exact ⟨0, Nat.zero_le _, rfl, Below.refl _ _, rfl⟩
    case round =>
      obtain ⟨k, hk, rfl, hb, H⟩ := hrel
      by_cases hlt : k < n
      · obtain ⟨b, off, z, rfl, X, g0⟩ := (h.below hb).atI hlt
        obtain ⟨b', off', z', rfl, X', g0'⟩ := (h'.below hb).atI hlt
        clear h h'
        have G0 := later_cell g0
        have G0' := later_cell g0'
        have hd : eqIs ms ms' = (decide (z = z') && eqIs (ms.drop (k + 1)) (ms'.drop (k + 1))) := by rw [H.out, drop_of_get X.out, drop_of_get X'.out, eqIs_cons]
        have HD := Lib.hid hd
        clear hd H X X' HL HL'
        by_cases hz : z = z'
        · go_wp2
          (refine wp_region_later (by kernel_rfl) (by kernel_rfl) ?_; repeat (any_goals (first | (with_reducible refine wpQuiet_nil ?_; intro wq hq) | go_big_quiet_step ((fail)))))
          go_wp2
          go_roundw
          case rel => exact ⟨k + 1, by omega, by go_num, hb.trans hq, by rw [HD.out, decide_eq_true hz]; exact Bool.true_and _⟩
          case measure => simp [intOf]; omega
        · go_wp2
          (refine wp_region_later (by kernel_rfl) (by kernel_rfl) ?_; repeat (any_goals (first | (with_reducible refine wpQuiet_nil ?_; intro wq hq) | go_big_quiet_step ((fail)))))
          go_wp2
          go_ret
          exact ⟨ret_bool (by rw [HD.out, decide_eq_false hz]; rfl), hb.trans hq⟩
      · have e : eqIs ms ms' = true := by rw [H.out, drop_all HL.out (by omega), drop_all HL'.out (by omega)]; rfl
        have E := Lib.hid e
        clear e h h'
        go_wp2
        go_ret
        exact ⟨ret_bool E.out.symm, hb⟩
  · have e : eqIs ms ms' = false := by unfold eqIs; rw [decide_eq_false_iff_not]; intro e; apply hnn; rw [← hl, ← hl', e]
    have E := Lib.hid e
    have hne : ((n : Int) != (n' : Int)) = true := by rw [bne_iff_ne]; omega
    clear e hl hl' hnn
    go_enter Try.func66, Try.ntmps66
    go_wp2
    go_ret
    exact ⟨ret_bool E.out.symm, Below.refl _ _⟩

set_option maxHeartbeats 400000 in
theorem EqualFuncR_any (A A' : Option Addr) (n c n' c' : Nat) (ms ms' : List (List Int)) (w : World) (h : RdR w A n c ms) (h' : RdR w A' n' c' ms') :
    Calls Try.prog 65 #[.slice A n c, .slice A' n' c', .func (.func 66) #[] #[]] w fun e w' => e = .returned (.bool (eqRs ms ms')) ∧ Ext w w' := by
  have hl := h.lenR
  have hl' := h'.lenR
  have hle := h.le
  have htop := h.top
  have htl := Nat.le_trans h.le h.top
  have htl' := Nat.le_trans h'.le h'.top
  by_cases hnn : n = n'
  · have HL := Lib.hid hl
    have HL' := Lib.hid hl'
    clear hl hl' htl'
    subst hnn
    go_enter Try.func65, Try.ntmps65
    go_wp2
    go_loopw [17] (fun i wr => ∃ k : Nat, k ≤ n ∧ i = .int .i64 k ∧ Ext w wr ∧ Hid (eqRs ms ms' = eqRs (ms.drop k) (ms'.drop k))) (fun i _ => n - (intOf i).toNat)
    case atStart => exact ⟨0, Nat.zero_le _, rfl, Below.refl _ _, rfl⟩
    case round =>
      obtain ⟨k, hk, rfl, hb, H⟩ := hrel
      by_cases hlt : k < n
      · obtain ⟨b, off, A1, m1, c1, xs, rfl, X, g0, R⟩ := (h.below hb).atR hlt
        obtain ⟨b', off', A2, m2, c2, ys, rfl, X', g0', R'⟩ := (h'.below hb).atR hlt
        clear h h'
        have hd : eqRs ms ms' = (eqIs xs ys && eqRs (ms.drop (k + 1)) (ms'.drop (k + 1))) := by rw [H.out, drop_of_get X.out, drop_of_get X'.out, eqRs_cons]
        have HD := Lib.hid hd
        clear hd H X X' HL HL'
        obtain ⟨t, ht⟩ : ∃ t, eqIs xs ys = t := ⟨_, rfl⟩
        go_wp2_with fail
        refine (EqualI_any _ _ _ _ _ _ _ _ _ R R').mono ?_; rintro e w2 ⟨rfl, hb2⟩; rw [ht]
        clear R R'
        cases t
        · go_wp2
          go_ret
          exact ⟨ret_bool (by rw [HD.out, ht]; rfl), hb.trans hb2⟩
        · go_wp2
          go_roundw
          case rel => exact ⟨k + 1, by omega, by go_num, hb.trans hb2, by rw [HD.out, ht]; exact Bool.true_and _⟩
          case measure => simp [intOf]; omega
      · have e : eqRs ms ms' = true := by rw [H.out, drop_all HL.out (by omega), drop_all HL'.out (by omega)]; rfl
        have E := Lib.hid e
        clear e h h'
        go_wp2
        go_ret
        exact ⟨ret_bool E.out.symm, hb⟩
  · have e : eqRs ms ms' = false := by unfold eqRs; rw [decide_eq_false_iff_not]; intro e; apply hnn; rw [← hl, ← hl', e]
    have E := Lib.hid e
    have hne : ((n : Int) != (n' : Int)) = true := by rw [bne_iff_ne]; omega
    clear e hl hl' h h' hnn
    go_enter Try.func65, Try.ntmps65
    go_wp2
    go_ret
    exact ⟨ret_bool E.out.symm, Below.refl _ _⟩

theorem sameGraph_any (A A' : Option Addr) (n c n' c' : Nat) (ms ms' : List (List Int)) (w : World) (h : RdR w A n c ms) (h' : RdR w A' n' c' ms') :
    Calls Try.prog 59 #[.slice A n c, .slice A' n' c'] w fun e w' => e = .returned (.bool (eqRs ms ms')) ∧ Ext w w' := by
  go_enter Try.func59, Try.ntmps59
  go_wp2_with fail
  refine (EqualFuncR_any _ _ _ _ _ _ _ _ _ h h').mono ?_; rintro e w2 ⟨rfl, hb2⟩
  go_wp2
  go_ret
  exact ⟨rfl, hb2⟩

def closeR (g : List (List Int)) : List (List Int) := if gValid g then closeG g else []
theorem tab_size {n m : Nat} {g : List (List Int)} (h : Tab n m g) (h6 : n ≤ 6) (hm : m ≤ 10) : g.length + tot g ≤ 1048576 := by
  have h3 : ∀ l : List (List Int), (∀ xs ∈ l, xs.length = m) → tot l ≤ l.length * 10 := by
    intro l
    induction l with
    | nil => intro _; simp [tot]
    | cons x r ih => intro h; have := ih fun y hy => h y (by simp [hy]); have := h x (by simp); simp only [tot, List.length_cons]; omega
  have := h3 g h.row
  have := h.len
  omega
theorem closeR_size (g : List (List Int)) : (closeR g).length + tot (closeR g) ≤ 1048576 := by
  unfold closeR
  cases hv : gValid g with
  | false => simp [tot]
  | true =>
    obtain ⟨n, m, ht, _, h6, hm, _⟩ := tab_of_valid hv
    exact tab_size (close_tab ht) h6 hm

set_option maxHeartbeats 1000000 in
theorem CloseGraph_any (A : Option Addr) (n c : Nat) (xss : List (List Int)) (w : World) (h : RdR w A n c xss) :
    Calls Try.prog 35 #[.slice A n c] w fun e w' => ∃ A' c', e = .returned (.slice A' (closeR xss).length c') ∧ FrR w' w.heap.size w'.heap.size A' (closeR xss).length c' (closeR xss) ∧ Ext w w' := by
  unfold closeR
  cases hv : gValid xss with
  | false =>
    go_enter Try.func35, Try.ntmps35
    go_wp2_with fail
    refine (GraphValid_any _ _ _ _ _ h).mono ?_; rintro e w1 ⟨rfl, hb1⟩; rw [hv]
    go_wp2
    go_ret
    exact ⟨none, 0, rfl, ⟨[], .inl ⟨none, rfl, rfl, rfl⟩, rfl, Rws.nil, by simp⟩, hb1⟩
  | true =>
    obtain ⟨n', m, ht, hnm, h6, hm, _⟩ := tab_of_valid hv
    have hn : n' = n := by rw [← ht.len, h.lenR]
    subst hn
    have HV := Lib.hid hv
    clear hv
    go_enter Try.func35, Try.ntmps35
    go_wp2_with fail
    refine (GraphValid_any _ _ _ _ _ h).mono ?_; rintro e w1 ⟨rfl, hb1⟩; rw [HV.out]
    go_wp2
    go_loopg [0] (defi xss) (fun d gv wr => ∃ (k : Nat) (Ag : Option Addr) (cg : Nat), gv = .slice Ag n' cg ∧ RdR wr Ag n' cg (iterG k xss) ∧ Ext w wr ∧ Hid (d = defi (iterG k xss)))
    case atStart => exact ⟨0, _, _, rfl, h.below hb1, hb1, rfl⟩
    case round =>
      clear hb1 h
      obtain ⟨k, Ag, cg, rfl, hR, hb, HD⟩ := hrel
      have hk := iterG_tab ht k
      have HK := Lib.hid hk
      have hrow := hk.row
      clear hk
      go_wp2_with fail
      refine (grow_any _ _ _ _ _ hR m hrow hnm (by omega)).mono ?_; rintro e w2 ⟨A2, c2, rfl, o2, hb2⟩
      obtain ⟨t, hte⟩ : ∃ t, eqRs (growG (iterG k xss)) (iterG k xss) = t := ⟨_, rfl⟩
      have HTE := Lib.hid hte
      clear hte hrow
      go_wp2_with fail
      refine (sameGraph_any _ _ _ _ _ _ _ _ _ o2.rdR (hR.below hb2)).mono ?_; rintro e w3 ⟨rfl, hb3⟩; rw [HTE.out]
      cases t with
      | true =>
        have e1 := (eqRs_iff _ _).1 HTE.out
        have e2 := close_of_fix ht e1
        rw [e1, e2] at o2
        have o3 := o2.below hb3
        have HL := Lib.hid o2.lenR
        clear e1 e2 hR o2
        go_wp2
        go_ret
        simp only []
        rw [HL.out]
        exact ⟨_, _, rfl, (o3.mono hb.size).monoE hb3.size, Ext.trans hb (Ext.trans hb2 hb3)⟩
      | false =>
        have hne : growG (iterG k xss) ≠ iterG k xss := fun e => by have := HTE.out; rw [(eqRs_iff _ _).2 e] at this; cases this
        have hlt := defi_grow HK.out hne
        rw [← HD.out] at hlt
        have HLT := Lib.hid hlt
        have hR3 := o2.rdR.below hb3
        clear hne hlt hR o2
        go_wp2
        go_roundg (defi (iterG (k + 1) xss))
        case measure => exact HLT.out
        case rel => exact ⟨k + 1, _, _, rfl, hR3, Ext.trans hb (Ext.trans hb2 hb3), rfl⟩

end Go.Proofs.Ytbljkahdhckegaa
