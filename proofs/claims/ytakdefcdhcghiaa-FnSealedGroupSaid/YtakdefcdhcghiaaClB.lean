/-
  Rights that can ever be had, as the program and as the reference reckon them.
-/
import Derived.Test.YtakdefcdhcghiaaClA
namespace Go.Proofs.Ytakdefcdhcghiaa
open Go.RowKit

def everR (g : List (List Int)) (i j : Int) : Int := if gValid g && inB i 0 (g.length - 1) && inB j 0 (len0 g - 1) then el (closeG g) i.toNat j.toNat else -1

set_option maxHeartbeats 400000 in
theorem subject_any (A : Option Addr) (n c : Nat) (xss : List (List Int)) (i : Int) (w : World) (h : RdR w A n c xss) :
    Calls Try.prog 38 #[.slice A n c, .int .i64 i] w fun e w' => e = .returned (.bool (gValid xss && inB i 0 (n - 1))) ∧ Ext w w' := by
  have hnl := Nat.le_trans h.le h.top
  cases hv : gValid xss with
  | false =>
    go_enter Try.func38, Try.ntmps38
    go_wp2_with fail
    refine (GraphValid_any _ _ _ _ _ h).mono ?_; rintro e w1 ⟨rfl, hb1⟩; rw [hv]
    go_wp2
    go_ret
    exact ⟨rfl, hb1⟩
  | true =>
    have HV := Lib.hid hv
    clear hv
    go_enter Try.func38, Try.ntmps38
    go_wp2_with fail
    refine (GraphValid_any _ _ _ _ _ h).mono ?_; rintro e w1 ⟨rfl, hb1⟩; rw [HV.out]
    clear h
    go_wp2_with fail
    refine (in_any _ _ _ _).mono ?_; rintro e w' ⟨rfl, rfl⟩
    go_wp2
    go_ret
    exact ⟨ret_bool (by rw [Bool.true_and]), hb1⟩

set_option maxHeartbeats 1000000 in
theorem EverRights_any (A : Option Addr) (n c : Nat) (xss : List (List Int)) (i j : Int) (w : World) (h : RdR w A n c xss) :
    Calls Try.prog 28 #[.slice A n c, .int .i64 i, .int .i64 j] w fun e w' => e = .returned (.int .i64 (everR xss i j)) ∧ Ext w w' := by
  have hn := h.lenR
  cases hs : (gValid xss && inB i 0 (n - 1)) with
  | false =>
    have e : everR xss i j = -1 := by unfold everR; rw [hn, hs]; rfl
    have E := Lib.hid e
    clear e
    go_enter Try.func28, Try.ntmps28
    go_wp2_with fail
    refine (subject_any _ _ _ _ _ _ h).mono ?_; rintro e w1 ⟨rfl, hb1⟩; rw [hs]
    go_wp2
    go_ret
    exact ⟨ret_int E.out.symm, hb1⟩
  | true =>
    have hs2 := hs
    rw [Bool.and_eq_true] at hs2
    obtain ⟨hv, hin⟩ := hs2
    have hin2 := inB_iff.1 hin
    obtain ⟨n', m, ht, hnm, h6, hm, h0⟩ := tab_of_valid hv
    have hn' : n' = n := by rw [← ht.len, hn]
    subst hn'
    obtain ⟨ii, rfl⟩ : ∃ k : Nat, i = k := ⟨i.toNat, by omega⟩
    have hi : ii < n' := by omega
    have hl0 : len0 xss = m := h0 (by omega)
    have e0 : everR xss ii j = if inB j 0 (m - 1) then el (closeG xss) ii j.toNat else -1 := by unfold everR; rw [hn, hs, hl0]; simp
    have E0 := Lib.hid e0
    have HS := Lib.hid hs
    have HT := Lib.hid ht
    have hcr : closeR xss = closeG xss := by unfold closeR; rw [hv]; rfl
    have HCR := Lib.hid hcr
    obtain ⟨b, off, A1, m1, c1, xs, rfl, X, g0, R⟩ := h.atR hi
    have hm1 : m1 = m := by rw [← R.lenI]; exact ht.row _ (List.mem_of_getElem? X.out)
    subst hm1
    have hle := h.le
    have htop := h.top
    have hml := Nat.le_trans R.le R.top
    clear e0 hs hcr hn hl0 h0 hv hin hin2 ht X R
    cases hj : inB j 0 (m1 - 1) with
    | false =>
      clear HCR HT
      go_enter Try.func28, Try.ntmps28
      go_wp2_with fail
      refine (subject_any _ _ _ _ _ _ h).mono ?_; rintro e w1 ⟨rfl, hb1⟩; rw [HS.out]
      have g1 := kept_of_below hb1 _ _ g0
      clear h
      go_wp2_with fail
      refine (in_any _ _ _ _).mono ?_; rintro e w' ⟨rfl, rfl⟩; rw [hj]
      go_wp2
      go_ret
      exact ⟨ret_int (by rw [E0.out, hj]; rfl), hb1⟩
    | true =>
      have hj2 := inB_iff.1 hj
      obtain ⟨jj, rfl⟩ : ∃ k : Nat, j = k := ⟨j.toNat, by omega⟩
      have hjm : jj < m1 := by omega
      have HJ := Lib.hid hj
      clear hj hj2
      go_enter Try.func28, Try.ntmps28
      go_wp2_with fail
      refine (subject_any _ _ _ _ _ _ h).mono ?_; rintro e w1 ⟨rfl, hb1⟩; rw [HS.out]
      have g1 := kept_of_below hb1 _ _ g0
      go_wp2_with fail
      refine (in_any _ _ _ _).mono ?_; rintro e w' ⟨rfl, rfl⟩; rw [HJ.out]
      go_wp2_with fail
      refine (CloseGraph_any _ _ _ _ _ (h.below hb1)).mono ?_; rintro e w2 ⟨A2, c2, rfl, o2, hb2⟩
      have hl : (closeR xss).length = n' := by rw [HCR.out, (close_tab HT.out).len]
      rw [hl, HCR.out] at o2
      rw [hl]
      obtain ⟨b3, off3, b4, off4, c4, rfl, q3, q4, q5, q6⟩ := o2.rdR.atEl (close_tab HT.out) hi hjm
      have hle2 := o2.rdR.le
      have htop2 := o2.rdR.top
      clear o2 hl h g1 g0
      go_wp2
      go_ret
      exact ⟨ret_int (by rw [E0.out, HJ.out]; rfl), Ext.trans hb1 hb2⟩
set_option maxHeartbeats 1000000 in
theorem specEverRights_any (A : Option Addr) (n c : Nat) (xss : List (List Int)) (i j : Int) (w : World) (h : RdR w A n c xss) :
    Calls Try.prog 45 #[.slice A n c, .int .i64 i, .int .i64 j] w fun e w' => e = .returned (.int .i64 (everR xss i j)) ∧ Ext w w' := by
  have hn := h.lenR
  have hle := h.le
  have htop := h.top
  cases hv : gValid xss with
  | false =>
    have e : everR xss i j = -1 := by unfold everR; rw [hv]; rfl
    have E := Lib.hid e
    clear e
    go_enter Try.func45, Try.ntmps45
    go_wp2_with fail
    refine (specGraphValid_any _ _ _ _ _ h).mono ?_; rintro e w1 ⟨rfl, hb1⟩; rw [hv]
    go_wp2
    go_ret
    exact ⟨ret_int E.out.symm, hb1⟩
  | true =>
    obtain ⟨n', m, ht, hnm, h6, hm, h0⟩ := tab_of_valid hv
    have hn' : n' = n := by rw [← ht.len, hn]
    subst hn'
    have HV := Lib.hid hv
    have HN := Lib.hid hn
    clear hn
    cases hin : inB i 0 (n' - 1) with
    | false =>
      have e : everR xss i j = -1 := by unfold everR; rw [HN.out, hin, Bool.and_false]; rfl
      have E := Lib.hid e
      clear e hv
      go_enter Try.func45, Try.ntmps45
      go_wp2_with fail
      refine (specGraphValid_any _ _ _ _ _ h).mono ?_; rintro e w1 ⟨rfl, hb1⟩; rw [HV.out]
      clear h
      go_wp2_with fail
      refine (l1In_any _ _ _ _).mono ?_; rintro e w' ⟨rfl, rfl⟩; rw [hin]
      go_wp2
      go_ret
      exact ⟨ret_int E.out.symm, hb1⟩
    | true =>
      have hin2 := inB_iff.1 hin
      obtain ⟨ii, rfl⟩ : ∃ k : Nat, i = k := ⟨i.toNat, by omega⟩
      have hi : ii < n' := by omega
      have hl0 : len0 xss = m := h0 (by omega)
      have e0 : everR xss ii j = if inB j 0 (m - 1) then el (closeG xss) ii j.toNat else -1 := by unfold everR; rw [HN.out, hin, hl0, hv]; simp
      have E0 := Lib.hid e0
      have HI := Lib.hid hin
      have HT := Lib.hid ht
      have hcr : closeR xss = closeG xss := by unfold closeR; rw [hv]; rfl
      have HCR := Lib.hid hcr
      obtain ⟨b, off, A1, m1, c1, xs, rfl, X, g0, R⟩ := h.atR (show 0 < n' by omega)
      have hm1 : m1 = m := by rw [← R.lenI]; exact ht.row _ (List.mem_of_getElem? X.out)
      subst hm1
      rw [Nat.add_zero] at g0
      have hml := Nat.le_trans R.le R.top
      clear e0 hcr hl0 h0 hv hin hin2 ht X R
      cases hj : inB j 0 (m1 - 1) with
      | false =>
        clear HCR HT
        go_enter Try.func45, Try.ntmps45
        go_wp2_with fail
        refine (specGraphValid_any _ _ _ _ _ h).mono ?_; rintro e w1 ⟨rfl, hb1⟩; rw [HV.out]
        have g1 := kept_of_below hb1 _ _ g0
        clear h
        go_wp2_with fail
        refine (l1In_any _ _ _ _).mono ?_; rintro e w' ⟨rfl, rfl⟩; rw [HI.out]
        go_wp2_with fail
        refine (l1In_any _ _ _ _).mono ?_; rintro e w' ⟨rfl, rfl⟩; rw [hj]
        go_wp2
        go_ret
        exact ⟨ret_int (by rw [E0.out, hj]; rfl), hb1⟩
      | true =>
        have hj2 := inB_iff.1 hj
        obtain ⟨jj, rfl⟩ : ∃ k : Nat, j = k := ⟨j.toNat, by omega⟩
        have hjm : jj < m1 := by omega
        have HJ := Lib.hid hj
        clear hj hj2
        go_enter Try.func45, Try.ntmps45
        go_wp2_with fail
        refine (specGraphValid_any _ _ _ _ _ h).mono ?_; rintro e w1 ⟨rfl, hb1⟩; rw [HV.out]
        have g1 := kept_of_below hb1 _ _ g0
        go_wp2_with fail
        refine (l1In_any _ _ _ _).mono ?_; rintro e w' ⟨rfl, rfl⟩; rw [HI.out]
        go_wp2_with fail
        refine (l1In_any _ _ _ _).mono ?_; rintro e w' ⟨rfl, rfl⟩; rw [HJ.out]
        go_wp2_with fail
        refine (specCloseGraph_any _ _ _ _ _ (h.below hb1)).mono ?_; rintro e w2 ⟨A2, c2, rfl, o2, hb2⟩
        have hl : (closeR xss).length = n' := by rw [HCR.out, (close_tab HT.out).len]
        rw [hl, HCR.out] at o2
        rw [hl]
        obtain ⟨b3, off3, b4, off4, c4, rfl, q3, q4, q5, q6⟩ := o2.rdR.atEl (close_tab HT.out) hi hjm
        have hle2 := o2.rdR.le
        have htop2 := o2.rdR.top
        clear o2 hl h g1 g0
        go_wp2
        go_ret
        exact ⟨ret_int (by rw [E0.out, HJ.out]; rfl), Ext.trans hb1 hb2⟩
end Go.Proofs.Ytakdefcdhcghiaa
