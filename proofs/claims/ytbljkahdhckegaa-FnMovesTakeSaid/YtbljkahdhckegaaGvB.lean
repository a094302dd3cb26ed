/-
  Whether a graph is within another one, as the program and as the reference ask it.
-/
import Derived.Test.YtbljkahdhckegaaGvA
import Derived.Test.YtbljkahdhckegaaBits
namespace Go.Proofs.Ytbljkahdhckegaa
open Go.RowKit

def rowW (xs ys : List Int) : Bool := decide (xs.length = ys.length) && all2 cvB xs ys
def gWithin (a b : List (List Int)) : Bool := gValid a && gValid b && decide (a.length = b.length) && all2 rowW a b
theorem gValid_rows {xss : List (List Int)} (h : gValid xss = true) : xss.length ≤ 6 ∧ ∀ xs ∈ xss, xs.length = len0 xss ∧ xss.length ≤ xs.length ∧ xs.length ≤ 10 ∧ ∀ z ∈ xs, 0 ≤ z ∧ z ≤ 15 := by
  unfold gValid at h
  simp only [Bool.and_eq_true, decide_eq_true_eq, List.all_eq_true] at h
  refine ⟨h.2, fun xs hx => ?_⟩
  have h1 := h.1 xs hx
  unfold rowOk at h1
  simp only [Bool.and_eq_true, decide_eq_true_eq, inB_iff, List.all_eq_true, rgt] at h1
  exact ⟨h1.1.1, by omega, by omega, fun z hz => h1.2 z hz⟩

set_option maxHeartbeats 2000000 in
theorem GraphWithin_any (A : Option Addr) (n c : Nat) (xss : List (List Int)) (A' : Option Addr) (n' c' : Nat) (yss : List (List Int)) (w : World) (h : RdR w A n c xss) (h' : RdR w A' n' c' yss) :
    Calls Try.prog 34 #[.slice A n c, .slice A' n' c'] w fun e w' => e = .returned (.bool (gWithin xss yss)) ∧ Ext w w' := by
  have hle := h.le
  have htop := h.top
  have hle' := h'.le
  have htop' := h'.top
  have HL := Lib.hid h.lenR
  have HL' := Lib.hid h'.lenR
  by_cases hok : gValid xss = true ∧ gValid yss = true ∧ n = n'
  · obtain ⟨hv, hv', rfl⟩ := hok
    have e0 : gWithin xss yss = all2 rowW xss yss := by unfold gWithin; rw [hv, hv', HL.out, HL'.out]; simp
    have E0 := Lib.hid e0
    have HV := Lib.hid hv
    have HV' := Lib.hid hv'
    clear e0 hv hv'
    go_enter Try.func34, Try.ntmps34
    go_wp2_with fail
    refine (GraphValid_any _ _ _ _ _ h).mono ?_; rintro e w1 ⟨rfl, hb1⟩; rw [HV.out]
    go_wp2_with fail
    refine (GraphValid_any _ _ _ _ _ (h'.below hb1)).mono ?_; rintro e w2 ⟨rfl, hb2⟩; rw [HV'.out]
    have hb0 := Ext.trans hb1 hb2
    clear hb1 hb2
    go_wp2
    go_loopw [26] (fun i wr => ∃ k : Nat, k ≤ n ∧ i = .int .i64 k ∧ Ext w wr ∧ Hid (all2 rowW xss yss = all2 rowW (xss.drop k) (yss.drop k))) (fun i _ => n - (intOf i).toNat)
    case atStart => exact ⟨0, Nat.zero_le _, rfl, hb0, rfl⟩
    case round =>
      obtain ⟨k, hk, rfl, hb, H⟩ := hrel
      by_cases hlt : k < n
      · obtain ⟨b, off, A1, m, c1, xs, hA1, X, g0, R⟩ := (h.below hb).atR hlt
        obtain ⟨b', off', A2, m', c2, ys, hA2, X', g0', R'⟩ := (h'.below hb).atR hlt
        subst hA1 hA2
        have e := all2_step (p := rowW) X.out X'.out
        rw [← H.out] at e
        have hm := R.lenI
        have hm' := R'.lenI
        have hml := R.le
        have hmt := R.top
        have hml' := R'.le
        have hmt' := R'.top
        have hmtt := Nat.le_trans hml hmt
        have hmtt' := Nat.le_trans hml' hmt'
        by_cases hmm : m = m'
        · subst hmm
          have e1 : all2 rowW xss yss = (all2 cvB xs ys && all2 rowW (xss.drop (k + 1)) (yss.drop (k + 1))) := by rw [e]; unfold rowW; rw [hm, hm']; simp
          have E1 := Lib.hid e1
          have HM := Lib.hid hm
          clear e e1 hm hm' H hb0
          go_wp2
          go_loopw [41] (fun j wi => ∃ i : Nat, i ≤ m ∧ j = .int .i64 i ∧ Ext wr wi ∧ Hid (all2 cvB xs ys = all2 cvB (xs.drop i) (ys.drop i))) (fun j _ => m - (intOf j).toNat)
          case atStart => exact ⟨0, Nat.zero_le _, rfl, Below.refl _ _, rfl⟩
          case round =>
            obtain ⟨i, hi, rfl, hb2, HI⟩ := hrel
            have k0 := kept_of_below hb2 _ _ g0
            have k0' := kept_of_below hb2 _ _ g0'
            by_cases him : i < m
            · obtain ⟨b3, off3, z, hA3, Z, g3⟩ := (R.below hb2).atI him
              obtain ⟨b4, off4, z', hA4, Z', g4⟩ := (R'.below hb2).atI him
              subst hA3 hA4
              have e3 := all2_step (p := cvB) Z.out Z'.out
              rw [← HI.out] at e3
              cases hz : cvB z z' with
              | false =>
                have hz2 : (bits .andNot .i64 z z' != 0) = true := by unfold cvB at hz; simp [bne, hz]
                have E3 : Hid (all2 cvB xs ys = false) := by rw [e3, hz]; rfl
                clear e3 hz HI Z Z' X X' h h' R R' g0 g0'

                go_wp2
                go_ret
                exact ⟨ret_bool (by rw [E0.out, E1.out, E3.out]; rfl), hb.trans hb2⟩
              | true =>
                have hz2 : (bits .andNot .i64 z z' != 0) = false := by unfold cvB at hz; simp [bne, hz]
                have E3 : Hid (all2 cvB xs ys = all2 cvB (xs.drop (i + 1)) (ys.drop (i + 1))) := by rw [e3, hz]; exact Bool.true_and _
                clear e3 hz HI Z Z' X X' h h' R R' g0 g0'

                go_wp2
                go_roundw
                case rel => exact ⟨i + 1, by omega, by go_num, hb2, E3⟩
                case measure => simp [intOf]; omega
            · have e4 : all2 rowW xss yss = all2 rowW (xss.drop (k + 1)) (yss.drop (k + 1)) := by rw [E1.out, HI.out, all2_end (by rw [HM.out]; omega)]; exact Bool.true_and _
              have E4 := Lib.hid e4
              clear e4 E1 HI R R' h h' g0 g0'
              go_wp2
              go_roundw
              case rel => exact ⟨k + 1, by omega, by go_num, hb.trans hb2, E4⟩
              case measure => simp [intOf]; omega
        · have e1 : rowW xs ys = false := by unfold rowW; rw [hm, hm', decide_eq_false hmm]; rfl
          rw [e1, Bool.false_and] at e
          have E := Lib.hid e
          have hne : ((m : Int) != (m' : Int)) = true := by rw [bne_iff_ne]; omega
          clear e e1 hm hm' H R R' X X' hmm h h' hb0
          go_wp2
          go_ret
          exact ⟨ret_bool (by rw [E0.out, E.out]), hb⟩
      · have e1 : gWithin xss yss = true := by rw [E0.out, H.out, all2_end (by rw [HL.out]; omega)]
        have E := Lib.hid e1
        clear e1 E0 H h h'
        go_wp2
        go_ret
        exact ⟨ret_bool E.out.symm, hb⟩
  · have e0 : gWithin xss yss = false := by
      unfold gWithin; rw [HL.out, HL'.out]
      cases hv : gValid xss <;> cases hv' : gValid yss <;> simp_all
    have E0 := Lib.hid e0
    clear e0
    cases hv : gValid xss with
    | false =>
      clear hok
      go_enter Try.func34, Try.ntmps34
      go_wp2_with fail
      refine (GraphValid_any _ _ _ _ _ h).mono ?_; rintro e w1 ⟨rfl, hb1⟩; rw [hv]
      go_wp2
      go_ret
      exact ⟨ret_bool E0.out.symm, hb1⟩
    | true =>
      cases hv' : gValid yss with
      | false =>
        clear hok
        go_enter Try.func34, Try.ntmps34
        go_wp2_with fail
        refine (GraphValid_any _ _ _ _ _ h).mono ?_; rintro e w1 ⟨rfl, hb1⟩; rw [hv]
        go_wp2_with fail
        refine (GraphValid_any _ _ _ _ _ (h'.below hb1)).mono ?_; rintro e w2 ⟨rfl, hb2⟩; rw [hv']
        go_wp2
        go_ret
        exact ⟨ret_bool E0.out.symm, Ext.trans hb1 hb2⟩
      | true =>
        have hmm : ¬ n = n' := fun e => hok ⟨hv, hv', e⟩
        have hne : ((n : Int) != (n' : Int)) = true := by rw [bne_iff_ne]; omega
        clear hok hmm
        go_enter Try.func34, Try.ntmps34
        go_wp2_with fail
        refine (GraphValid_any _ _ _ _ _ h).mono ?_; rintro e w1 ⟨rfl, hb1⟩; rw [hv]
        go_wp2_with fail
        refine (GraphValid_any _ _ _ _ _ (h'.below hb1)).mono ?_; rintro e w2 ⟨rfl, hb2⟩; rw [hv']
        go_wp2
        go_ret
        exact ⟨ret_bool E0.out.symm, Ext.trans hb1 hb2⟩
end Go.Proofs.Ytbljkahdhckegaa
