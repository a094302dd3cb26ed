/-
  The law FnSealedGroup returns true at every input, and leaves all that was there as it was: the walk.
-/
import Derived.Test.YtakdefcdhcghiaaDrS
namespace Go.Proofs.Ytakdefcdhcghiaa
open Go.RowKit

set_option maxRecDepth 4000 in
set_option maxHeartbeats 4000000 in
theorem FnSealedGroup_walk (A : Option Addr) (n0 c : Nat) (code : List Int) (w : World) (h0 : Rd w 1 A n0 c (code.map (Value.int .u8))) (F0 : ∀ z ∈ code, (Lit.int .u8 z).wf = true) :
    Calls Try.prog 5 #[.slice A n0 c] w fun e w' => e = .returned (.bool true) ∧ Ext w w' := by
  obtain ⟨bs, hbs⟩ := bytes_of F0
  rw [hbs] at h0
  have hle := h0.le
  have htop := h0.top
  by_cases hn : 1048576 < n0
  · go_enter Try.func5, Try.ntmps5
    go_wp2
    go_ret
    exact ⟨rfl, Below.refl _ _⟩
  go_enter Try.func5, Try.ntmps5
  go_wp2_with fail
  refine (DrawSealedGroup_any _ _ _ _ _ h0).mono ?_; rintro e w1 ⟨A1, n, c1, g, i, rfl, hg, hi, h8, hb1⟩
  go_wp2_with fail
  refine (SealedGroup_any _ _ _ _ _ _ hg).mono ?_; rintro e w2 ⟨A2, c2, rfl, hF2, hb2⟩
  have hg2 := hg.below hb2
  go_wp2_with fail
  refine (specSealedGroup_any _ _ _ _ _ _ hg2).mono ?_; rintro e w3 ⟨A3, c3, rfl, hF3, hb3⟩
  have hR2 := hF2.rd'.2.below hb3
  have hR3 := hF3.rd'.2
  have hg3 := hg2.below hb3
  have hbb := (hb1.trans hb2).trans hb3
  have hlen := hg3.lenR
  clear hF2 hF3 hg hg2 hb1 hb2 hb3 h0 hbs F0
  by_cases hs : (gValid g && inB i 0 (g.length - 1)) = true
  rotate_left
  · have e : sealedR g i = [] := by unfold sealedR; rw [if_neg hs]
    rw [e]
    clear e hR2 hR3 hg3 hs hlen
    go_wp2_with ((go_at_call 22; refine (alive_any _).mono ?_; rintro e w9 ⟨rfl, hb9⟩))
    go_ret
    exact ⟨rfl, hbb.trans hb9⟩
  have eR : ∀ k : Nat, k < n → sealedR g k = (List.range n).map (jac g n k n) := fun k hk => by
    rw [Bool.and_eq_true] at hs
    unfold sealedR
    rw [hs.1, inB_iff.2 (show 0 ≤ (k : Int) ∧ (k : Int) ≤ (g.length : Int) - 1 by rw [hlen]; omega), hlen, Int.toNat_natCast]
    rfl
  have hs2 := hs
  rw [Bool.and_eq_true] at hs2
  have ia := inB_iff.1 hs2.2
  have hv := hs2.1
  obtain ⟨i, rfl⟩ := Int.eq_ofNat_of_zero_le ia.1
  have hin : i < n := by omega
  have hl1 : ∀ k : Nat, ((List.range n).map (jac g n k n)).length = n := fun k => by simp
  rw [eR i hin, hl1] at hR2 hR3 ⊢
  have hn1 : ((n : Int) == 0) = false := by rw [beq_eq_false_iff_ne]; omega
  have HSL : Hid (sealB g ((List.range n).map (jac g n i n)) = true) := Lib.hid (by
    unfold sealB
    rw [hv, hl1, hlen, decide_eq_true rfl, Bool.true_and, Bool.true_and, sealL_iff]
    exact seal_jac hin)
  have HEQ : Hid (∀ k, k < n → jac g n i n k = true → ∀ j, j < n → jac g n k n j = jac g n i n j) := Lib.hid (fun k hk h => jac_eq hin hk h)
  have HAP : Hid (∀ k, k < n → jac g n i n k = false → ∀ j, j < n → jac g n k n j = true → jac g n i n j = false) := Lib.hid (fun k hk h => jac_apart hin hk h)
  have ER := Lib.hid eR
  have HL1 := Lib.hid hl1
  have HGET : Hid (∀ (k j : Nat) (t : Bool), ((List.range n).map (jac g n k n))[j]? = some t → jac g n k n j = t) := Lib.hid (fun k j t ht => by
    rw [List.getElem?_map] at ht
    have hj : j < n := by
      by_cases h : j < n
      · exact h
      · rw [List.getElem?_eq_none (by simp; omega)] at ht; cases ht
    rw [List.getElem?_range hj] at ht
    simpa using ht)
  clear hs hs2 ia hv eR hl1 hlen hi
  go_wp2
  go_loopw [7] (fun kk wr => ∃ k : Nat, k ≤ n ∧ kk = .int .i64 k ∧ Ext w3 wr) (fun kk _ => n - (intOf kk).toNat)
  case atStart => exact ⟨0, Nat.zero_le _, rfl, Below.refl _ _⟩
  case round =>
    obtain ⟨k, hk, rfl, hE⟩ := hrel
    rename World => wo
    by_cases hlt : k < n
    · obtain ⟨b2, o2, x, hA2, X, g2⟩ := (hR2.below hE).atB hlt
      obtain ⟨b3, o3, y, hA3, Y, g3⟩ := (hR3.below hE).atB hlt
      have hx := HGET.out i k x X.out
      obtain rfl : x = y := by have := X.out.symm.trans Y.out; simpa using this
      subst hA2
      subst hA3
      have G2 := later_cell g2
      have G3 := later_cell g3
      clear X Y g3
      cases x
      all_goals
        go_wp2
        (refine wp_region_later (by kernel_rfl) (by kernel_rfl) ?_; repeat (any_goals (first | (with_reducible refine wpQuiet_nil ?_; intro wq hq) | go_big_quiet_step ((fail)))))
        have hE1 := hE.trans hq
        have hgo := hg3.below hE1
        have g2' := kept_of_below hq _ _ g2
        go_wp2_with fail
        refine (SealedGroup_any _ _ _ _ _ _ hgo).mono ?_; rintro e w5 ⟨A5, c5, rfl, hF5, hb5⟩
        rw [ER.out k hlt, HL1.out] at hF5 ⊢
        have hE5 := hE1.trans hb5
        have hR5 := hF5.rd'.2
        have g25 := kept_of_below hb5 _ _ g2'
        clear hF5 hgo hE1 g2' G2 G3 g2
        go_wp2
        go_loopw [9] (fun jj wr => ∃ j : Nat, j ≤ n ∧ jj = .int .i64 j ∧ Ext w5 wr) (fun jj _ => n - (intOf jj).toNat)
        case atStart => exact ⟨0, Nat.zero_le _, rfl, Below.refl _ _⟩
        case round =>
          obtain ⟨j, hj, rfl, hE6⟩ := hrel
          by_cases hjn : j < n
          · obtain ⟨b5', o5, t1, hA5, T1, q1⟩ := (hR5.below hE6).atB hjn
            obtain ⟨b2', o2', t2, hA2', T2, q2⟩ := (hR2.below (hE5.trans hE6)).atB hjn
            simp only [Option.some.injEq, Addr.mk.injEq, and_true] at hA2'
            obtain ⟨rfl, rfl⟩ := hA2'
            subst hA5
            have e1 := HGET.out k j t1 T1.out
            have e2 := HGET.out i j t2 T2.out
            have hcase : (jac g n i n k = true → t1 = t2) ∧ (jac g n i n k = false → t1 = true → t2 = false) :=
              ⟨fun h => by rw [← e1, ← e2]; exact HEQ.out k hlt h j hjn, fun h h1 => by rw [← e2]; exact HAP.out k hlt h j hjn (by rw [e1, h1])⟩
            rw [hx] at hcase
            have q3 := kept_of_below hE6 _ _ g25
            have Q1 := later_cell q1
            have Q2 := later_cell q2
            have Q3 := later_cell q3
            have hd : decide (n ≤ j) = false := by rw [decide_eq_false_iff_not]; omega
            clear T1 T2 e1 e2 q1 q2 q3 HEQ HAP HSL ER HL1 HGET hR2 hR3 hg3 hR5
            cases t1 <;> cases t2 <;> first
              | (exfalso; simp at hcase; done)
              | (clear hcase
                 go_wp2
                 (refine wp_region_later (by kernel_rfl) (by kernel_rfl) ?_; repeat (any_goals (first | (with_reducible refine wpQuiet_nil ?_; intro wq hq) | go_big_quiet_step ((fail)))))
                 go_wp2
                 go_roundw
                 case rel => exact ⟨j + 1, by omega, by go_num, hE6.trans hq⟩
                 case measure => simp [intOf]; omega)
          · go_wp2
            go_roundw
            case rel => exact ⟨k + 1, by omega, by go_num, hE5.trans hE6⟩
            case measure => simp [intOf]; omega
    · obtain ⟨b2, o2, x, hA2, X, g2⟩ := (hR2.below hE).atB hin
      have hx := HGET.out i i x X.out
      rw [jac_self] at hx
      subst hx
      have hgo := hg3.below hE
      have hRo := hR2.below hE
      subst hA2
      clear X hR2 hR3 hg3 HEQ HAP ER HL1 HGET
      go_wp2_with fail
      refine (GroupSealed_any _ _ _ _ _ _ _ _ _ hgo hRo).mono ?_; rintro e w5 ⟨rfl, hb5⟩; rw [HSL.out]
      go_wp2
      go_ret
      exact ⟨rfl, (hbb.trans hE).trans hb5⟩
end Go.Proofs.Ytakdefcdhcghiaa
