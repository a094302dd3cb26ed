/-
  The law FnSetTimer returns true at every input, and leaves all that was there as it was: the walk.
-/
import Derived.Test.YthjbafafkaoomaaTmI
import Derived.Test.YthjbafafkaoomaaTmJ
import Derived.Test.YthjbafafkaoomaaAlive
namespace Go.Proofs.Ythjbafafkaoomaa
open Go.RowKit

set_option maxHeartbeats 2000000 in
theorem FnSetTimer_walk (A : Option Addr) (n0 c : Nat) (code : List Int) (w : World) (h0 : Rd w 1 A n0 c (code.map (Value.int .u8))) (F0 : ∀ z ∈ code, (Lit.int .u8 z).wf = true) :
    Calls Try.prog 13 #[.slice A n0 c] w fun e w' => e = .returned (.bool true) ∧ Ext w w' := by
  obtain ⟨bs, hbs⟩ := bytes_of F0
  rw [hbs] at h0
  have hle := h0.le
  have htop := h0.top
  by_cases hn : 1048576 < n0
  · go_enter Try.func13, Try.ntmps13
    go_wp2
    go_ret
    exact ⟨rfl, Below.refl _ _⟩
  go_enter Try.func13, Try.ntmps13
  go_wp2_with fail
  refine (DrawSetTimer_any _ _ _ _ _ h0).mono ?_; rintro e w1 ⟨A1, n, c1, ms, t, v, rfl, hg, h19, ht, hv, hb1⟩
  obtain ⟨xs, hxs⟩ : ∃ xs, setR t v ms = xs := ⟨_, rfl⟩
  have HXS := Lib.hid hxs
  obtain ⟨m, hm⟩ : ∃ m, xs.length = m := ⟨_, rfl⟩
  have HM := Lib.hid hm
  clear hxs hm
  go_wp2_with fail
  refine (SetTimer_any _ _ _ _ _ _ _ hg).mono ?_; rintro e w2 ⟨A2, c2', rfl, hF2, hb2⟩
  rw [HXS.out, HM.out] at hF2 ⊢
  have hg2 := hg.below hb2
  go_wp2_with fail
  refine (specSetTimer_any _ _ _ _ _ _ _ hg2).mono ?_; rintro e w3 ⟨A3, c3, rfl, hF3, hb3⟩
  rw [HXS.out, HM.out] at hF3 ⊢
  have hR2 := hF2.rd'.2.below hb3
  have hR3 := hF3.rd'.2
  have hg3 := hg2.below hb3
  have hbb := (hb1.trans hb2).trans hb3
  go_wp2_with fail
  refine (sameTimers_any _ _ _ _ _ _ _ _ _ hR2 hR3).mono ?_; rintro e w4 ⟨rfl, hb4⟩; rw [(eqTms_iff _ _).2 rfl]
  have hR4 := hR2.below hb4
  have hg4 := hg3.below hb4
  have hbc := hbb.trans hb4
  clear hF2 hF3 hR2 hR3 hg hg2 hg3 hb1 hb2 hb3 hb4 hbb h0 F0 hbs
  by_cases hok : setOk t v ms = true
  rotate_left
  · have hxs : xs = [] := by rw [← HXS.out]; exact setR_none hok
    subst hxs
    obtain rfl : m = 0 := HM.out.symm
    clear hR4 hg4 hok
    go_wp2_with ((go_at_call 25; refine (alive_any _).mono ?_; rintro e w9 ⟨rfl, hb9⟩))
    go_ret
    exact ⟨rfl, hbc.trans hb9⟩
  have hmp : 0 < m := by rw [← HM.out, ← HXS.out]; exact setR_pos hok
  have hmb : ((m : Int) == 0) = false := by rw [beq_eq_false_iff_ne]; omega
  obtain ⟨p, hp1, hp2, hp3⟩ := setR_one hok
  rw [HXS.out] at hp1 hp2 hp3
  have hvx : tmValid xs = true := by rw [← HXS.out]; exact setR_valid hok
  have hms : tmValid ms = true := (setOk_iff.1 hok).1
  have hpm : p < m := by have := (List.getElem?_eq_some_iff.1 hp1).1; rw [HM.out] at this; exact this
  have hw1 : dropR t ms = wot t ms := by unfold dropR; rw [hms]; rfl
  have hw2 : dropR t xs = wot t ms := by unfold dropR; rw [hvx, if_pos rfl, ← HXS.out, wot_setR hok]
  have hw3 : (tmValid xs && xs.any (isT t)) = true := by
    rw [hvx, Bool.true_and, List.any_eq_true]
    exact ⟨_, List.mem_of_getElem? hp1, by simp [isT]⟩
  have hm16 : m ≤ 16 := by rw [← HM.out]; exact tmValid_len hvx
  have HV := Lib.hid hvx
  have H1 := Lib.hid hw1
  have H2 := Lib.hid hw2
  have H3 := Lib.hid hw3
  have P1 := Lib.hid hp1
  have P2 := Lib.hid hp2
  have P3 := Lib.hid hp3
  clear hok hp1 hp2 hp3 hvx hms hw1 hw2 hw3
  go_wp2
  go_loopw [7, 8] (fun f i wr => ∃ k : Nat, k ≤ m ∧ i = .int .i64 k ∧ f = .int .i64 (if p < k then 1 else 0) ∧ Ext w4 wr) (fun _ i _ => m - (intOf i).toNat)
  case atStart => exact ⟨0, Nat.zero_le _, rfl, by rw [if_neg (by omega)], Below.refl _ _⟩
  case round =>
    obtain ⟨k, hk, rfl, rfl, hbr⟩ := hrel
    have hR5 := hR4.below hbr
    have hg5 := hg4.below hbr
    by_cases hlt : k < m
    · by_cases hkp : k = p
      · subst hkp
        obtain ⟨b, off, x0, x1, rfl, X, g0, g1⟩ := hR5.at2 hlt
        have hx := X.out.symm.trans P1.out
        simp only [Option.some.injEq, Prod.mk.injEq] at hx
        obtain ⟨rfl, rfl⟩ := hx
        rw [if_neg (Nat.lt_irrefl k)]
        by_cases hl2 : k + 1 < m
        · obtain ⟨b', off', y0, y1, hA, Y, e0, e1⟩ := hR5.at2 hl2
          simp only [Option.some.injEq, Addr.mk.injEq, and_true] at hA
          obtain ⟨rfl, rfl⟩ := hA
          have hlate := P2.out _ Y.out
          simp only at hlate
          clear hR4 hg4 hR5 hg5 X Y P1 P2 P3
          go_wp2
          go_roundw
          case rel => exact ⟨k + 1, by omega, by go_num, by rw [if_pos (by omega)], hbr⟩
          case measure => simp [intOf]; omega
        · have hl3 : decide ((k : Int) + 1 < (m : Int)) = false := by rw [decide_eq_false_iff_not]; omega
          clear hR4 hg4 hR5 hg5 X P1 P2 P3
          go_wp2
          go_roundw
          case rel => exact ⟨k + 1, by omega, by go_num, by rw [if_pos (by omega)], hbr⟩
          case measure => simp [intOf]; omega
      · obtain ⟨b, off, x0, x1, rfl, X, g0, g1⟩ := hR5.at2 hlt
        have hne : x0 ≠ t := P3.out k _ hkp X.out
        have heq : (if p < k + 1 then (1 : Int) else 0) = if p < k then 1 else 0 := by
          by_cases h : p < k
          · rw [if_pos h, if_pos (by omega)]
          · rw [if_neg h, if_neg (by omega)]
        obtain ⟨f, hf⟩ : ∃ f : Int, (if p < k then 1 else 0) = f := ⟨_, rfl⟩
        rw [hf] at heq
        have HEQ := Lib.hid heq
        rw [hf]
        clear hR4 hg4 hR5 hg5 X P1 P2 P3 hf heq
        go_wp2
        go_roundw
        case rel => exact ⟨k + 1, by omega, by go_num, by rw [HEQ.out], hbr⟩
        case measure => simp [intOf]; omega
    · rw [if_pos (by omega)]
      have hbd := hbc.trans hbr
      obtain ⟨l, hl⟩ : ∃ l, (wot t ms).length = l := ⟨_, rfl⟩
      have HL := Lib.hid hl
      clear hR4 hg4 hl
      go_wp2_with fail
      refine (DropTimer_any _ _ _ _ _ _ hg5).mono ?_; rintro e w6 ⟨A6, c6, rfl, hF6, hb6⟩
      rw [H1.out, HL.out] at hF6
      rw [H1.out, HL.out]
      have hR6 := hR5.below hb6
      have hS6 := hF6.rd'.2
      have hbe := hbd.trans hb6
      clear hR5 hg5 hF6 hb6 hbd
      go_wp2_with fail
      refine (DropTimer_any _ _ _ _ _ _ hR6).mono ?_; rintro e w7 ⟨A7, c7, rfl, hF7, hb7⟩
      rw [H2.out, HL.out] at hF7
      rw [H2.out, HL.out, H3.out]
      have hR7 := hR6.below hb7
      have hS7 := hS6.below hb7
      have hT7 := hF7.rd'.2
      have hbf := hbe.trans hb7
      clear hR6 hS6 hF7 hb7 hbe
      go_wp2_with fail
      refine (TimersValid_any _ _ _ _ _ hR7).mono ?_; rintro e w8 ⟨rfl, hb8⟩; rw [HV.out]
      have hS8 := hS7.below hb8
      have hT8 := hT7.below hb8
      clear hR7 hS7 hT7
      go_wp2_with fail
      refine (sameTimers_any _ _ _ _ _ _ _ _ _ hS8 hT8).mono ?_; rintro e w9 ⟨rfl, hb9⟩; rw [(eqTms_iff _ _).2 rfl]
      clear hS8 hT8
      go_wp2
      go_ret
      exact ⟨rfl, hbf.trans (hb8.trans hb9)⟩
end Go.Proofs.Ythjbafafkaoomaa
