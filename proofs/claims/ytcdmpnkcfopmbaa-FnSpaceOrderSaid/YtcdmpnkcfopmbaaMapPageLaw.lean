/-
  The law FnMapPage returns true at every input, and leaves all that was there as it was: the walk.
-/
import Derived.Test.YtcdmpnkcfopmbaaMpU
import Derived.Test.YtcdmpnkcfopmbaaMpS
import Derived.Test.YtcdmpnkcfopmbaaMpJ
import Derived.Test.YtcdmpnkcfopmbaaMpF
import Derived.Test.YtcdmpnkcfopmbaaBox
import Derived.Test.YtcdmpnkcfopmbaaAlive
namespace Go.Proofs.Ytcdmpnkcfopmbaa
open Go.RowKit

set_option maxHeartbeats 2000000 in
theorem FnMapPage_walk (A : Option Addr) (n0 c : Nat) (code : List Int) (w : World) (h0 : Rd w 1 A n0 c (code.map (Value.int .u8))) (F0 : ∀ z ∈ code, (Lit.int .u8 z).wf = true) :
    Calls Try.prog 13 #[.slice A n0 c] w fun e w' => e = .returned (.bool true) ∧ Ext w w' := by
  obtain ⟨bs, hbs⟩ := bytes_of F0
  rw [hbs] at h0
  have hle := h0.le
  have htop := h0.top
  by_cases hn : 1048576 < n0
  · go_enter Try.func13, Try.ntmps13
    go_wp2
    go_ret
    exact ⟨rfl, Below.refl _ _⟩
  go_enter Try.func13, Try.ntmps13
  go_wp2_with fail
  refine (DrawMapPage_any _ _ _ _ _ h0).mono ?_; rintro e w1 ⟨A1, n, c1, ms, page, k, o, r, b, u, rfl, hg, h22, hb1⟩
  have hal : Ext w1 (w1.alloc (.cells #[.int .i64 k, .int .i64 o, .int .i64 r, .int .i64 b] 53)) := (Below.refl _ _).alloc (Nat.le_refl _) _
  have hgV := hg.below hal
  have hbV := hb1.trans hal
  have CV := CapAt.new w1 53 k o r b
  obtain ⟨q0, q1, q2, q3⟩ := CapAt.new w1 53 k o r b
  obtain ⟨xs, ok, hp⟩ : ∃ xs ok, mapR page k o r b u ms = (xs, ok) := ⟨_, _, rfl⟩
  have HP := Lib.hid hp
  obtain ⟨m, hm⟩ : ∃ m, xs.length = m := ⟨_, rfl⟩
  have HM := Lib.hid hm
  clear hg hb1 hal h0 F0 hbs hm hp
  go_wp2_with fail
  refine (MapPage_any _ _ _ _ _ _ _ _ _ _ _ hgV).mono ?_; rintro e w2 ⟨A2, c2', rfl, hF2, hb2⟩
  rw [HP.out] at hF2 ⊢
  simp only at hF2 ⊢
  rw [HM.out] at hF2 ⊢
  have hg2 := hgV.below hb2
  have C2 := CV.below hb2
  clear q0 q1 q2 q3 CV hgV
  obtain ⟨q0, q1, q2, q3⟩ := C2
  go_wp2_with fail
  refine (specMapPage_any _ _ _ _ _ _ _ _ _ _ _ hg2).mono ?_; rintro e w3 ⟨A3, c3', rfl, hF3, hb3⟩
  rw [HP.out] at hF3 ⊢
  simp only at hF3 ⊢
  rw [HM.out] at hF3 ⊢
  have hR2 := hF2.rd'.2.below hb3
  have hR3 := hF3.rd'.2
  have hg3 := hg2.below hb3
  have C3 := (⟨q0, q1, q2, q3⟩ : CapAt _ _ _ _ _ _).below hb3
  have hbb := (hbV.trans hb2).trans hb3
  have hkk : (ok != ok) = false := by cases ok <;> rfl
  clear q0 q1 q2 q3 hF2 hF3 hg2 hb2 hb3 hbV
  go_wp2_with fail
  refine (sameSpace_any _ _ _ _ _ _ _ _ _ hR2 hR3).mono ?_; rintro e w4 ⟨rfl, hb4⟩; rw [(eqMs_iff _ _).2 rfl]
  have hR4 := hR2.below hb4
  have hg4 := hg3.below hb4
  have C4 := C3.below hb4
  have hbc := hbb.trans hb4
  clear hR2 hR3 hg3 hb4 hbb C3
  cases ok
  · have hor : xs = [] ∨ xs = ms := by have := mapR_not (page := page) (k := k) (o := o) (r := r) (b := b) (rights := u) (ms := ms) (by rw [HP.out]); rw [HP.out] at this; exact this
    by_cases hm0 : m = 0
    · subst hm0
      clear hR4 hg4 C4 hor
      go_wp2_with ((go_at_call 22; refine (alive_any _).mono ?_; rintro e w9 ⟨rfl, hb9⟩))
      go_ret
      exact ⟨rfl, hbc.trans hb9⟩
    · have hmb : ((m : Int) == 0) = false := by rw [beq_eq_false_iff_ne]; omega
      have hxm : xs = ms := by
        rcases hor with h | h
        · rw [h] at HM; exact absurd HM.out.symm hm0
        · exact h
      subst hxm
      go_wp2_with fail
      refine (sameSpace_any _ _ _ _ _ _ _ _ _ hR4 hg4).mono ?_; rintro e w5 ⟨rfl, hb5⟩; rw [(eqMs_iff _ _).2 rfl]
      clear hR4 hg4 C4 hor
      go_wp2_with ((go_at_call 22; refine (alive_any _).mono ?_; rintro e w9 ⟨rfl, hb9⟩))
      go_ret
      exact ⟨rfl, (hbc.trans hb5).trans hb9⟩
  · obtain ⟨q, hq, rfl, hv, hpg, ho, hr, rfl, hu, hqq, ht, hl19, e1⟩ := mapR_ok (page := page) (k := k) (o := o) (r := r) (b := b) (rights := u) (ms := ms) (by rw [HP.out])
    have hxs : xs = insL (page, o, q) ms := by have := e1.symm.trans HP.out; simp only [Prod.mk.injEq, and_true] at this; exact this.symm
    have hvx : spValid xs = true := by rw [hxs]; exact ins_valid hv hpg ho hqq ht hl19
    obtain ⟨k1, k2⟩ := ins_back (page := page) (o := o) (q := q) (ms := ms) (by rw [← hxs]; exact hvx) ht
    rw [← hxs] at k1 k2
    have k3 : ∀ z : Int, 0 ≤ z ∧ z ≤ 15 → trOf xs (page * 256 + 7) z = if (withinB z r && withinB z u && withinB z 3) = true then o * 256 + 7 else -1 := fun z hz => by
      rw [hxs]
      exact ins_tr (by rw [← hxs]; exact hvx) ht hpg hz hr hu (by omega) hq
    have HV := Lib.hid hvx
    have K1 := Lib.hid k1
    have K2 := Lib.hid k2
    have K3 := Lib.hid k3
    have HN := Lib.hid hg4.len3
    clear hq hv ht e1 hxs hvx k1 k2 k3 HP
    obtain ⟨hpg0, hpg1⟩ := hpg
    obtain ⟨ho0, ho1⟩ := ho
    go_wp2_with fail
    refine (UnmapPage_any _ _ _ _ _ _ hR4).mono ?_; rintro e w5 ⟨A5, c5, rfl, hF5, hb5⟩
    rw [K1.out, HN.out] at hF5
    rw [K1.out, HN.out, K2.out]
    have hR5 := hR4.below hb5
    have hg5 := hg4.below hb5
    have C5 := C4.below hb5
    have hB5 := hF5.rd'.2
    have hbd := hbc.trans hb5
    clear hR4 hg4 C4 hF5 hbc hb5
    go_wp2
    go_loopw [13] (fun i wr => ∃ z : Nat, z ≤ 16 ∧ i = .int .i64 z ∧ Ext w5 wr) (fun i _ => 16 - (intOf i).toNat)
    case atStart => exact ⟨0, by omega, rfl, Below.refl _ _⟩
    case round =>
      obtain ⟨z, hz, rfl, hbr⟩ := hrel
      by_cases hlt : z < 16
      · have hR6 := hR5.below hbr
        have C6 := C5.below hbr
        obtain ⟨bw, hbw⟩ : ∃ bw, (withinB (z : Int) r && withinB (z : Int) u && withinB (z : Int) 3) = bw := ⟨_, rfl⟩
        have htr := K3.out (z : Int) (by omega)
        rw [hbw] at htr
        obtain ⟨w_r, hwr⟩ : ∃ t, withinB (z : Int) r = t := ⟨_, rfl⟩
        obtain ⟨w_u, hwu⟩ : ∃ t, withinB (z : Int) u = t := ⟨_, rfl⟩
        obtain ⟨w_3, hw3⟩ : ∃ t, withinB (z : Int) 3 = t := ⟨_, rfl⟩
        rw [hwr, hwu, hw3] at hbw
        have TR := Lib.hid htr
        have W1 := Lib.hid hwr
        have W2 := Lib.hid hwu
        have W3 := Lib.hid hw3
        have HBW := Lib.hid hbw
        clear htr hwr hwu hw3 hbw hR5 hg5 C5 hB5
        cases w_r
        · obtain rfl : bw = false := HBW.out.symm
          have TR2 : Hid (trOf xs (page * 256 + 7) (z : Int) = -1) := TR.out
          clear TR
          go_wp2_with fail
          refine (Translate_any _ _ _ _ _ _ _ hR6).mono ?_; rintro e w6 ⟨rfl, hb6⟩; rw [TR2.out]
          obtain ⟨q0, q1, q2, q3⟩ := C6.below hb6
          have hbx := hbr.trans hb6
          clear hR6 C6
          go_wp2_with fail
          refine (RightsWithin_any _ _ _).mono ?_; rintro e w' ⟨rfl, rfl⟩; rw [W1.out]
          go_wp2
          go_roundw
          case rel => exact ⟨z + 1, by omega, by go_num, hbx⟩
          case measure => simp [intOf]; omega
        · cases w_u
          · obtain rfl : bw = false := HBW.out.symm
            have TR2 : Hid (trOf xs (page * 256 + 7) (z : Int) = -1) := TR.out
            clear TR
            go_wp2_with fail
            refine (Translate_any _ _ _ _ _ _ _ hR6).mono ?_; rintro e w6 ⟨rfl, hb6⟩; rw [TR2.out]
            obtain ⟨q0, q1, q2, q3⟩ := C6.below hb6
            have hbx := hbr.trans hb6
            clear hR6 C6
            go_wp2_with fail
            refine (RightsWithin_any _ _ _).mono ?_; rintro e w' ⟨rfl, rfl⟩; rw [W1.out]
            go_wp2_with fail
            refine (RightsWithin_any _ _ _).mono ?_; rintro e w' ⟨rfl, rfl⟩; rw [W2.out]
            go_wp2
            go_roundw
            case rel => exact ⟨z + 1, by omega, by go_num, hbx⟩
            case measure => simp [intOf]; omega
          · cases w_3
            · obtain rfl : bw = false := HBW.out.symm
              have TR2 : Hid (trOf xs (page * 256 + 7) (z : Int) = -1) := TR.out
              clear TR
              go_wp2_with fail
              refine (Translate_any _ _ _ _ _ _ _ hR6).mono ?_; rintro e w6 ⟨rfl, hb6⟩; rw [TR2.out]
              obtain ⟨q0, q1, q2, q3⟩ := C6.below hb6
              have hbx := hbr.trans hb6
              clear hR6 C6
              go_wp2_with fail
              refine (RightsWithin_any _ _ _).mono ?_; rintro e w' ⟨rfl, rfl⟩; rw [W1.out]
              go_wp2_with fail
              refine (RightsWithin_any _ _ _).mono ?_; rintro e w' ⟨rfl, rfl⟩; rw [W2.out]
              go_wp2_with fail
              refine (RightsWithin_any _ _ _).mono ?_; rintro e w' ⟨rfl, rfl⟩; rw [W3.out]
              go_wp2
              go_roundw
              case rel => exact ⟨z + 1, by omega, by go_num, hbx⟩
              case measure => simp [intOf]; omega
            · obtain rfl : bw = true := HBW.out.symm
              have TR2 : Hid (trOf xs (page * 256 + 7) (z : Int) = o * 256 + 7) := TR.out
              clear TR
              go_wp2_with fail
              refine (Translate_any _ _ _ _ _ _ _ hR6).mono ?_; rintro e w6 ⟨rfl, hb6⟩; rw [TR2.out]
              obtain ⟨q0, q1, q2, q3⟩ := C6.below hb6
              have hbx := hbr.trans hb6
              clear hR6 C6
              go_wp2_with fail
              refine (RightsWithin_any _ _ _).mono ?_; rintro e w' ⟨rfl, rfl⟩; rw [W1.out]
              go_wp2_with fail
              refine (RightsWithin_any _ _ _).mono ?_; rintro e w' ⟨rfl, rfl⟩; rw [W2.out]
              go_wp2_with fail
              refine (RightsWithin_any _ _ _).mono ?_; rintro e w' ⟨rfl, rfl⟩; rw [W3.out]
              go_wp2
              go_roundw
              case rel => exact ⟨z + 1, by omega, by go_num, hbx⟩
              case measure => simp [intOf]; omega
      · have hB6 := hB5.below hbr
        have hg6 := hg5.below hbr
        have hR6 := hR5.below hbr
        clear hR5 hg5 hB5 C5
        go_wp2_with fail
        refine (sameSpace_any _ _ _ _ _ _ _ _ _ hB6 hg6).mono ?_; rintro e w6 ⟨rfl, hb6⟩; rw [(eqMs_iff _ _).2 rfl]
        have hR7 := hR6.below hb6
        clear hB6 hg6 hR6
        go_wp2_with fail
        refine (SpaceValid_any _ _ _ _ _ hR7).mono ?_; rintro e w7 ⟨rfl, hb7⟩; rw [HV.out]
        clear hR7
        go_wp2
        go_ret
        exact ⟨rfl, hbd.trans (hbr.trans (hb6.trans hb7))⟩
end Go.Proofs.Ytcdmpnkcfopmbaa
