/-
  The law FnLendAlong returns true at every input, and leaves all that was there as it was: the walk.
-/
import Derived.Test.YtbpkclhpjelelaaTiF
import Derived.Test.YtbpkclhpjelelaaBools
import Derived.Test.YtbpkclhpjelelaaUseTimeLaw
namespace Go.Proofs.Ytbpkclhpjelelaa
open Go.RowKit

def cN (cs : List Int) (k : Nat) : Nat := (at0 cs k).toNat
theorem cN_lt {zs cs : List Int} (h : laOk zs cs = true) {k : Nat} (hk : k < cs.length) : cN cs k < zs.length := by
  have := (laOk_at h).2.2 k hk
  unfold cN; omega
theorem cN_ne {zs cs : List Int} (h : laOk zs cs = true) {j k : Nat} (hj : j < k) (hk : k < cs.length) : cN cs j ≠ cN cs k := by
  have h1 := (laOk_at h).2.2 k hk
  have h2 := (laOk_at h).2.2 j (by omega)
  have h3 := h1.2.2 j hj
  unfold cN; omega
theorem zeroK_hit {zs cs : List Int} (h : laOk zs cs = true) : ∀ k, k ≤ cs.length → ∀ j, j < k → at0 (zeroK zs cs k) (cN cs j) = 0
  | 0, _, j, hj => absurd hj (by omega)
  | k + 1, hk, j, hj => by
    show at0 ((zeroK zs cs k).set (cN cs k) 0) (cN cs j) = 0
    rw [at0_set _ _ _ _ (by rw [zeroK_len]; exact cN_lt h (by omega))]
    by_cases hjk : j < k
    · split
      · rfl
      · exact zeroK_hit h k (by omega) j hjk
    · obtain rfl : j = k := by omega
      rw [if_pos rfl]
theorem zeroK_sum {zs cs : List Int} (h : laOk zs cs = true) : ∀ k, k ≤ cs.length → (zeroK zs cs k).sum = zs.sum - sumK zs cs k
  | 0, _ => by show zs.sum = zs.sum - 0; omega
  | k + 1, hk => by
    show ((zeroK zs cs k).set (cN cs k) 0).sum = zs.sum - (sumK zs cs k + at0 zs (cN cs k))
    rw [sum_set _ _ _ (by rw [zeroK_len]; exact cN_lt h (by omega)), zeroK_sum h k (by omega)]
    have := zeroK_next h (k := k) (by omega)
    unfold cN at *
    omega
theorem zeroK_valid {zs cs : List Int} (h : laOk zs cs = true) : ∀ k, k ≤ cs.length → tValid (zeroK zs cs k) = true
  | 0, _ => (laOk_at h).1
  | k + 1, hk => tValid_set (zeroK_valid h k (by omega)) (cN cs k) (by rw [zeroK_len]; exact cN_lt h (by omega)) 0 (by omega) (by omega)
theorem sumK_nonneg {zs cs : List Int} (h : laOk zs cs = true) : ∀ k, k ≤ cs.length → 0 ≤ sumK zs cs k
  | 0, _ => by show (0 : Int) ≤ 0; omega
  | k + 1, hk => by
    show 0 ≤ sumK zs cs k + at0 zs (cN cs k)
    have h1 := sumK_nonneg h k (by omega)
    have h2 := (tValid_iff.1 (laOk_at h).1).1 _ (cN_lt h (k := k) (by omega))
    omega
theorem lastW_facts {zs cs : List Int} (h : laOk zs cs = true) (hs : sumK zs cs cs.length ≤ 10000) :
    tValid (lastW zs cs) = true ∧ (lastW zs cs).sum = zs.sum ∧ (∀ k, k + 1 < cs.length → at0 (lastW zs cs) (cN cs k) = 0) ∧
      (∀ i, (∀ j, j < cs.length → cN cs j ≠ i) → at0 (lastW zs cs) i = at0 zs i) ∧ (0 < cs.length → at0 (lastW zs cs) (cN cs (cs.length - 1)) = sumK zs cs cs.length) := by
  by_cases h0 : cs.length = 0
  · have e : lastW zs cs = zs := by unfold lastW; rw [if_pos h0]
    rw [e]
    exact ⟨(laOk_at h).1, rfl, fun k hk => by omega, fun i _ => rfl, fun hp => by omega⟩
  · have e : lastW zs cs = (zeroK zs cs cs.length).set (cN cs (cs.length - 1)) (sumK zs cs cs.length) := by unfold lastW; rw [if_neg h0]; rfl
    have hlt : cN cs (cs.length - 1) < (zeroK zs cs cs.length).length := by rw [zeroK_len]; exact cN_lt h (by omega)
    rw [e]
    refine ⟨tValid_set (zeroK_valid h _ (Nat.le_refl _)) _ hlt _ (sumK_nonneg h _ (Nat.le_refl _)) hs, ?_, fun k hk => ?_, fun i hi => ?_, fun _ => ?_⟩
    · rw [sum_set _ _ _ hlt, zeroK_sum h _ (Nat.le_refl _), zeroK_hit h _ (Nat.le_refl _) _ (by omega)]; omega
    · rw [at0_set _ _ _ _ hlt, if_neg (Ne.symm (cN_ne h (by omega) (by omega)))]
      exact zeroK_hit h _ (Nat.le_refl _) _ (by omega)
    · rw [at0_set_ne _ _ _ _ (hi _ (by omega))]
      exact zeroK_at zs cs _ i fun j hj => hi j hj
    · rw [at0_set _ _ _ _ hlt, if_pos rfl]

/-- The threads that were met. -/
def tK (n : Nat) (cs : List Int) : Nat → List Bool
  | 0 => List.replicate n false
  | k + 1 => (tK n cs k).set (cN cs k) true
theorem tK_len (n : Nat) (cs : List Int) : ∀ k, (tK n cs k).length = n
  | 0 => by simp [tK]
  | k + 1 => by unfold tK; rw [List.length_set, tK_len n cs k]
theorem tK_false {n : Nat} {cs : List Int} {i : Nat} : ∀ k, (tK n cs k)[i]? = some false → ∀ j, j < k → cN cs j ≠ i
  | 0, _, j, hj => absurd hj (by omega)
  | k + 1, h, j, hj => by
    unfold tK at h
    rw [List.getElem?_set] at h
    by_cases hk : cN cs k = i
    · rw [if_pos hk] at h
      split at h
      · simp at h
      · cases h
    · rw [if_neg hk] at h
      by_cases hjk : j < k
      · exact tK_false k h j hjk
      · obtain rfl : j = k := by omega
        exact hk

set_option maxHeartbeats 4000000 in
theorem FnLendAlong_walk (A : Option Addr) (n0 c : Nat) (code : List Int) (w : World) (h0 : Rd w 1 A n0 c (code.map (Value.int .u8))) (F0 : ∀ z ∈ code, (Lit.int .u8 z).wf = true) :
    Calls Try.prog 8 #[.slice A n0 c] w fun e w' => e = .returned (.bool true) ∧ Ext w w' := by
  obtain ⟨bs, hbs⟩ := bytes_of F0
  rw [hbs] at h0
  have hle := h0.le
  have htop := h0.top
  by_cases hn : 1048576 < n0
  · go_enter Try.func8, Try.ntmps8
    go_wp2
    go_ret
    exact ⟨rfl, Below.refl _ _⟩
  obtain ⟨ib, hib, hbz0, hbz1, hbz2⟩ := info_parts Try.infoBool
  go_enter Try.func8, Try.ntmps8
  go_wp2_with fail
  refine (DrawLendAlong_any _ _ _ _ _ h0).mono ?_; rintro e w1 ⟨A1, n, c1, zs, B1, m, d1, cs, rfl, hg, hc, hn1, h9, hm10, hb1⟩
  go_wp2_with fail
  refine (LendAlong_any _ _ _ _ _ _ _ _ _ hg hc).mono ?_; rintro e w2 ⟨A2, c2, rfl, hF2, hb2⟩
  have hg2 := hg.below hb2
  have hc2 := hc.below hb2
  obtain ⟨xs, hxs⟩ : ∃ xs, lendR zs cs = xs := ⟨_, rfl⟩
  rw [hxs] at hF2 ⊢
  go_wp2_with fail
  refine (specLendAlong_any _ _ _ _ _ _ _ _ _ hg2 hc2).mono ?_; rintro e w3 ⟨A3, c3, rfl, hF3, hb3⟩
  rw [hxs] at hF3 ⊢
  have hR2 := hF2.rd'.2.below hb3
  have hR3 := hF3.rd'.2
  have hg3 := hg2.below hb3
  have hc3 := hc2.below hb3
  have hbb := (hb1.trans hb2).trans hb3
  go_wp2_with fail
  refine (sameInts_any _ _ _ _ _ _ _ _ _ hR2 hR3).mono ?_; rintro e w4 ⟨rfl, hb4⟩; rw [(eqIs_iff _ _).2 rfl]
  have hR4 := hR2.below hb4
  have hg4 := hg3.below hb4
  have hc4 := hc3.below hb4
  have hbc := hbb.trans hb4
  clear hF2 hF3 hR2 hR3 hg hg2 hg3 hc hc2 hc3 hb1 hb2 hb3 hb4 hbb h0 hbs F0
  by_cases hx0 : xs = []
  · subst hx0
    clear hR4 hg4 hc4 hxs
    go_wp2_with ((go_at_call 12; refine (alive_any _).mono ?_; rintro e w9 ⟨rfl, hb9⟩))
    go_ret
    exact ⟨rfl, hbc.trans hb9⟩
  have hok : laOk zs cs = true := by
    rw [← hxs] at hx0; unfold lendR at hx0
    by_cases h : laOk zs cs = true
    · exact h
    · rw [if_neg h] at hx0; exact absurd rfl hx0
  have hs : sumK zs cs cs.length ≤ 10000 := by
    rw [← hxs] at hx0; unfold lendR at hx0
    rw [if_pos hok] at hx0
    by_cases h : 10000 < sumK zs cs cs.length
    · rw [if_pos h] at hx0; exact absurd rfl hx0
    · omega
  have exs : xs = lastW zs cs := by rw [← hxs]; unfold lendR; rw [if_pos hok, if_neg (by omega)]
  obtain ⟨f1, f2, f3, f4, f5⟩ := lastW_facts hok hs
  rw [← exs] at f1 f2 f3 f4 f5
  have hl := hg4.lenI
  have hlc := hc4.lenI
  have hlx : xs.length = n := by rw [exs, lastW_len, hl]
  have hv := (laOk_at hok).1
  have vz := (tValid_iff.1 hv).1
  have vx := (tValid_iff.1 f1).1
  have vs := tValid_sum hv
  have hat : ∀ k, k < m → 0 ≤ at0 cs k ∧ at0 cs k < n := fun k hk => by
    have := (laOk_at hok).2.2 k (by omega); rw [hl] at this; exact ⟨this.1, this.2.1⟩
  rw [hl] at vz
  rw [hlx] at vx
  rw [hlc] at hs f3 f4 f5
  have hsn := sumK_nonneg hok
  rw [hlc] at hsn
  obtain ⟨s, hss⟩ : ∃ s, zs.sum = s := ⟨_, rfl⟩
  rw [hss] at f2 vs
  have F1 := Lib.hid f1
  have F2 := Lib.hid f2
  have F3 := Lib.hid f3
  have F4 := Lib.hid f4
  have F5 := Lib.hid f5
  have HL := Lib.hid hl
  have HLC := Lib.hid hlc
  have HLX := Lib.hid hlx
  have HV := Lib.hid hv
  have VZ := Lib.hid vz
  have VX := Lib.hid vx
  have HAT := Lib.hid hat
  have HSS := Lib.hid hss
  have HSN := Lib.hid hsn
  rw [hlx] at hR4 ⊢
  have hne : ((n : Int) == 0) = false := by rw [beq_eq_false_iff_ne]; omega
  clear f1 f2 f3 f4 f5 hl hlc hlx hv vz vx hat hss hsn exs hx0 hxs hok
  go_upto_region 11 with (at_make; refine wpList_make_full _ rfl _ _ 44 rfl w4.heap.size 4 ib _ 1 Try.underlying44 hib hbz0 hbz1 .i64 .i64 _ _ n rfl rfl rfl rfl (by rw [hbz2]; omega) (by unfold maxLen; omega) (Nat.le_refl _) ?_; intro w5 hown hgw)
  have hrow : Row w5 w4.heap.size 4 1 (.slice (some ⟨w4.heap.size, 0, none⟩) n n) n (cB (tK n cs 0)) := by
    have := Row.of_own hown
    rw [show (madeCells (Value.bool false).cells (n * 1)).toList = cB (List.replicate n false) from cB_replicate n] at this
    exact this
  have hE5 : Ext w4 w5 := ext_grown (Below.refl _ _) hgw (fun k e => by simp at e)
  clear hown hgw
  go_wp2
  go_loopw [6, 8] (fun ss i wr => ∃ (k : Nat) (y : Int), k ≤ m ∧ i = .int .i64 k ∧ ss = .int .i64 y ∧ 0 ≤ y ∧ y ≤ 10000 * k ∧ Hid (y = sumK zs cs k) ∧ Row wr w4.heap.size 4 1 (.slice (some ⟨w4.heap.size, 0, none⟩) n n) n (cB (tK n cs k)) ∧ Ext w4 wr) (fun _ i _ => m - (intOf i).toNat)
  case atStart => exact ⟨0, 0, Nat.zero_le _, rfl, rfl, by omega, by omega, rfl, hrow, hE5⟩
  case round =>
    clear hrow hE5
    obtain ⟨k, y, hk, rfl, rfl, hy0, hy1, HY, hG, hE⟩ := hrel
    rename World => wo
    by_cases hlt : k < m
    · obtain ⟨b, off, z, hBB, X, g0⟩ := (hc4.below hE).atI hlt
      subst hBB
      have hz := HAT.out k hlt
      have ez : at0 cs k = z := at0_get X.out
      rw [ez] at hz
      obtain ⟨i, rfl⟩ := Int.eq_ofNat_of_zero_le hz.1
      have hi : i < n := by omega
      have eci : cN cs k = i := by unfold cN; rw [ez, Int.toNat_natCast]
      obtain ⟨ba, oa, v, hAA, Y, ga⟩ := (hg4.below hE).atI hi
      subst hAA
      have hv : at0 zs i = v := at0_get Y.out
      have vv := VZ.out i hi
      rw [hv] at vv
      obtain ⟨bx, ox, u, hXX, U, gx⟩ := (hR4.below hE).atI hi
      subst hXX
      have hu : at0 xs i = u := at0_get U.out
      have f1 := hG.frozenAt i
      obtain ⟨q, _, q1⟩ := ownB_at hG hi
      have hG2 := ownB_set (k := i) hG true
      have hE2 : Ext w4 (wo.setCell ⟨w4.heap.size, i, none⟩ (.bool true)) := ext_grown hE (grown_set (p := ⟨w4.heap.size, i, none⟩) (g := w4.heap.size) (World.grownBy.refl wo _) rfl _) (fun k e => by cases e; exact Nat.le_refl _)
      have e3 : tK n cs (k + 1) = (tK n cs k).set i true := by show (tK n cs k).set (cN cs k) true = _; rw [eci]
      rw [← e3] at hG2
      have e4 : sumK zs cs (k + 1) = y + v := by show sumK zs cs k + at0 zs (cN cs k) = _; rw [eci, hv, HY.out]
      have E4 := Lib.hid e4.symm
      have nb : b ≠ w4.heap.size := by
        obtain ⟨b', o', z', e', _, g'⟩ := hc4.atI hlt
        simp only [Option.some.injEq, Addr.mk.injEq, and_true] at e'
        obtain ⟨rfl, rfl⟩ := e'
        have := World.block_lt_of_cell? _ _ g'
        simp only at this; omega
      have nbx : bx ≠ w4.heap.size := by
        obtain ⟨b', o', z', e', _, g'⟩ := hR4.atI hi
        simp only [Option.some.injEq, Addr.mk.injEq, and_true] at e'
        obtain ⟨rfl, rfl⟩ := e'
        have := World.block_lt_of_cell? _ _ g'
        simp only at this; omega
      by_cases hlast : k + 1 < m
      · have hu0 : u = 0 := by rw [← hu, ← eci]; exact F3.out k hlast
        subst hu0
        have hd : ((k : Int) < (m : Int) - 1) := by omega
        clear e3 e4 ez X Y U hG hE HY hv hu eci hz
        go_wp2
        go_roundw
        case rel => exact ⟨k + 1, y + v, by omega, by go_num, by go_num, by omega, by omega, E4, hG2, hE2⟩
        case measure => simp [intOf]; omega
      · have hd : ¬ ((k : Int) < (m : Int) - 1) := by omega
        clear e3 e4 ez X Y U hG hE HY hv hu eci hz gx
        go_wp2
        go_roundw
        case rel => exact ⟨k + 1, y + v, by omega, by go_num, by go_num, by omega, by omega, E4, hG2, hE2⟩
        case measure => simp [intOf]; omega
    · obtain rfl : k = m := by omega
      have hs2 := hs
      rw [← HY.out] at hs2
      go_wp2
      go_loopw [9] (fun i wr => ∃ j : Nat, j ≤ n ∧ i = .int .i64 j ∧ Ext wo wr) (fun i _ => n - (intOf i).toNat)
      case atStart => exact ⟨0, Nat.zero_le _, rfl, Below.refl _ _⟩
      case round =>
        obtain ⟨j, hj, rfl, hE3⟩ := hrel
        have hE4 := hE.trans hE3
        by_cases hjn : j < n
        · obtain ⟨ba, oa, v, hAA, Y, ga⟩ := (hg4.below hE4).atI hjn
          subst hAA
          obtain ⟨bx, ox, u, hXX, U, gx⟩ := (hR4.below hE4).atI hjn
          subst hXX
          obtain ⟨q, HQ, q1⟩ := ownB_at hG hjn
          have q2 := kept_of_below hE3 _ _ q1
          have LA := later_cell ga
          have LX := later_cell gx
          have LQ := later_cell q2
          have huv : q = false → u = v := fun hq => by
            subst hq
            rw [← at0_get U.out, ← at0_get Y.out]
            exact F4.out j (tK_false _ HQ.out)
          cases q
          · obtain rfl := huv rfl
            clear huv Y U HQ hG ga gx q1 q2
            go_wp2
            (refine wp_region_later (by kernel_rfl) (by kernel_rfl) ?_; repeat (any_goals (first | (with_reducible refine wpQuiet_nil ?_; intro wq hq) | go_big_quiet_step ((fail)))))
            go_wp2
            go_roundw
            case rel => exact ⟨j + 1, by omega, by go_num, hE3.trans hq⟩
            case measure => simp [intOf]; omega
          · clear huv Y U HQ hG ga gx q1 q2
            go_wp2
            (refine wp_region_later (by kernel_rfl) (by kernel_rfl) ?_; repeat (any_goals (first | (with_reducible refine wpQuiet_nil ?_; intro wq hq) | go_big_quiet_step ((fail)))))
            go_wp2
            go_roundw
            case rel => exact ⟨j + 1, by omega, by go_num, hE3.trans hq⟩
            case measure => simp [intOf]; omega
        · have hgz := hg4.below hE4
          have hRz := hR4.below hE4
          have hcz := hc4.below hE4
          by_cases hm0 : k = 0
          · subst hm0
            clear hg4 hR4 hc4 hG
            go_wp2_with fail
            refine (total_any _ _ _ _ _ hRz F1.out).mono ?_; rintro e w6 ⟨rfl, rfl⟩; rw [F2.out]
            go_wp2_with fail
            refine (total_any _ _ _ _ _ hgz HV.out).mono ?_; rintro e w6 ⟨rfl, rfl⟩; rw [HSS.out]
            go_wp2_with fail
            refine (TimesValid_any _ _ _ _ _ hRz).mono ?_; rintro e w7 ⟨rfl, hb7⟩; rw [F1.out]
            go_wp2
            go_ret
            exact ⟨rfl, (hbc.trans hE4).trans hb7⟩
          · have hme : ((k : Int) == 0) = false := by rw [beq_eq_false_iff_ne]; omega
            obtain ⟨b, off, z, hBB, X, g0⟩ := hcz.atI (k := k - 1) (by omega)
            subst hBB
            have hz := HAT.out (k - 1) (by omega)
            have ez : at0 cs (k - 1) = z := at0_get X.out
            rw [ez] at hz
            obtain ⟨i, rfl⟩ := Int.eq_ofNat_of_zero_le hz.1
            have hi : i < n := by omega
            have eci : cN cs (k - 1) = i := by unfold cN; rw [ez, Int.toNat_natCast]
            obtain ⟨bx, ox, u, hXX, U, gx⟩ := hRz.atI hi
            subst hXX
            have hu : u = y := by rw [← at0_get U.out, ← eci, F5.out (by omega), ← HY.out]
            subst hu
            have ek : (k : Int) - 1 = ((k - 1 : Nat) : Int) := by omega
            obtain ⟨k1, hk1⟩ : ∃ k1, k - 1 = k1 := ⟨_, rfl⟩
            rw [hk1] at ek g0
            have hk1' : k1 < k := by omega
            clear hg4 hR4 hc4 hG X U ez eci hz hk1
            go_wp2_with fail
            refine (total_any _ _ _ _ _ hRz F1.out).mono ?_; rintro e w6 ⟨rfl, rfl⟩; rw [F2.out]
            go_wp2_with fail
            refine (total_any _ _ _ _ _ hgz HV.out).mono ?_; rintro e w6 ⟨rfl, rfl⟩; rw [HSS.out]
            go_wp2_with fail
            refine (TimesValid_any _ _ _ _ _ hRz).mono ?_; rintro e w7 ⟨rfl, hb7⟩; rw [F1.out]
            go_wp2
            go_ret
            exact ⟨rfl, (hbc.trans hE4).trans hb7⟩
end Go.Proofs.Ytbpkclhpjelelaa
