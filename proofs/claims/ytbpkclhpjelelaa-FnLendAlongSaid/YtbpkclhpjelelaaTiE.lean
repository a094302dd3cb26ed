/-
  Lending along calls, as the program and as the reference do it.
-/
import Derived.Test.YtbpkclhpjelelaaTiC
import Derived.Deep.Cut
namespace Go.Proofs.Ytbpkclhpjelelaa
open Go.RowKit

theorem at0_set_ne (zs : List Int) (i j : Nat) (v : Int) (h : i ≠ j) : at0 (zs.set i v) j = at0 zs j := by
  unfold at0; rw [List.getD_eq_getElem?_getD, List.getD_eq_getElem?_getD, List.getElem?_set_ne h]
def zeroK (zs cs : List Int) : Nat → List Int
  | 0 => zs
  | k + 1 => (zeroK zs cs k).set (at0 cs k).toNat 0
def sumK (zs cs : List Int) : Nat → Int
  | 0 => 0
  | k + 1 => sumK zs cs k + at0 zs (at0 cs k).toNat
theorem zeroK_len (zs cs : List Int) : ∀ k, (zeroK zs cs k).length = zs.length
  | 0 => rfl
  | k + 1 => by unfold zeroK; rw [List.length_set, zeroK_len zs cs k]
theorem zeroK_at (zs cs : List Int) : ∀ k i, (∀ j, j < k → (at0 cs j).toNat ≠ i) → at0 (zeroK zs cs k) i = at0 zs i
  | 0, _, _ => rfl
  | k + 1, i, h => by
    unfold zeroK
    rw [at0_set_ne _ _ _ _ (h k (by omega)), zeroK_at zs cs k i fun j hj => h j (by omega)]
def lastW (zs cs : List Int) : List Int := if cs.length = 0 then zs else (zeroK zs cs cs.length).set (at0 cs (cs.length - 1)).toNat (sumK zs cs cs.length)
def laOk (zs cs : List Int) : Bool := tValid zs && cValid cs && !(cs.any fun z => decide ((zs.length : Int) ≤ z))
/-- What LendAlong hands back. -/
def lendR (zs cs : List Int) : List Int := if laOk zs cs = true then (if 10000 < sumK zs cs cs.length then [] else lastW zs cs) else []
theorem lastW_len (zs cs : List Int) : (lastW zs cs).length = zs.length := by
  unfold lastW; split
  · rfl
  · rw [List.length_set, zeroK_len]
theorem lendR_len (zs cs : List Int) : (lendR zs cs).length ≤ 1048576 := by
  unfold lendR
  split
  · rename_i h
    split
    · simp
    · rw [lastW_len]
      unfold laOk at h
      simp only [Bool.and_eq_true] at h
      have := (tValid_iff.1 h.1.1).2
      omega
  · simp
theorem cValid_at {cs : List Int} (h : cValid cs = true) {k : Nat} (hk : k < cs.length) : 0 ≤ at0 cs k ∧ at0 cs k ≤ 15 ∧ ∀ j, j < k → at0 cs j ≠ at0 cs k := by
  unfold cValid difL at h
  simp only [Bool.and_eq_true] at h
  have h1 := List.all_eq_true.1 h.2 k (List.mem_range.2 hk)
  unfold dAt at h1
  simp only [Bool.and_eq_true] at h1
  have h2 := inB_iff.1 h1.1
  refine ⟨h2.1, h2.2, fun j hj e => ?_⟩
  have h3 : (cs.take k).any (sameI (at0 cs k)) = true := by
    rw [List.any_eq_true]
    refine ⟨at0 cs j, ?_, by rw [e]; simp [sameI]⟩
    have : (cs.take k)[j]? = some (at0 cs j) := by rw [List.getElem?_take, if_pos hj]; exact get_at0 (by omega)
    exact List.mem_of_getElem? this
  rw [h3] at h1
  simp at h1
theorem laOk_at {zs cs : List Int} (h : laOk zs cs = true) : tValid zs = true ∧ cs.length ≤ 16 ∧ ∀ k, k < cs.length → 0 ≤ at0 cs k ∧ at0 cs k < zs.length ∧ ∀ j, j < k → at0 cs j ≠ at0 cs k := by
  unfold laOk at h
  simp only [Bool.and_eq_true, Bool.not_eq_true'] at h
  obtain ⟨⟨h1, h2⟩, h3⟩ := h
  refine ⟨h1, by unfold cValid at h2; simp only [Bool.and_eq_true, decide_eq_true_eq] at h2; exact h2.1, fun k hk => ?_⟩
  obtain ⟨a, _, c⟩ := cValid_at h2 hk
  refine ⟨a, ?_, c⟩
  have := (List.any_eq_false.1 h3) _ (List.mem_of_getElem? (get_at0 hk))
  simp only [decide_eq_true_eq] at this
  omega
theorem zeroK_next {zs cs : List Int} (h : laOk zs cs = true) {k : Nat} (hk : k < cs.length) : at0 (zeroK zs cs k) (at0 cs k).toNat = at0 zs (at0 cs k).toNat := by
  have H := (laOk_at h).2.2
  refine zeroK_at zs cs k _ fun j hj e => ?_
  have h1 := H k hk
  have h2 := H j (by omega)
  exact h1.2.2 j hj (by omega)

theorem LendAlongFn_any (A : Option Addr) (n c : Nat) (z : Int) (pa : Addr) (w : World) (h : w.cell? pa = some (.slice A n c)) :
    Calls Try.prog 38 #[.int .i64 z, .pointer (some pa)] w fun e w' => e = .returned (.bool (decide ((n : Int) ≤ z))) ∧ Ext w w' := by
  go_enter Try.func38, Try.ntmps38
  go_wp2
  go_ret
  exact ⟨rfl, Below.refl _ _⟩
set_option maxHeartbeats 400000 in
theorem ContainsFuncL_any (pa : Addr) (A : Option Addr) (n c : Nat) (zs : List Int) (B : Option Addr) (m d : Nat) (w : World) (h : Rd w 1 A n c (cI zs)) (hc : w.cell? pa = some (.slice B m d)) :
    Calls Try.prog 30 #[.slice A n c, .func (.func 38) #[] #[.pointer (some pa)]] w fun e w' => e = .returned (.bool (zs.any fun z => decide ((m : Int) ≤ z))) ∧ Ext w w' := by
  have e := idxOr_any (fun z => decide ((m : Int) ≤ z)) zs
  obtain ⟨ix, hix⟩ : ∃ z, idxOr (fun z => decide ((m : Int) ≤ z)) zs = z := ⟨_, rfl⟩
  rw [hix] at e
  have E := Lib.hid e
  have HIX := Lib.hid hix
  clear e hix
  go_enter Try.func30, Try.ntmps30
  go_wp2_with fail
  refine (IndexIL_any (fun z => decide ((m : Int) ≤ z)) _ _ _ _ _ _ h (fun z w1 hb1 => LendAlongFn_any B m d z _ w1 (later_cell hc ⟨w1, hb1⟩))).mono ?_; rintro e w2 ⟨rfl, hb2⟩; rw [HIX.out]
  go_wp2
  go_ret
  exact ⟨ret_bool E.out, hb2⟩

set_option maxHeartbeats 2000000 in
theorem LendAlong_any (A : Option Addr) (n c : Nat) (zs : List Int) (B : Option Addr) (m d : Nat) (cs : List Int) (w : World) (h : Rd w 1 A n c (cI zs)) (h' : Rd w 1 B m d (cI cs)) :
    Calls Try.prog 17 #[.slice A n c, .slice B m d] w fun e w' => ∃ A' c', e = .returned (.slice A' (lendR zs cs).length c') ∧ Fr w' w.heap.size 3 1 (.slice A' (lendR zs cs).length c') (lendR zs cs).length (cI (lendR zs cs)) ∧ Ext w w' := by
  have hl := h.lenI
  have hle := h.le
  have htop := h.top
  have hl' := h'.lenI
  have hle' := h'.le
  have htop' := h'.top
  have hal : Ext w (w.alloc (.cells #[.slice A n c] 23)) := (Below.refl _ _).alloc (Nat.le_refl _) _
  have c0 : (w.alloc (.cells #[.slice A n c] 23)).cell? ⟨w.heap.size, 0, none⟩ = some (.slice A n c) := by rw [World.cell?_alloc_new]; rfl
  have hA := h.below hal
  have hB := h'.below hal
  obtain ⟨t1, e1⟩ : ∃ t, tValid zs = t := ⟨_, rfl⟩
  obtain ⟨t2, e2⟩ : ∃ t, cValid cs = t := ⟨_, rfl⟩
  obtain ⟨t3, e3⟩ : ∃ t, (cs.any fun z => decide ((n : Int) ≤ z)) = t := ⟨_, rfl⟩
  have elo : laOk zs cs = (t1 && t2 && !t3) := by unfold laOk; rw [e1, e2, hl, e3]
  have E1 := Lib.hid e1
  have E2 := Lib.hid e2
  have E3 := Lib.hid e3
  by_cases hok : laOk zs cs = true
  rotate_left
  · have eL : lendR zs cs = [] := by unfold lendR; rw [if_neg hok]
    rw [eL]
    have hno : (t1 && t2 && !t3) = false := by rw [← elo]; simpa using hok
    clear eL elo hok hl hl' e1 e2 e3
    go_enter Try.func17, Try.ntmps17
    go_wp2_with fail
    refine (TimesValid_any _ _ _ _ _ hA).mono ?_; rintro e w1 ⟨rfl, hb⟩; rw [E1.out]
    have c1 := kept_of_below hb _ _ c0
    have hB1 := hB.below hb
    have hb1 := hal.trans hb
    clear hA hB hb h h' c0 hal
    cases t1
    · clear hno
      go_wp2
      go_ret
      exact ⟨_, _, rfl, .inl ⟨_, rfl, rfl, rfl⟩, hb1⟩
    go_wp2_with fail
    refine (CallsValid_any _ _ _ _ _ hB1).mono ?_; rintro e w2 ⟨rfl, rfl⟩; rw [E2.out]
    cases t2
    · clear hno
      go_wp2
      go_ret
      exact ⟨_, _, rfl, .inl ⟨_, rfl, rfl, rfl⟩, hb1⟩
    obtain rfl : t3 = true := by simpa using hno
    go_wp2_with fail
    refine (ContainsFuncL_any _ _ _ _ _ _ _ _ _ hB1 c1).mono ?_; rintro e w2 ⟨rfl, hb2⟩; rw [E3.out]
    clear hB1 c1 hno
    go_wp2
    go_ret
    exact ⟨_, _, rfl, .inl ⟨_, rfl, rfl, rfl⟩, hb1.trans hb2⟩
  obtain ⟨rfl, rfl, rfl⟩ : t1 = true ∧ t2 = true ∧ t3 = false := by rw [elo] at hok; simp only [Bool.and_eq_true, Bool.not_eq_true'] at hok; exact ⟨hok.1.1, hok.1.2, hok.2⟩
  obtain ⟨hv, hm16, hat⟩ := laOk_at hok
  have vz := (tValid_iff.1 hv).1
  have hn16 := (tValid_iff.1 hv).2
  rw [hl] at hn16 vz
  rw [hl'] at hm16 hat
  rw [hl] at hat
  have OK := Lib.hid hok
  have HL := Lib.hid hl
  have HL' := Lib.hid hl'
  have HAT := Lib.hid hat
  have VZ := Lib.hid vz
  clear elo hok hl hl' e1 e2 e3 hv hat vz h hal
  have hal : Ext w (w.alloc (.cells #[.slice A n c] 23)) := (Below.refl _ _).alloc (Nat.le_refl _) _
  go_enter Try.func17, Try.ntmps17
  go_wp2_with fail
  refine (TimesValid_any _ _ _ _ _ hA).mono ?_; rintro e w1 ⟨rfl, hb⟩; rw [E1.out]
  have c1 := kept_of_below hb _ _ c0
  have hB1 := hB.below hb
  have hA1 := hA.below hb
  have hb1 := hal.trans hb
  clear hA hB hb c0 hal
  go_wp2_with fail
  refine (CallsValid_any _ _ _ _ _ hB1).mono ?_; rintro e w2 ⟨rfl, rfl⟩; rw [E2.out]
  go_wp2_with fail
  refine (ContainsFuncL_any _ _ _ _ _ _ _ _ _ hB1 c1).mono ?_; rintro e w2 ⟨rfl, hb2⟩; rw [E3.out]
  have c2 := kept_of_below hb2 _ _ c1
  have hA2 := hA1.below hb2
  have hb2' := hb1.trans hb2
  clear c1 hB1 hA1 hb1 hb2
  go_wp2_with fail
  refine (cloneI_any _ _ _ _ _ hA2 (one_cI _) (by omega)).mono ?_; rintro e w3 ⟨Ao, co, rfl, hF, hb3⟩
  have hbb := hb2'.trans hb3
  have hF' := hF.mono hb2'.size
  clear hA2 c2 hF hb2' hb3 E1 E2 E3
  by_cases hm0 : m = 0
  · subst hm0
    have hcs : cs.length = 0 := HL'.out
    have eL : lendR zs cs = zs := by unfold lendR lastW; rw [if_pos OK.out, hcs, if_neg (by unfold sumK; omega), if_pos rfl]
    have EL := Lib.hid eL
    clear eL hcs
    go_wp2
    go_loopw [6, 26] (fun s i wr => s = .int .i64 0 ∧ i = .int .i64 0 ∧ w3 = wr) (fun _ _ _ => 0)
    case atStart => exact ⟨rfl, rfl, rfl⟩
    case round =>
      obtain ⟨rfl, rfl, rfl⟩ := hrel
      go_wp2
      go_ret
      refine ⟨Ao, co, ?_, ?_, hbb⟩
      · rw [EL.out, HL.out]; rfl
      · rw [EL.out, HL.out]; exact hF'
  have hn0 : 0 < n := by have := (HAT.out 0 (by omega)); omega
  obtain ⟨go, hgo, hgB, hgl, hG⟩ := hF'.form hn0
  subst hgo
  clear hF'
  go_wp2
  go_loopw [6, 26] (fun s i wr => ∃ (k : Nat) (y : Int), k ≤ m ∧ i = .int .i64 k ∧ s = .int .i64 y ∧ 0 ≤ y ∧ y ≤ 10000 * k ∧ Hid (y = sumK zs cs k) ∧ Row wr w.heap.size 3 1 (.slice (some ⟨go, 0, none⟩) n co) n (cI (zeroK zs cs k)) ∧ Ext w wr) (fun _ i _ => m - (intOf i).toNat)
  case atStart => exact ⟨0, 0, Nat.zero_le _, rfl, rfl, by omega, by omega, rfl, hG, hbb⟩
  case round =>
    clear hG hbb hgl
    obtain ⟨k, y, hk, rfl, rfl, hy0, hy1, HY, hG, hE⟩ := hrel
    rename World => wo
    have hB2 := h'.below hE
    by_cases hlt : k < m
    · obtain ⟨b, off, z, hBB, X, g0⟩ := hB2.atI hlt
      subst hBB
      have hz := HAT.out k hlt
      have ez : at0 cs k = z := at0_get X.out
      rw [ez] at hz
      obtain ⟨i, rfl⟩ := Int.eq_ofNat_of_zero_le hz.1
      have hi : i < n := by omega
      have hzk := zeroK_next OK.out (k := k) (by rw [HL'.out]; exact hlt)
      rw [ez, Int.toNat_natCast] at hzk
      obtain ⟨v, hv⟩ : ∃ v, at0 zs i = v := ⟨_, rfl⟩
      have vv := VZ.out i hi
      rw [hv] at hzk vv
      have q1 : wo.cell? ⟨go, i, none⟩ = some (.int .i64 v) := by rw [hG.cellAt i (by omega)]; unfold cI; rw [List.getElem?_map, get_at0 (by rw [zeroK_len, HL.out]; exact hi), hzk]; rfl
      have f1 := hG.frozenAt i
      have hG2 := ownI_set (k := i) hG 0
      have hE2 : Ext w (wo.setCell ⟨go, i, none⟩ (.int .i64 0)) := ext_grown hE (grown_set (p := ⟨go, i, none⟩) (g := go) (World.grownBy.refl wo _) rfl _) (fun k e => by cases e; exact hgB)
      have e3 : zeroK zs cs (k + 1) = (zeroK zs cs k).set i 0 := by show (zeroK zs cs k).set (at0 cs k).toNat 0 = _; rw [ez, Int.toNat_natCast]
      have e4 : sumK zs cs (k + 1) = y + v := by show sumK zs cs k + at0 zs (at0 cs k).toNat = _; rw [ez, Int.toNat_natCast, hv, HY.out]
      rw [← e3] at hG2
      have E4 := Lib.hid e4.symm
      clear e3 e4 hzk hv ez X hB2 h' hG hE HY hz
      go_wp2
      go_roundw
      case rel => exact ⟨k + 1, y + v, by omega, by go_num, by go_num, by omega, by omega, E4, hG2, hE2⟩
      case measure => simp [intOf]; omega
    · obtain rfl : k = m := by omega
      obtain ⟨b, off, z, hBB, X, g0⟩ := hB2.atI (k := k - 1) (by omega)
      subst hBB
      have hz := HAT.out (k - 1) (by omega)
      have ez : at0 cs (k - 1) = z := at0_get X.out
      rw [ez] at hz
      obtain ⟨i, rfl⟩ := Int.eq_ofNat_of_zero_le hz.1
      have hi : i < n := by omega
      have f1 := hG.frozenAt i
      obtain ⟨v, _, q1⟩ := ownI_at hG hi
      by_cases hbig : 10000 < y
      · have eL : lendR zs cs = [] := by unfold lendR; rw [if_pos OK.out, HL'.out, ← HY.out, if_pos hbig]
        have EL := Lib.hid eL
        clear eL hB2 h' hG g0 X ez
        go_wp2
        go_ret
        exact ⟨none, 0, by rw [EL.out]; rfl, by rw [EL.out]; exact .inl ⟨_, rfl, rfl, rfl⟩, hE⟩
      · have eL : lendR zs cs = (zeroK zs cs k).set i y := by
          unfold lendR lastW
          rw [if_pos OK.out, HL'.out, ← HY.out, if_neg hbig, if_neg hm0, ez, Int.toNat_natCast]
        have hlen : ((zeroK zs cs k).set i y).length = n := by rw [List.length_set, zeroK_len, HL.out]
        have hG2 := ownI_set (k := i) hG y
        have hE2 : Ext w (wo.setCell ⟨go, i, none⟩ (.int .i64 y)) := ext_grown hE (grown_set (p := ⟨go, i, none⟩) (g := go) (World.grownBy.refl wo _) rfl _) (fun k e => by cases e; exact hgB)
        have ek : (k : Int) - 1 = ((k - 1 : Nat) : Int) := by omega
        have EL := Lib.hid eL
        have HLEN := Lib.hid hlen
        obtain ⟨k1, hk1⟩ : ∃ k1, k - 1 = k1 := ⟨_, rfl⟩
        rw [hk1] at ek g0
        have hk1' : k1 < k := by omega
        clear eL hlen hB2 h' hG X ez hE HY hk1
        go_wp2
        go_ret
        exact ⟨some ⟨go, 0, none⟩, co, by rw [EL.out, HLEN.out]; rfl, by rw [EL.out, HLEN.out]; exact .inr hG2, hE2⟩
set_option maxHeartbeats 2000000 in
theorem specLendAlong_any (A : Option Addr) (n c : Nat) (zs : List Int) (B : Option Addr) (m d : Nat) (cs : List Int) (w : World) (h : Rd w 1 A n c (cI zs)) (h' : Rd w 1 B m d (cI cs)) :
    Calls Try.prog 15 #[.slice A n c, .slice B m d] w fun e w' => ∃ A' c', e = .returned (.slice A' (lendR zs cs).length c') ∧ Fr w' w.heap.size 3 1 (.slice A' (lendR zs cs).length c') (lendR zs cs).length (cI (lendR zs cs)) ∧ Ext w w' := by
  have hl := h.lenI
  have hle := h.le
  have htop := h.top
  have hl' := h'.lenI
  have hle' := h'.le
  have htop' := h'.top
  obtain ⟨i0, hi0, hz0, hz1, hz2⟩ := info_parts Try.infoInt
  have new : ∀ w' : World, Ext w w' → Fr (w'.alloc (.cells #[] 3)) w.heap.size 3 1 (.slice (some ⟨w'.heap.size, 0, none⟩) 0 0) 0 (cI []) ∧ Ext w (w'.alloc (.cells #[] 3)) := fun w' he =>
    ⟨.inr (Row.lit (n := 0) #[] (by simp) (by unfold maxLen; omega) he.size), he.alloc he.size _⟩
  have NEW := Lib.hid new
  clear new
  obtain ⟨t1, e1⟩ : ∃ t, tValid zs = t := ⟨_, rfl⟩
  obtain ⟨t2, e2⟩ : ∃ t, cValid cs = t := ⟨_, rfl⟩
  have E1 := Lib.hid e1
  have E2 := Lib.hid e2
  by_cases hok : t1 = true ∧ t2 = true
  rotate_left
  · have eL : lendR zs cs = [] := by
      unfold lendR laOk
      rw [e1, e2, if_neg]
      intro hh
      simp only [Bool.and_eq_true] at hh
      exact hok hh.1
    rw [eL]
    clear eL hl hl' e1 e2
    go_enter Try.func15, Try.ntmps15
    go_wp2_with fail
    refine (specTimesValid_any _ _ _ _ _ h).mono ?_; rintro e w1 ⟨rfl, rfl⟩; rw [E1.out]
    have N0 := NEW.out w (Below.refl _ _)
    cases t1
    · clear hok h h'
      go_wp2
      go_ret
      exact ⟨_, _, rfl, N0.1, N0.2⟩
    go_wp2_with fail
    refine (specCallsValid_any _ _ _ _ _ h').mono ?_; rintro e w2 ⟨rfl, hb2⟩; rw [E2.out]
    obtain rfl : t2 = false := by simpa using hok
    have N2 := NEW.out w2 hb2
    clear hok h h' N0
    go_wp2
    go_ret
    exact ⟨_, _, rfl, N2.1, N2.2⟩
  obtain ⟨rfl, rfl⟩ := hok
  have vz := (tValid_iff.1 e1).1
  have hn16 := (tValid_iff.1 e1).2
  have hm16 : m ≤ 16 := by unfold cValid at e2; simp only [Bool.and_eq_true, decide_eq_true_eq] at e2; omega
  rw [hl] at hn16 vz
  have hat : ∀ k, k < m → 0 ≤ at0 cs k := fun k hk => (cValid_at e2 (by omega)).1
  have hbad : ∀ k, k < m → (n : Int) ≤ at0 cs k → lendR zs cs = [] := fun k hk hge => by
    unfold lendR laOk
    rw [if_neg]
    intro hh
    simp only [Bool.and_eq_true, Bool.not_eq_true'] at hh
    have := (List.any_eq_false.1 hh.2) _ (List.mem_of_getElem? (get_at0 (zs := cs) (i := k) (by omega)))
    rw [hl] at this
    simp only [decide_eq_true_eq] at this
    omega
  have hgood : (∀ k, k < m → at0 cs k < n) → laOk zs cs = true := fun hall => by
    unfold laOk
    rw [e1, e2, hl]
    simp only [Bool.and_true, Bool.true_and, Bool.not_eq_true']
    rw [List.any_eq_false]
    intro x hx
    obtain ⟨k, hk, e⟩ := List.getElem_of_mem hx
    have := hall k (by omega)
    rw [at0_get (List.getElem?_eq_some_iff.2 ⟨hk, e⟩)] at this
    simp only [decide_eq_true_eq]; omega
  have hlow : ∀ b off, B = some ⟨b, off, none⟩ → 0 < m → b < w.heap.size := fun b off e hm => by
    obtain ⟨b', off', z, e', _, g0⟩ := h'.atI (k := 0) hm
    rw [e] at e'
    simp only [Option.some.injEq, Addr.mk.injEq, and_true] at e'
    obtain ⟨rfl, rfl⟩ := e'
    exact World.block_lt_of_cell? _ _ g0
  have HLOW := Lib.hid hlow
  clear hlow
  have HL := Lib.hid hl
  have HL' := Lib.hid hl'
  have HAT := Lib.hid hat
  have VZ := Lib.hid vz
  have BAD := Lib.hid hbad
  have GOOD := Lib.hid hgood
  clear hl hl' e1 e2 hat vz hbad hgood
  go_enter Try.func15, Try.ntmps15
  go_wp2_with fail
  refine (specTimesValid_any _ _ _ _ _ h).mono ?_; rintro e w1 ⟨rfl, rfl⟩; rw [E1.out]
  go_wp2_with fail
  refine (specCallsValid_any _ _ _ _ _ h').mono ?_; rintro e w2 ⟨rfl, hb2⟩; rw [E2.out]
  obtain ⟨hF1, hal1⟩ := NEW.out w2 hb2
  have hR1 := h.below hal1
  have hl1 := hal1.size
  go_upto_region 4 with (at_builtin; refine wpList_append_fr _ rfl _ _ 23 rfl w.heap.size 3 i0 _ 1 8 Try.underlying23 hi0 hz0 hz1 hz2 rfl (by omega) _ 0 _ rfl hF1 _ n c _ rfl hR1 (one_cI _) (by unfold maxLen; omega) (by omega) hl1 ?_; intro Ao co w3 rowx hFx hgx hrowx)
  have hbb := ext_grown hal1 hgx (fun k hk => (hrowx k hk).1)
  rw [Nat.zero_add, show cI [] ++ cI zs = cI zs from rfl] at hFx
  clear hF1 hal1 hR1 hl1 hgx hrowx E1 E2 hb2
  go_wp2
  go_loopw [6, 7] (fun s i wr => ∃ (k : Nat) (y : Int), k ≤ m ∧ i = .int .i64 k ∧ s = .int .i64 y ∧ 0 ≤ y ∧ y ≤ 10000 * k ∧ Hid (y = sumK zs cs k) ∧ Hid (∀ j, j < k → at0 cs j < n) ∧ Fr wr w.heap.size 3 1 (.slice Ao n co) n (cI (zeroK zs cs k)) ∧ Ext w wr) (fun _ i _ => m - (intOf i).toNat)
  case atStart => exact ⟨0, 0, Nat.zero_le _, rfl, rfl, by omega, by omega, rfl, Lib.hid (fun j hj => absurd hj (by omega)), hFx, hbb⟩
  case round =>
    clear hFx hbb
    obtain ⟨k, y, hk, rfl, rfl, hy0, hy1, HY, HC, hG, hE⟩ := hrel
    rename World => wo
    have hB2 := h'.below hE
    have hA2 := h.below hE
    by_cases hlt : k < m
    · obtain ⟨b, off, z, hBB, X, g0⟩ := hB2.atI hlt
      subst hBB
      have hz := HAT.out k hlt
      have ez : at0 cs k = z := at0_get X.out
      rw [ez] at hz
      obtain ⟨i, rfl⟩ := Int.eq_ofNat_of_zero_le hz
      by_cases hi : i < n
      · obtain ⟨go, hgo, hgB, hgl, hG'⟩ := hG.form (by omega)
        subst hgo
        obtain ⟨ba, oa, v, hAA, Y, ga⟩ := hA2.atI hi
        subst hAA
        have hv : at0 zs i = v := at0_get Y.out
        have vv := VZ.out i hi
        rw [hv] at vv
        obtain ⟨u, _, q1⟩ := ownI_at hG' hi
        have f1 := hG'.frozenAt i
        have hG2 := ownI_set (k := i) hG' 0
        have hE2 : Ext w (wo.setCell ⟨go, i, none⟩ (.int .i64 0)) := ext_grown hE (grown_set (p := ⟨go, i, none⟩) (g := go) (World.grownBy.refl wo _) rfl _) (fun k e => by cases e; exact hgB)
        have e3 : zeroK zs cs (k + 1) = (zeroK zs cs k).set i 0 := by show (zeroK zs cs k).set (at0 cs k).toNat 0 = _; rw [ez, Int.toNat_natCast]
        have e4 : sumK zs cs (k + 1) = y + v := by show sumK zs cs k + at0 zs (at0 cs k).toNat = _; rw [ez, Int.toNat_natCast, hv, HY.out]
        have e5 : ∀ j, j < k + 1 → at0 cs j < n := fun j hj => by
          by_cases hjk : j < k
          · exact HC.out j hjk
          · obtain rfl : j = k := by omega
            rw [ez]; omega
        rw [← e3] at hG2
        have E4 := Lib.hid e4.symm
        have E5 := Lib.hid e5
        have nob : b ≠ go := by have := HLOW.out b off rfl (by omega); omega
        clear e3 e4 e5 hv ez X Y hB2 hA2 h' h hG hG' hE HY HC
        go_wp2
        go_roundw
        case rel => exact ⟨k + 1, y + v, by omega, by go_num, by go_num, by omega, by omega, E4, E5, .inr hG2, hE2⟩
        case measure => simp [intOf]; omega
      · have eL := BAD.out k hlt (by rw [ez]; omega)
        have EL := Lib.hid eL
        have N := NEW.out wo hE
        clear eL hB2 hA2 h h' hG X ez
        go_wp2
        go_ret
        exact ⟨_, _, by rw [EL.out]; rfl, by rw [EL.out]; exact N.1, N.2⟩
    · obtain rfl : k = m := by omega
      have OK := Lib.hid (GOOD.out HC.out)
      by_cases hbig : 10000 < y
      · have eL : lendR zs cs = [] := by unfold lendR; rw [if_pos OK.out, HL'.out, ← HY.out, if_pos hbig]
        have EL := Lib.hid eL
        have N := NEW.out wo hE
        clear eL hB2 hA2 h h' hG
        go_wp2
        go_ret
        exact ⟨_, _, by rw [EL.out]; rfl, by rw [EL.out]; exact N.1, N.2⟩
      by_cases hm0 : k = 0
      · subst hm0
        have hcs : cs.length = 0 := HL'.out
        have eL : lendR zs cs = zs := by unfold lendR lastW; rw [if_pos OK.out, hcs, if_neg (by unfold sumK; omega), if_pos rfl]
        have EL := Lib.hid eL
        clear eL hB2 hA2 h h'
        go_wp2
        go_ret
        exact ⟨Ao, co, by rw [EL.out, HL.out]; rfl, by rw [EL.out, HL.out]; exact hG, hE⟩
      obtain ⟨b, off, z, hBB, X, g0⟩ := hB2.atI (k := k - 1) (by omega)
      subst hBB
      have hz := HAT.out (k - 1) (by omega)
      have hz2 := HC.out (k - 1) (by omega)
      have ez : at0 cs (k - 1) = z := at0_get X.out
      rw [ez] at hz hz2
      obtain ⟨i, rfl⟩ := Int.eq_ofNat_of_zero_le hz
      have hi : i < n := by omega
      obtain ⟨go, hgo, hgB, hgl, hG'⟩ := hG.form (by omega)
      subst hgo
      have f1 := hG'.frozenAt i
      obtain ⟨v, _, q1⟩ := ownI_at hG' hi
      have eL : lendR zs cs = (zeroK zs cs k).set i y := by
        unfold lendR lastW
        rw [if_pos OK.out, HL'.out, ← HY.out, if_neg hbig, if_neg hm0, ez, Int.toNat_natCast]
      have hlen : ((zeroK zs cs k).set i y).length = n := by rw [List.length_set, zeroK_len, HL.out]
      have hG2 := ownI_set (k := i) hG' y
      have hE2 : Ext w (wo.setCell ⟨go, i, none⟩ (.int .i64 y)) := ext_grown hE (grown_set (p := ⟨go, i, none⟩) (g := go) (World.grownBy.refl wo _) rfl _) (fun k e => by cases e; exact hgB)
      have ek : (k : Int) - 1 = ((k - 1 : Nat) : Int) := by omega
      have EL := Lib.hid eL
      have HLEN := Lib.hid hlen
      obtain ⟨k1, hk1⟩ : ∃ k1, k - 1 = k1 := ⟨_, rfl⟩
      rw [hk1] at ek g0
      have hk1' : k1 < k := by omega
      clear eL hlen hB2 hA2 h h' hG hG' X ez hE HY HC hk1
      go_wp2
      go_ret
      exact ⟨some ⟨go, 0, none⟩, co, by rw [EL.out, HLEN.out]; rfl, by rw [EL.out, HLEN.out]; exact .inr hG2, hE2⟩
end Go.Proofs.Ytbpkclhpjelelaa
