/-
  Lending and using time, as the program and as the reference do it; the sum of amounts.
-/
import Derived.Test.YtbpkclhpjelelaaTiL
import Derived.Test.YtbpkclhpjelelaaSlI
namespace Go.Proofs.Ytbpkclhpjelelaa
open Go.RowKit

theorem sum_take {zs : List Int} {k : Nat} {z : Int} (h : zs[k]? = some z) : (zs.take (k + 1)).sum = (zs.take k).sum + z := by rw [take_of_get h, List.sum_append]; simp
set_option maxHeartbeats 400000 in
theorem total_any (A : Option Addr) (n c : Nat) (zs : List Int) (w : World) (h : Rd w 1 A n c (cI zs)) (hv : tValid zs = true) :
    Calls Try.prog 24 #[.slice A n c] w fun e w' => e = .returned (.int .i64 zs.sum) ∧ w = w' := by
  have hl := h.lenI
  have hle := h.le
  have htop := h.top
  have hb : ∀ (k : Nat) (z : Int), zs[k]? = some z → 0 ≤ z ∧ z ≤ 10000 := fun k z hz => by
    have := (tValid_iff.1 hv).1 k (List.getElem?_eq_some_iff.1 hz).1
    rwa [at0_get hz] at this
  have hn := (tValid_iff.1 hv).2
  have HL := Lib.hid hl
  have HB := Lib.hid hb
  rw [hl] at hn
  clear hl hb hv
  go_enter Try.func24, Try.ntmps24
  go_wp2
  go_loopw [3, 4] (fun s i wr => ∃ (k : Nat) (y : Int), k ≤ n ∧ i = .int .i64 k ∧ s = .int .i64 y ∧ w = wr ∧ 0 ≤ y ∧ y ≤ 10000 * k ∧ Hid (y = (zs.take k).sum)) (fun _ i _ => n - (intOf i).toNat)
  case atStart => exact ⟨0, 0, Nat.zero_le _, rfl, rfl, rfl, by omega, by omega, Lib.hid (by simp)⟩
  case round =>
    obtain ⟨k, y, hk, rfl, rfl, rfl, hy0, hy1, H⟩ := hrel
    by_cases hlt : k < n
    · obtain ⟨b, off, z, rfl, X, g0⟩ := h.atI hlt
      have hz := HB.out _ _ X.out
      have H2 := Lib.hid (show y + z = (zs.take (k + 1)).sum by rw [sum_take X.out, ← H.out])
      clear H X h
      go_wp2
      go_roundw
      case rel => exact ⟨k + 1, y + z, by omega, by go_num, by go_num, by first | rfl | trivial, by omega, by omega, H2⟩
      case measure => simp [intOf]; omega
    · have e : y = zs.sum := by rw [H.out, List.take_of_length_le (by rw [HL.out]; omega)]
      have E := Lib.hid e
      clear e h H
      go_wp2
      go_ret
      exact ⟨ret_int E.out, rfl⟩

set_option maxHeartbeats 400000 in
theorem l15Ok_any (A : Option Addr) (n c : Nat) (zs : List Int) (a b : Int) (w : World) (h : Rd w 1 A n c (cI zs)) :
    Calls Try.prog 40 #[.slice A n c, .int .i64 a, .int .i64 b] w fun e w' => e = .returned (.bool (tValid zs && inB a 0 ((n : Int) - 1) && inB b 0 ((n : Int) - 1))) ∧ w = w' := by
  have hle := h.le
  have htop := h.top
  obtain ⟨t1, e1⟩ : ∃ t, tValid zs = t := ⟨_, rfl⟩
  obtain ⟨t2, e2⟩ : ∃ t, inB a 0 ((n : Int) - 1) = t := ⟨_, rfl⟩
  obtain ⟨t3, e3⟩ : ∃ t, inB b 0 ((n : Int) - 1) = t := ⟨_, rfl⟩
  rw [e1, e2, e3]
  have E2 := Lib.hid e2
  have E3 := Lib.hid e3
  clear e2 e3
  go_enter Try.func40, Try.ntmps40
  cases t1
  · go_wp2_with fail
    refine (specTimesValid_any _ _ _ _ _ h).mono ?_; rintro e w' ⟨rfl, rfl⟩; rw [e1]
    clear h e1
    go_wp2
    go_ret
    exact ⟨rfl, rfl⟩
  · go_wp2_with fail
    refine (specTimesValid_any _ _ _ _ _ h).mono ?_; rintro e w' ⟨rfl, rfl⟩; rw [e1]
    clear h e1
    go_wp2_with fail
    refine (l1In_any _ _ _ _).mono ?_; rintro e w' ⟨rfl, rfl⟩; rw [E2.out]
    cases t2
    · go_wp2
      go_ret
      exact ⟨rfl, rfl⟩
    · go_wp2_with fail
      refine (l1In_any _ _ _ _).mono ?_; rintro e w' ⟨rfl, rfl⟩; rw [E3.out]
      go_wp2
      go_ret
      exact ⟨rfl, rfl⟩

theorem okT_n {zs : List Int} {n : Nat} (hl : zs.length = n) (a b x : Int) : okT zs a b x = (tValid zs && inB a 0 ((n : Int) - 1) && inB b 0 ((n : Int) - 1) && decide (0 ≤ x)) := by unfold okT; rw [hl]

theorem lend_no {zs : List Int} {a b x : Int} (h : okT zs a b x = false) : lendL zs a b x = [] ∧ lendO zs a b x = false := by
  unfold lendL lendO; rw [h]; exact ⟨rfl, rfl⟩
theorem lend_stay {zs : List Int} {a b x : Int} (h : okT zs a b x = true) (h2 : lendB zs a.toNat b.toNat x = false) : lendL zs a b x = zs ∧ lendO zs a b x = false := by
  unfold lendL lendO; rw [h, h2]; exact ⟨rfl, rfl⟩
theorem lend_go {zs : List Int} {a b x : Int} (h : okT zs a b x = true) (h2 : lendB zs a.toNat b.toNat x = true) : lendL zs a b x = lendT zs a.toNat b.toNat x ∧ lendO zs a b x = true := by
  unfold lendL lendO; rw [h, h2]; exact ⟨rfl, rfl⟩

set_option maxHeartbeats 1000000 in
theorem LendTime_any (A : Option Addr) (n c : Nat) (zs : List Int) (a b x : Int) (w : World) (h : Rd w 1 A n c (cI zs)) (hn : n ≤ 1048576) :
    Calls Try.prog 13 #[.slice A n c, .int .i64 a, .int .i64 b, .int .i64 x] w fun e w' => ∃ A' n' c', e = .returned (.tuple #[.slice A' n' c', .bool (lendO zs a b x)]) ∧ Fr w' w.heap.size 3 1 (.slice A' n' c') n' (cI (lendL zs a b x)) ∧ Ext w w' := by
  have hl := h.lenI
  have hle := h.le
  have htop := h.top
  have eok := okT_n hl a b x
  by_cases h1 : tValid zs = true
  rotate_left
  · have h1' : tValid zs = false := by simpa using h1
    obtain ⟨eL, eO⟩ := lend_no (a := a) (b := b) (x := x) (zs := zs) (by rw [eok, h1']; rfl)
    rw [eL, eO]
    clear eL eO eok hl h1
    go_enter Try.func13, Try.ntmps13
    go_wp2_with fail
    refine (TimesValid_any _ _ _ _ _ h).mono ?_; rintro e w1 ⟨rfl, hb⟩; rw [h1']
    clear h h1'
    go_wp2
    go_ret2
    exact ⟨_, _, _, rfl, .inl ⟨_, rfl, rfl, rfl⟩, hb⟩
  by_cases h2 : inB a 0 ((n : Int) - 1) = true
  rotate_left
  · have h2' : inB a 0 ((n : Int) - 1) = false := by simpa using h2
    obtain ⟨eL, eO⟩ := lend_no (a := a) (b := b) (x := x) (zs := zs) (by rw [eok, h1, h2']; rfl)
    rw [eL, eO]
    have H2 := Lib.hid h2'
    clear eL eO eok hl h2 h2'
    go_enter Try.func13, Try.ntmps13
    go_wp2_with fail
    refine (TimesValid_any _ _ _ _ _ h).mono ?_; rintro e w1 ⟨rfl, hb⟩; rw [h1]
    clear h h1
    go_wp2_with fail
    refine (in_any _ _ _ _).mono ?_; rintro e w2 ⟨rfl, rfl⟩; rw [H2.out]
    go_wp2
    go_ret2
    exact ⟨_, _, _, rfl, .inl ⟨_, rfl, rfl, rfl⟩, hb⟩
  by_cases h3 : inB b 0 ((n : Int) - 1) = true
  rotate_left
  · have h3' : inB b 0 ((n : Int) - 1) = false := by simpa using h3
    obtain ⟨eL, eO⟩ := lend_no (a := a) (b := b) (x := x) (zs := zs) (by rw [eok, h1, h2, h3']; rfl)
    rw [eL, eO]
    have H2 := Lib.hid h2
    have H3 := Lib.hid h3'
    clear eL eO eok hl h2 h3 h3'
    go_enter Try.func13, Try.ntmps13
    go_wp2_with fail
    refine (TimesValid_any _ _ _ _ _ h).mono ?_; rintro e w1 ⟨rfl, hb⟩; rw [h1]
    clear h h1
    go_wp2_with fail
    refine (in_any _ _ _ _).mono ?_; rintro e w2 ⟨rfl, rfl⟩; rw [H2.out]
    go_wp2_with fail
    refine (in_any _ _ _ _).mono ?_; rintro e w2 ⟨rfl, rfl⟩; rw [H3.out]
    go_wp2
    go_ret2
    exact ⟨_, _, _, rfl, .inl ⟨_, rfl, rfl, rfl⟩, hb⟩
  by_cases hx : x < 0
  · obtain ⟨eL, eO⟩ := lend_no (a := a) (b := b) (x := x) (zs := zs) (by rw [eok, h1, h2, h3, decide_eq_false (by omega)]; rfl)
    rw [eL, eO]
    have H2 := Lib.hid h2
    have H3 := Lib.hid h3
    clear eL eO eok hl h2 h3
    go_enter Try.func13, Try.ntmps13
    go_wp2_with fail
    refine (TimesValid_any _ _ _ _ _ h).mono ?_; rintro e w1 ⟨rfl, hb⟩; rw [h1]
    clear h h1
    go_wp2_with fail
    refine (in_any _ _ _ _).mono ?_; rintro e w2 ⟨rfl, rfl⟩; rw [H2.out]
    go_wp2_with fail
    refine (in_any _ _ _ _).mono ?_; rintro e w2 ⟨rfl, rfl⟩; rw [H3.out]
    go_wp2
    go_ret2
    exact ⟨_, _, _, rfl, .inl ⟨_, rfl, rfl, rfl⟩, hb⟩
  have hok : okT zs a b x = true := by rw [eok, h1, h2, h3, decide_eq_true (by omega)]; rfl
  have ia := inB_iff.1 h2
  have ib := inB_iff.1 h3
  obtain ⟨i, rfl⟩ := Int.eq_ofNat_of_zero_le ia.1
  obtain ⟨j, rfl⟩ := Int.eq_ofNat_of_zero_le ib.1
  have hi : i < n := by omega
  have hj : j < n := by omega
  have hx0 : 0 ≤ x := by omega
  have va := (tValid_iff.1 h1).1 i (by omega)
  have vb := (tValid_iff.1 h1).1 j (by omega)
  have H2 := Lib.hid h2
  have H3 := Lib.hid h3
  have HL := Lib.hid hl
  have L1 := Lib.hid (fun h2 => lend_stay (zs := zs) (a := i) (b := j) (x := x) hok h2)
  have L2 := Lib.hid (fun h2 => lend_go (zs := zs) (a := i) (b := j) (x := x) hok h2)
  rw [Int.toNat_natCast, Int.toNat_natCast] at L1 L2
  obtain ⟨za, hza⟩ : ∃ z, at0 zs i = z := ⟨_, rfl⟩
  obtain ⟨zb, hzb⟩ : ∃ z, at0 zs j = z := ⟨_, rfl⟩
  have G1 := Lib.hid (get_at0 (zs := zs) (i := i) (by omega))
  have G2 := Lib.hid (get_at0 (zs := zs) (i := j) (by omega))
  have LB := Lib.hid (show lendB zs i j x = (!decide (i = j) && decide (x ≤ za) && decide (zb + x ≤ 10000)) by unfold lendB; rw [hza, hzb])
  have LT := Lib.hid (show lendT zs i j x = (zs.set i (za - x)).set j (zb + x) by unfold lendT; rw [hza, hzb])
  rw [hza] at va G1
  rw [hzb] at vb G2
  clear hok eok ia ib h2 h3 hl hza hzb
  go_enter Try.func13, Try.ntmps13
  go_wp2_with fail
  refine (TimesValid_any _ _ _ _ _ h).mono ?_; rintro e w1 ⟨rfl, hb⟩; rw [h1]
  have hA1 := h.below hb
  clear h1
  go_wp2_with fail
  refine (in_any _ _ _ _).mono ?_; rintro e w2 ⟨rfl, rfl⟩; rw [H2.out]
  go_wp2_with fail
  refine (in_any _ _ _ _).mono ?_; rintro e w2 ⟨rfl, rfl⟩; rw [H3.out]
  go_wp2_with fail
  refine (cloneI_any _ _ _ _ _ hA1 (one_cI _) hn).mono ?_; rintro e w2 ⟨Ao, co, rfl, hF, hb2⟩
  have hA2 := hA1.below hb2
  obtain ⟨b1, o1, z1, hA, X1, g1⟩ := hA2.atI hi
  obtain ⟨b2, o2, z2, hA', X2, g2⟩ := hA2.atI hj
  rw [hA] at hA'
  simp only [Option.some.injEq, Addr.mk.injEq, and_true] at hA'
  obtain ⟨rfl, rfl⟩ := hA'
  subst hA
  have e1 : z1 = za := by have := X1.out.symm.trans G1.out; simpa using this
  have e2 : z2 = zb := by have := X2.out.symm.trans G2.out; simpa using this
  subst e1 e2
  have hbb := hb.trans hb2
  have hF' := hF.mono hb.size
  obtain ⟨go, hgo, hgB, hgl, hG⟩ := hF'.form (by omega)
  subst hgo
  clear h hA1 hA2 X1 X2 H2 H3 hF hb hb2
  by_cases c1 : z1 < x
  · obtain ⟨eL, eO⟩ := L1.out (by rw [LB.out, decide_eq_false (show ¬ x ≤ z1 by omega)]; simp)
    have EL := Lib.hid eL
    have EO := Lib.hid eO
    clear eL eO hG
    go_wp2
    go_ret2
    exact ⟨_, _, _, by rw [EO.out]; rfl, by rw [EL.out]; exact hF', hbb⟩
  by_cases c2 : 10000 < z2 + x
  · obtain ⟨eL, eO⟩ := L1.out (by rw [LB.out, decide_eq_false (show ¬ z2 + x ≤ 10000 by omega)]; simp)
    have EL := Lib.hid eL
    have EO := Lib.hid eO
    clear eL eO hG
    go_wp2
    go_ret2
    exact ⟨_, _, _, by rw [EO.out]; rfl, by rw [EL.out]; exact hF', hbb⟩
  by_cases c3 : i = j
  · obtain ⟨eL, eO⟩ := L1.out (by rw [LB.out, decide_eq_true c3]; simp)
    have EL := Lib.hid eL
    have EO := Lib.hid eO
    clear eL eO hG
    subst c3
    have e3 : z1 = z2 := by have := G1.out.symm.trans G2.out; simpa using this
    subst e3
    have c4 : ((i : Int) == (i : Int)) = true := by rw [beq_iff_eq]
    go_wp2
    go_ret2
    exact ⟨_, _, _, by rw [EO.out]; rfl, by rw [EL.out]; exact hF', hbb⟩
  · obtain ⟨eL, eO⟩ := L2.out (by rw [LB.out, decide_eq_false c3, decide_eq_true (show x ≤ z1 by omega), decide_eq_true (show z2 + x ≤ 10000 by omega)]; rfl)
    rw [LT.out] at eL
    have EL := Lib.hid eL
    have EO := Lib.hid eO
    have c4 : ((i : Int) == (j : Int)) = false := by rw [beq_eq_false_iff_ne]; omega
    have hG2 := ownI_set (k := i) hG (z1 - x)
    have hG3 := ownI_set (k := j) hG2 (z2 + x)
    have q1 : w2.cell? ⟨go, i, none⟩ = some (.int .i64 z1) := by rw [hG.cellAt i (by omega)]; unfold cI; rw [List.getElem?_map, G1.out]; rfl
    have q2 : w2.cell? ⟨go, j, none⟩ = some (.int .i64 z2) := by rw [hG.cellAt j (by omega)]; unfold cI; rw [List.getElem?_map, G2.out]; rfl
    have f1 := hG.frozenAt i
    have f2 := hG.frozenAt j
    have hij : j ≠ i := fun e => c3 e.symm
    have hbb2 : Ext w ((w2.setCell ⟨go, i, none⟩ (.int .i64 (z1 - x))).setCell ⟨go, j, none⟩ (.int .i64 (z2 + x))) :=
      ext_grown hbb (grown_set (p := ⟨go, j, none⟩) (g := go) (grown_set (p := ⟨go, i, none⟩) (g := go) (World.grownBy.refl w2 _) rfl _) rfl _) (fun k e => by cases e; exact hgB)
    clear eL eO hG hG2 hF' hbb c3
    go_wp2
    go_ret2
    exact ⟨_, _, _, by rw [EO.out]; rfl, by rw [EL.out]; exact .inr hG3, hbb2⟩
end Go.Proofs.Ytbpkclhpjelelaa
