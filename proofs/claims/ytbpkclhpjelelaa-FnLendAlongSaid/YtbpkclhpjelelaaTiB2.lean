/-
  Lending time as the reference does it; using time, as the program and as the reference do it.
-/
import Derived.Test.YtbpkclhpjelelaaTiB
import Derived.Test.YtbpkclhpjelelaaRun
import Derived.Deep.Cut
namespace Go.Proofs.Ytbpkclhpjelelaa
open Go.RowKit

theorem use_no {zs : List Int} {a x : Int} (h : okT zs a a x = false) : useL zs a x = [] ∧ useN zs a x = 0 := by
  unfold useL useN; rw [h]; exact ⟨rfl, rfl⟩
theorem use_go {zs : List Int} {a x : Int} (h : okT zs a a x = true) : useL zs a x = zs.set a.toNat (at0 zs a.toNat - min x (at0 zs a.toNat)) ∧ useN zs a x = min x (at0 zs a.toNat) := by
  unfold useL useN; rw [h]; exact ⟨rfl, rfl⟩
theorem fr_empty (w : World) : Fr (w.alloc (.cells #[] 3)) w.heap.size 3 1 (.slice (some ⟨w.heap.size, 0, none⟩) 0 0) 0 (cI []) := .inr (Row.lit (n := 0) #[] (by simp) (by unfold maxLen; omega) (Nat.le_refl _))
theorem okT_ok {zs : List Int} {n : Nat} (hl : zs.length = n) {a b x : Int} {t : Bool} (h : (tValid zs && inB a 0 ((n : Int) - 1) && inB b 0 ((n : Int) - 1)) = t) (hx : 0 ≤ x) : okT zs a b x = t := by
  rw [okT_n hl, h, decide_eq_true hx, Bool.and_true]
theorem okT_neg {zs : List Int} {a b x : Int} (hx : x < 0) : okT zs a b x = false := by
  unfold okT; rw [decide_eq_false (by omega), Bool.and_false]

set_option maxHeartbeats 1000000 in
theorem specLendTime_any (A : Option Addr) (n c : Nat) (zs : List Int) (a b x : Int) (w : World) (h : Rd w 1 A n c (cI zs)) (hn : n ≤ 1048576) :
    Calls Try.prog 26 #[.slice A n c, .int .i64 a, .int .i64 b, .int .i64 x] w fun e w' => ∃ A' n' c', e = .returned (.tuple #[.slice A' n' c', .bool (lendO zs a b x)]) ∧ Fr w' w.heap.size 3 1 (.slice A' n' c') n' (cI (lendL zs a b x)) ∧ Ext w w' := by
  have hl := h.lenI
  have hle := h.le
  have htop := h.top
  obtain ⟨i0, hi0, hz0, hz1, hz2⟩ := info_parts Try.infoInt
  obtain ⟨t, ht⟩ : ∃ t, (tValid zs && inB a 0 ((n : Int) - 1) && inB b 0 ((n : Int) - 1)) = t := ⟨_, rfl⟩
  by_cases hno : t = false ∨ x < 0
  · have hk : okT zs a b x = false := by
      rcases hno with h0 | h0
      · by_cases hx : x < 0
        · exact okT_neg hx
        · rw [okT_ok hl ht (by omega), h0]
      · exact okT_neg h0
    obtain ⟨eL, eO⟩ := lend_no hk
    rw [eL, eO]
    have hal : Ext w (w.alloc (.cells #[] 3)) := (Below.refl _ _).alloc (Nat.le_refl _) _
    have hF := fr_empty w
    clear eL eO hk hl
    go_enter Try.func26, Try.ntmps26
    go_wp2_with fail
    refine (l15Ok_any _ _ _ _ _ _ _ h).mono ?_; rintro e w1 ⟨rfl, rfl⟩; rw [ht]
    clear h ht
    cases t
    · clear hno
      go_wp2
      go_ret2
      exact ⟨_, _, _, rfl, hF, hal⟩
    · have hx : x < 0 := by simpa using hno
      clear hno
      go_wp2
      go_ret2
      exact ⟨_, _, _, rfl, hF, hal⟩
  obtain ⟨rfl, hx0⟩ : t = true ∧ 0 ≤ x := by
    cases t
    · simp at hno
    · simp at hno; exact ⟨rfl, by omega⟩
  have hok := okT_ok hl ht hx0
  have htt := ht
  simp only [Bool.and_eq_true] at htt
  obtain ⟨⟨h1, h2⟩, h3⟩ := htt
  have ia := inB_iff.1 h2
  have ib := inB_iff.1 h3
  obtain ⟨i, rfl⟩ := Int.eq_ofNat_of_zero_le ia.1
  obtain ⟨j, rfl⟩ := Int.eq_ofNat_of_zero_le ib.1
  have hi : i < n := by omega
  have hj : j < n := by omega
  have va := (tValid_iff.1 h1).1 i (by omega)
  have vb := (tValid_iff.1 h1).1 j (by omega)
  have L1 := Lib.hid (fun h2 => lend_stay (zs := zs) (a := i) (b := j) (x := x) hok h2)
  have L2 := Lib.hid (fun h2 => lend_go (zs := zs) (a := i) (b := j) (x := x) hok h2)
  rw [Int.toNat_natCast, Int.toNat_natCast] at L1 L2
  obtain ⟨z1, hza⟩ : ∃ z, at0 zs i = z := ⟨_, rfl⟩
  obtain ⟨z2, hzb⟩ : ∃ z, at0 zs j = z := ⟨_, rfl⟩
  have G1 := Lib.hid (get_at0 (zs := zs) (i := i) (by omega))
  have G2 := Lib.hid (get_at0 (zs := zs) (i := j) (by omega))
  have LB := Lib.hid (show lendB zs i j x = (!decide (i = j) && decide (x ≤ z1) && decide (z2 + x ≤ 10000)) by unfold lendB; rw [hza, hzb])
  have LT := Lib.hid (show lendT zs i j x = (zs.set i (z1 - x)).set j (z2 + x) by unfold lendT; rw [hza, hzb])
  rw [hza] at va G1
  rw [hzb] at vb G2
  have HT := Lib.hid ht
  clear hok ia ib h2 h3 hl hza hzb h1 hno ht
  have hal1 : Ext w (w.alloc (.cells #[] 3)) := (Below.refl _ _).alloc (Nat.le_refl _) _
  have hF1 := fr_empty w
  have hR1 := h.below hal1
  have hl1 := hal1.size
  go_enter Try.func26, Try.ntmps26
  go_wp2_with fail
  refine (l15Ok_any _ _ _ _ _ _ _ h).mono ?_; rintro e w1 ⟨rfl, rfl⟩; rw [HT.out]
  go_upto_region 4 with (at_builtin; refine wpList_append_fr _ rfl _ _ 23 rfl w.heap.size 3 i0 _ 1 8 Try.underlying23 hi0 hz0 hz1 hz2 rfl (by omega) _ 0 _ rfl hF1 _ n c _ rfl hR1 (one_cI _) (by unfold maxLen; omega) (by omega) hl1 ?_; intro Ax co w2 rowx hFx hgx hrowx)
  have hbb := ext_grown hal1 hgx (fun k hk => (hrowx k hk).1)
  rw [Nat.zero_add, show cI [] ++ cI zs = cI zs from rfl] at hFx
  have hA2 := h.below hbb
  clear hal1 hF1 hR1 hl1 hgx hrowx
  obtain ⟨b1, o1, y1, hA, X1, g1⟩ := hA2.atI hi
  obtain ⟨b2, o2, y2, hA', X2, g2⟩ := hA2.atI hj
  rw [hA] at hA'
  simp only [Option.some.injEq, Addr.mk.injEq, and_true] at hA'
  obtain ⟨rfl, rfl⟩ := hA'
  subst hA
  have e1 : y1 = z1 := by have := X1.out.symm.trans G1.out; simpa using this
  have e2 : y2 = z2 := by have := X2.out.symm.trans G2.out; simpa using this
  subst e1 e2
  have hF' := hFx
  obtain ⟨go, hgo, hgB, hgl, hG⟩ := hF'.form (by omega)
  subst hgo
  clear h hA2 X1 X2 hFx
  by_cases c3 : i = j
  · obtain ⟨eL, eO⟩ := L1.out (by rw [LB.out, decide_eq_true c3]; simp)
    have EL := Lib.hid eL
    have EO := Lib.hid eO
    clear eL eO hG
    subst c3
    have e3 : y1 = y2 := by have := G1.out.symm.trans G2.out; simpa using this
    subst e3
    have c4 : ((i : Int) == (i : Int)) = true := by rw [beq_iff_eq]
    go_wp2
    go_ret2
    exact ⟨_, _, _, by rw [EO.out]; rfl, by rw [EL.out]; exact hF', hbb⟩
  have c4 : ((i : Int) == (j : Int)) = false := by rw [beq_eq_false_iff_ne]; omega
  by_cases c1 : y1 < x
  · obtain ⟨eL, eO⟩ := L1.out (by rw [LB.out, decide_eq_false (show ¬ x ≤ y1 by omega)]; simp)
    have EL := Lib.hid eL
    have EO := Lib.hid eO
    clear eL eO hG
    go_wp2
    go_ret2
    exact ⟨_, _, _, by rw [EO.out]; rfl, by rw [EL.out]; exact hF', hbb⟩
  by_cases c2 : 10000 - y2 < x
  · obtain ⟨eL, eO⟩ := L1.out (by rw [LB.out, decide_eq_false (show ¬ y2 + x ≤ 10000 by omega)]; simp)
    have EL := Lib.hid eL
    have EO := Lib.hid eO
    clear eL eO hG
    go_wp2
    go_ret2
    exact ⟨_, _, _, by rw [EO.out]; rfl, by rw [EL.out]; exact hF', hbb⟩
  · obtain ⟨eL, eO⟩ := L2.out (by rw [LB.out, decide_eq_false c3, decide_eq_true (show x ≤ y1 by omega), decide_eq_true (show y2 + x ≤ 10000 by omega)]; rfl)
    rw [LT.out] at eL
    have EL := Lib.hid eL
    have EO := Lib.hid eO
    have hG2 := ownI_set (k := i) hG (y1 - x)
    have hG3 := ownI_set (k := j) hG2 (y2 + x)
    have q1 : w2.cell? ⟨go, i, none⟩ = some (.int .i64 y1) := by rw [hG.cellAt i (by omega)]; unfold cI; rw [List.getElem?_map, G1.out]; rfl
    have q2 : w2.cell? ⟨go, j, none⟩ = some (.int .i64 y2) := by rw [hG.cellAt j (by omega)]; unfold cI; rw [List.getElem?_map, G2.out]; rfl
    have f1 := hG.frozenAt i
    have f2 := hG.frozenAt j
    have hij : j ≠ i := fun e => c3 e.symm
    have hbb2 : Ext w ((w2.setCell ⟨go, i, none⟩ (.int .i64 (y1 - x))).setCell ⟨go, j, none⟩ (.int .i64 (y2 + x))) :=
      ext_grown hbb (grown_set (p := ⟨go, j, none⟩) (g := go) (grown_set (p := ⟨go, i, none⟩) (g := go) (World.grownBy.refl w2 _) rfl _) rfl _) (fun k e => by cases e; exact hgB)
    clear eL eO hG hG2 hF' hbb c3
    go_wp2
    go_ret2
    exact ⟨_, _, _, by rw [EO.out]; rfl, by rw [EL.out]; exact .inr hG3, hbb2⟩

set_option maxHeartbeats 1000000 in
theorem UseTime_any (A : Option Addr) (n c : Nat) (zs : List Int) (a x : Int) (w : World) (h : Rd w 1 A n c (cI zs)) (hn : n ≤ 1048576) :
    Calls Try.prog 22 #[.slice A n c, .int .i64 a, .int .i64 x] w fun e w' => ∃ A' n' c', e = .returned (.tuple #[.slice A' n' c', .int .i64 (useN zs a x)]) ∧ Fr w' w.heap.size 3 1 (.slice A' n' c') n' (cI (useL zs a x)) ∧ Ext w w' := by
  have hl := h.lenI
  have hle := h.le
  have htop := h.top
  have eok := okT_n hl a a x
  by_cases h1 : tValid zs = true
  rotate_left
  · have h1' : tValid zs = false := by simpa using h1
    obtain ⟨eL, eO⟩ := use_no (a := a) (x := x) (zs := zs) (by rw [eok, h1']; rfl)
    rw [eL, eO]
    clear eL eO eok hl h1
    go_enter Try.func22, Try.ntmps22
    go_wp2_with fail
    refine (TimesValid_any _ _ _ _ _ h).mono ?_; rintro e w1 ⟨rfl, hb⟩; rw [h1']
    clear h h1'
    go_wp2
    go_ret2
    exact ⟨_, _, _, rfl, .inl ⟨_, rfl, rfl, rfl⟩, hb⟩
  by_cases h2 : inB a 0 ((n : Int) - 1) = true
  rotate_left
  · have h2' : inB a 0 ((n : Int) - 1) = false := by simpa using h2
    obtain ⟨eL, eO⟩ := use_no (a := a) (x := x) (zs := zs) (by rw [eok, h1, h2']; rfl)
    rw [eL, eO]
    have H2 := Lib.hid h2'
    clear eL eO eok hl h2 h2'
    go_enter Try.func22, Try.ntmps22
    go_wp2_with fail
    refine (TimesValid_any _ _ _ _ _ h).mono ?_; rintro e w1 ⟨rfl, hb⟩; rw [h1]
    clear h h1
    go_wp2_with fail
    refine (in_any _ _ _ _).mono ?_; rintro e w2 ⟨rfl, rfl⟩; rw [H2.out]
    go_wp2
    go_ret2
    exact ⟨_, _, _, rfl, .inl ⟨_, rfl, rfl, rfl⟩, hb⟩
  by_cases hx : x < 0
  · obtain ⟨eL, eO⟩ := use_no (a := a) (x := x) (zs := zs) (okT_neg hx)
    rw [eL, eO]
    have H2 := Lib.hid h2
    clear eL eO eok hl h2
    go_enter Try.func22, Try.ntmps22
    go_wp2_with fail
    refine (TimesValid_any _ _ _ _ _ h).mono ?_; rintro e w1 ⟨rfl, hb⟩; rw [h1]
    clear h h1
    go_wp2_with fail
    refine (in_any _ _ _ _).mono ?_; rintro e w2 ⟨rfl, rfl⟩; rw [H2.out]
    go_wp2
    go_ret2
    exact ⟨_, _, _, rfl, .inl ⟨_, rfl, rfl, rfl⟩, hb⟩
  have hok : okT zs a a x = true := by rw [eok, h1, h2, decide_eq_true (by omega)]; rfl
  have ia := inB_iff.1 h2
  obtain ⟨i, rfl⟩ := Int.eq_ofNat_of_zero_le ia.1
  have hi : i < n := by omega
  have hx0 : 0 ≤ x := by omega
  have va := (tValid_iff.1 h1).1 i (by omega)
  obtain ⟨eL, eO⟩ := use_go hok
  rw [Int.toNat_natCast] at eL eO
  obtain ⟨z1, hza⟩ : ∃ z, at0 zs i = z := ⟨_, rfl⟩
  have G1 := Lib.hid (get_at0 (zs := zs) (i := i) (by omega))
  rw [hza] at va G1 eL eO
  have EL := Lib.hid eL
  have EO := Lib.hid eO
  have H2 := Lib.hid h2
  clear hok ia h2 hl hza eok eL eO
  go_enter Try.func22, Try.ntmps22
  go_wp2_with fail
  refine (TimesValid_any _ _ _ _ _ h).mono ?_; rintro e w1 ⟨rfl, hb⟩; rw [h1]
  have hA1 := h.below hb
  clear h1
  go_wp2_with fail
  refine (in_any _ _ _ _).mono ?_; rintro e w2 ⟨rfl, rfl⟩; rw [H2.out]
  go_wp2_with fail
  refine (cloneI_any _ _ _ _ _ hA1 (one_cI _) hn).mono ?_; rintro e w2 ⟨Ao, co, rfl, hF, hb2⟩
  have hbb := hb.trans hb2
  obtain ⟨go, hgo, hgB, hgl, hG⟩ := (hF.mono hb.size).form (by omega)
  subst hgo
  have q1 : w2.cell? ⟨go, i, none⟩ = some (.int .i64 z1) := by rw [hG.cellAt i (by omega)]; unfold cI; rw [List.getElem?_map, G1.out]; rfl
  have f1 := hG.frozenAt i
  clear h hA1 H2 hF hb hb2
  by_cases c1 : x ≤ z1
  · have em : min x z1 = x := by omega
    rw [em] at EL EO
    have hG2 := ownI_set (k := i) hG (z1 - x)
    have hbb2 : Ext w (w2.setCell ⟨go, i, none⟩ (.int .i64 (z1 - x))) :=
      ext_grown hbb (grown_set (p := ⟨go, i, none⟩) (g := go) (World.grownBy.refl w2 _) rfl _) (fun k e => by cases e; exact hgB)
    have EM := Lib.hid em
    clear hG hbb
    go_wp2
    go_ret2
    exact ⟨_, _, _, by rw [EO.out]; rfl, by rw [EL.out]; exact .inr hG2, hbb2⟩
  · have em : min x z1 = z1 := by omega
    rw [em] at EL EO
    rw [Int.sub_self] at EL
    have hG2 := ownI_set (k := i) hG 0
    have hbb2 : Ext w (w2.setCell ⟨go, i, none⟩ (.int .i64 0)) :=
      ext_grown hbb (grown_set (p := ⟨go, i, none⟩) (g := go) (World.grownBy.refl w2 _) rfl _) (fun k e => by cases e; exact hgB)
    clear hG hbb
    go_wp2
    go_ret2
    exact ⟨_, _, _, by rw [EO.out]; rfl, by rw [EL.out]; exact .inr hG2, hbb2⟩
set_option maxHeartbeats 1000000 in
theorem specUseTime_any (A : Option Addr) (n c : Nat) (zs : List Int) (a x : Int) (w : World) (h : Rd w 1 A n c (cI zs)) (hn : n ≤ 1048576) :
    Calls Try.prog 23 #[.slice A n c, .int .i64 a, .int .i64 x] w fun e w' => ∃ A' n' c', e = .returned (.tuple #[.slice A' n' c', .int .i64 (useN zs a x)]) ∧ Fr w' w.heap.size 3 1 (.slice A' n' c') n' (cI (useL zs a x)) ∧ Ext w w' := by
  have hl := h.lenI
  have hle := h.le
  have htop := h.top
  obtain ⟨i0, hi0, hz0, hz1, hz2⟩ := info_parts Try.infoInt
  obtain ⟨t, ht⟩ : ∃ t, (tValid zs && inB a 0 ((n : Int) - 1) && inB a 0 ((n : Int) - 1)) = t := ⟨_, rfl⟩
  by_cases hno : t = false ∨ x < 0
  · have hk : okT zs a a x = false := by
      rcases hno with h0 | h0
      · by_cases hx : x < 0
        · exact okT_neg hx
        · rw [okT_ok hl ht (by omega), h0]
      · exact okT_neg h0
    obtain ⟨eL, eO⟩ := use_no hk
    rw [eL, eO]
    have hal : Ext w (w.alloc (.cells #[] 3)) := (Below.refl _ _).alloc (Nat.le_refl _) _
    have hF := fr_empty w
    clear eL eO hk hl
    go_enter Try.func23, Try.ntmps23
    go_wp2_with fail
    refine (l15Ok_any _ _ _ _ _ _ _ h).mono ?_; rintro e w1 ⟨rfl, rfl⟩; rw [ht]
    clear h ht
    cases t
    · clear hno
      go_wp2
      go_ret2
      exact ⟨_, _, _, rfl, hF, hal⟩
    · have hx : x < 0 := by simpa using hno
      clear hno
      go_wp2
      go_ret2
      exact ⟨_, _, _, rfl, hF, hal⟩
  obtain ⟨rfl, hx0⟩ : t = true ∧ 0 ≤ x := by
    cases t
    · simp at hno
    · simp at hno; exact ⟨rfl, by omega⟩
  have hok := okT_ok hl ht hx0
  have htt := ht
  simp only [Bool.and_eq_true] at htt
  obtain ⟨⟨h1, h2⟩, _⟩ := htt
  have ia := inB_iff.1 h2
  obtain ⟨i, rfl⟩ := Int.eq_ofNat_of_zero_le ia.1
  have hi : i < n := by omega
  have va := (tValid_iff.1 h1).1 i (by omega)
  obtain ⟨eL, eO⟩ := use_go hok
  rw [Int.toNat_natCast] at eL eO
  obtain ⟨z1, hza⟩ : ∃ z, at0 zs i = z := ⟨_, rfl⟩
  have G1 := Lib.hid (get_at0 (zs := zs) (i := i) (by omega))
  rw [hza] at va G1 eL eO
  have EL := Lib.hid eL
  have EO := Lib.hid eO
  have HT := Lib.hid ht
  clear hok ia h2 hl hza eL eO ht h1 hno
  have hal1 : Ext w (w.alloc (.cells #[] 3)) := (Below.refl _ _).alloc (Nat.le_refl _) _
  have hF1 := fr_empty w
  have hR1 := h.below hal1
  have hl1 := hal1.size
  go_enter Try.func23, Try.ntmps23
  go_wp2_with fail
  refine (l15Ok_any _ _ _ _ _ _ _ h).mono ?_; rintro e w1 ⟨rfl, rfl⟩; rw [HT.out]
  go_upto_region 4 with (at_builtin; refine wpList_append_fr _ rfl _ _ 23 rfl w.heap.size 3 i0 _ 1 8 Try.underlying23 hi0 hz0 hz1 hz2 rfl (by omega) _ 0 _ rfl hF1 _ n c _ rfl hR1 (one_cI _) (by unfold maxLen; omega) (by omega) hl1 ?_; intro Ax co w2 rowx hFx hgx hrowx)
  have hbb := ext_grown hal1 hgx (fun k hk => (hrowx k hk).1)
  rw [Nat.zero_add, show cI [] ++ cI zs = cI zs from rfl] at hFx
  have hA2 := h.below hbb
  clear hal1 hF1 hR1 hl1 hgx hrowx
  obtain ⟨b1, o1, y1, hA, X1, g1⟩ := hA2.atI hi
  subst hA
  have e1 : y1 = z1 := by have := X1.out.symm.trans G1.out; simpa using this
  subst e1
  obtain ⟨go, hgo, hgB, hgl, hG⟩ := hFx.form (by omega)
  subst hgo
  have q1 : w2.cell? ⟨go, i, none⟩ = some (.int .i64 y1) := by rw [hG.cellAt i (by omega)]; unfold cI; rw [List.getElem?_map, G1.out]; rfl
  have f1 := hG.frozenAt i
  clear h hA2 X1 hFx
  by_cases c1 : x ≤ y1
  · have em : min x y1 = x := by omega
    rw [em] at EL EO
    have hG2 := ownI_set (k := i) hG (y1 - x)
    have hbb2 : Ext w (w2.setCell ⟨go, i, none⟩ (.int .i64 (y1 - x))) :=
      ext_grown hbb (grown_set (p := ⟨go, i, none⟩) (g := go) (World.grownBy.refl w2 _) rfl _) (fun k e => by cases e; exact hgB)
    have EM := Lib.hid em
    clear hG hbb
    go_wp2
    go_ret2
    exact ⟨_, _, _, by rw [EO.out]; rfl, by rw [EL.out]; exact .inr hG2, hbb2⟩
  · have em : min x y1 = y1 := by omega
    rw [em] at EL EO
    rw [Int.sub_self] at EL
    have hG2 := ownI_set (k := i) hG 0
    have hbb2 : Ext w (w2.setCell ⟨go, i, none⟩ (.int .i64 0)) :=
      ext_grown hbb (grown_set (p := ⟨go, i, none⟩) (g := go) (World.grownBy.refl w2 _) rfl _) (fun k e => by cases e; exact hgB)
    clear hG hbb
    go_wp2
    go_ret2
    exact ⟨_, _, _, by rw [EO.out]; rfl, by rw [EL.out]; exact .inr hG2, hbb2⟩
end Go.Proofs.Ytbpkclhpjelelaa
