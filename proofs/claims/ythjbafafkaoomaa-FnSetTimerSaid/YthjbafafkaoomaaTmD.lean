/-
  ExpireTimers, the program's and the reference's.
-/
import Derived.Test.YthjbafafkaoomaaTmC
namespace Go.Proofs.Ythjbafafkaoomaa
open Go.RowKit

/-- Its time has come. -/
def due (q : Int) (x : Tm) : Bool := decide (x.2 ≤ q)
def expOk (q : Int) (ms : List Tm) : Bool := tmValid ms && inB q 0 100000
def restR (q : Int) (ms : List Tm) : List Tm := if expOk q ms then ms.filter (fun x => !due q x) else []
def wokenR (q : Int) (ms : List Tm) : List Int := if expOk q ms then (ms.filter (due q)).map (fun x => x.1) else []
theorem restR_len (q : Int) (ms : List Tm) : (restR q ms).length ≤ 16 := by
  unfold restR expOk
  cases hv : tmValid ms with
  | false => simp
  | true => have := tmValid_len hv; have := List.length_filter_le (fun x => !due q x) ms; split <;> simp <;> omega
theorem wokenR_len (q : Int) (ms : List Tm) : (wokenR q ms).length ≤ 16 := by
  unfold wokenR expOk
  cases hv : tmValid ms with
  | false => simp
  | true => have := tmValid_len hv; have := List.length_filter_le (due q) ms; split <;> simp <;> omega
/-- The timers of a valid list do not descend. -/
theorem tFrom_ge {all : List Tm} : ∀ {ms : List Tm} {l : Int} {k : Nat}, tFrom all l k ms = true → ∀ x ∈ ms, l ≤ x.2
  | [], _, _, _ => by simp
  | m :: r, l, k, h => by
    have h' : (tOk all l k m && tFrom all m.2 (k + 1) r) = true := h
    rw [Bool.and_eq_true] at h'
    obtain ⟨h1, h2⟩ := h'
    unfold tOk at h1
    simp only [Bool.and_eq_true] at h1
    have h3 := inB_iff.1 h1.2
    intro x hx
    rcases List.mem_cons.1 hx with rfl | hx
    · exact h3.1
    · have := tFrom_ge h2 x hx; omega
theorem tFrom_split {all : List Tm} (q : Int) : ∀ {ms : List Tm} {l : Int} {k : Nat}, tFrom all l k ms = true → ms.filter (fun x => !due q x) = ms.drop (ms.filter (due q)).length
  | [], _, _, _ => by simp
  | m :: r, l, k, h => by
    have h' : (tOk all l k m && tFrom all m.2 (k + 1) r) = true := h
    rw [Bool.and_eq_true] at h'
    obtain ⟨_, h2⟩ := h'
    cases hd : due q m with
    | true =>
      rw [List.filter_cons, List.filter_cons, hd]
      simp only [Bool.not_true, Bool.false_eq_true, if_false, if_true, List.length_cons, List.drop_succ_cons]
      exact tFrom_split q h2
    | false =>
      have hall : ∀ x ∈ m :: r, due q x = false := fun x hx => by
        unfold due at hd ⊢
        rcases List.mem_cons.1 hx with rfl | hx
        · exact hd
        · have := tFrom_ge h2 x hx
          simp only [decide_eq_false_iff_not] at hd ⊢
          omega
      have h3 : (m :: r).filter (due q) = [] := by rw [List.filter_eq_nil_iff]; intro x hx; rw [hall x hx]; exact Bool.false_ne_true
      have h4 : (m :: r).filter (fun x => !due q x) = m :: r := by rw [List.filter_eq_self]; intro x hx; rw [hall x hx]; rfl
      rw [h3, h4]; rfl
theorem valid_split (q : Int) {ms : List Tm} (h : tmValid ms = true) : ms.filter (fun x => !due q x) = ms.drop (ms.filter (due q)).length := by
  unfold tmValid at h; rw [Bool.and_eq_true] at h; exact tFrom_split q h.1
theorem woken_snoc {q : Int} {ms : List Tm} {k : Nat} {x : Tm} (h : ms[k]? = some x) : ((ms.take (k + 1)).filter (due q)).map (fun x => x.1) = ((ms.take k).filter (due q)).map (fun x => x.1) ++ (if due q x = true then [x.1] else []) := by
  rw [filter_snoc _ h, List.map_append]
  split <;> rfl
theorem Rd.tail {w : World} {sz n c : Nat} {b off : Nat} {xs : List Value} (h : Rd w sz (some ⟨b, off, none⟩) n c xs) {m : Nat} (hm : m ≤ n) : Rd w sz (some ⟨b, off + m * sz, none⟩) (n - m) (c - m) (xs.drop (m * sz)) := by
  have h1 : m * sz ≤ n * sz := Nat.mul_le_mul_right _ hm
  have hle := h.le
  have htop := h.top
  refine ⟨by rw [List.length_drop, h.len, Nat.sub_mul], by omega, by omega, fun hp => ?_⟩
  obtain ⟨b', off', e, hc⟩ := h.cells (by omega)
  simp only [Option.some.injEq, Addr.mk.injEq, and_true] at e
  obtain ⟨rfl, rfl⟩ := e
  refine ⟨_, _, rfl, fun j u hu => ?_⟩
  rw [List.getElem?_drop] at hu
  have := hc _ u hu
  rwa [← Nat.add_assoc] at this

set_option maxHeartbeats 1600000 in
theorem ExpireTimers_any (A : Option Addr) (n c : Nat) (ms : List Tm) (q : Int) (w : World) (h : Rd w 2 A n c (c2 ms)) :
    Calls Try.prog 31 #[.slice A n c, .int .i64 q] w fun e w' => ∃ A' c' A2 c2', e = .returned (.tuple #[.slice A' (restR q ms).length c', .slice A2 (wokenR q ms).length c2']) ∧
      Fr w' w.heap.size 39 2 (.slice A' (restR q ms).length c') (restR q ms).length (c2 (restR q ms)) ∧
      Fr w' w.heap.size 3 1 (.slice A2 (wokenR q ms).length c2') (wokenR q ms).length (cI (wokenR q ms)) ∧ Ext w w' := by
  unfold restR wokenR expOk
  cases hv : tmValid ms with
  | false =>
    go_enter Try.func31, Try.ntmps31
    go_wp2_with fail
    refine (TimersValid_any _ _ _ _ _ h).mono ?_; rintro e w1 ⟨rfl, hb1⟩; rw [hv]
    go_wp2
    go_ret2
    exact ⟨_, _, _, _, rfl, .inl ⟨none, rfl, rfl, rfl⟩, .inl ⟨none, rfl, rfl, rfl⟩, hb1⟩
  | true =>
    cases hq : inB q 0 100000 with
    | false =>
      have HV := Lib.hid hv
      clear hv
      go_enter Try.func31, Try.ntmps31
      go_wp2_with fail
      refine (TimersValid_any _ _ _ _ _ h).mono ?_; rintro e w1 ⟨rfl, hb1⟩; rw [HV.out]
      clear h
      go_wp2_with fail
      refine (in_any _ _ _ _).mono ?_; rintro e w' ⟨rfl, rfl⟩; rw [hq]
      go_wp2
      go_ret2
      exact ⟨_, _, _, _, rfl, .inl ⟨none, rfl, rfl, rfl⟩, .inl ⟨none, rfl, rfl, rfl⟩, hb1⟩
    | true =>
      have hn : n ≤ 16 := by have := tmValid_len hv; have := h.len2; omega
      obtain ⟨i0, hi, hz0, hz1, hz2⟩ := info_parts Try.infoInt
      have HL := Lib.hid h.len2
      have HV := Lib.hid hv
      have HQ := Lib.hid hq
      have hle := h.le
      have htop := h.top
      clear hv hq
      go_enter Try.func31, Try.ntmps31
      go_wp2_with fail
      refine (TimersValid_any _ _ _ _ _ h).mono ?_; rintro e w1 ⟨rfl, hb1⟩; rw [HV.out]
      have hR0 := Lib.hid h
      clear h
      go_wp2_with fail
      refine (in_any _ _ _ _).mono ?_; rintro e w' ⟨rfl, rfl⟩; rw [HQ.out]
      go_wp2
      go_loopw [6, 8, 19] (fun out _ i wr => ∃ (k m : Nat) (A' : Option Addr) (c' : Nat) (ys : List Int), k ≤ n ∧ i = .int .i64 k ∧ m ≤ k ∧ out = .slice A' m c' ∧ Hid (((ms.take k).filter (due q)).map (fun x => x.1) = ys) ∧ Hid (ys.length = m) ∧ Fr wr w.heap.size 3 1 (.slice A' m c') m (cI ys) ∧ Ext w wr) (fun _ _ i _ => n - (intOf i).toNat)
      case atStart => exact ⟨0, 0, none, 0, [], Nat.zero_le _, rfl, Nat.zero_le _, rfl, rfl, rfl, .inl ⟨none, rfl, rfl, rfl⟩, hb1⟩
      case round =>
        obtain ⟨k, m, A', c', ys, hk, rfl, hm, rfl, HY, HM, hF2, hb⟩ := hrel
        have hbs := hb.size
        by_cases hlt : k < n
        · obtain ⟨b, off, x0, x1, rfl, X, g0, g1⟩ := (hR0.out.below hb).at2 hlt
          have e := woken_snoc (q := q) X.out
          rw [HY.out] at e
          have hx : Ext wr (wr.alloc (.cells #[.int .i64 x0, .int .i64 x1] 39)) := (Below.refl _ _).alloc (Nat.le_refl _) _
          clear X hb1
          by_cases hp : x1 ≤ q
          · have hd : due q (x0, x1) = true := decide_eq_true hp
            rw [hd, if_pos rfl] at e
            have E := Lib.hid e
            have hy : Ext (wr.alloc (.cells #[.int .i64 x0, .int .i64 x1] 39)) ((wr.alloc (.cells #[.int .i64 x0, .int .i64 x1] 39)).alloc (.cells #[.int .i64 x0] 3)) := (Below.refl _ _).alloc (Nat.le_refl _) _
            have hF3 := (hF2.below hx).below hy
            have hR3 : Rd ((wr.alloc (.cells #[.int .i64 x0, .int .i64 x1] 39)).alloc (.cells #[.int .i64 x0] 3)) 1 (some ⟨wr.heap.size + 1, 0, none⟩) 1 1 (cI [x0]) := by have := Rd.lit (w := (wr.alloc (.cells #[.int .i64 x0, .int .i64 x1] 39))) (e := 3) (sz := 1) (n := 1) #[.int .i64 x0] rfl (by omega); simpa [cI] using this
            have hbz := Nat.le_trans hbs (Nat.le_trans hx.size hy.size)
            clear e hd hF2
            go_wp2_with (at_builtin; refine wpList_append_fr _ rfl _ _ 46 rfl w.heap.size 3 i0 _ 1 8 Try.underlying46 hi hz0 hz1 hz2 rfl (by omega) _ m _ rfl hF3 _ 1 1 _ rfl hR3 (one_cI _) (by unfold maxLen; omega) (by omega) hbz ?_; intro A2 c2 w2 row hF4 hg hrow)
            rw [← cI_append] at hF4
            go_roundw
            case rel => exact ⟨k + 1, m + 1, A2, c2, _, by omega, by go_num, by omega, rfl, E, by show (ys ++ [x0]).length = m + 1; rw [List.length_append, HM.out]; rfl, hF4, ext_grown (hb.trans (hx.trans hy)) hg (fun k hk => (hrow k hk).1)⟩
            case measure => simp [intOf]; omega
          · have hd : due q (x0, x1) = false := decide_eq_false hp
            rw [hd, if_neg Bool.false_ne_true, List.append_nil] at e
            have E := Lib.hid e
            clear e hd
            go_wp2
            go_roundw
            case rel => exact ⟨k + 1, m, A', c', ys, by omega, by go_num, by omega, rfl, E, HM, hF2.below hx, hb.trans hx⟩
            case measure => simp [intOf]; omega
        · obtain rfl : k = n := by omega
          have e1 : ys = (ms.filter (due q)).map (fun x => x.1) := by rw [← HY.out, take_all HL.out (Nat.le_refl _)]
          have e2 : (ms.filter (due q)).length = m := by rw [← HM.out, e1, List.length_map]
          have e3 := valid_split q HV.out
          rw [e2] at e3
          have hRr := hR0.out.below hb
          subst e1
          have E3 := Lib.hid e3
          have E2 := Lib.hid e2
          have e4 : (ms.filter (fun x => !due q x)).length = k - m := by rw [e3, List.length_drop, HL.out]
          have E4 := Lib.hid e4
          clear e2 e3 e4 hb1
          rcases Nat.eq_zero_or_pos k with hk0 | hk0
          · have hkm : k = m := by omega
            have e0 : ms.filter (fun x => !due q x) = [] := by rw [E3.out, drop_all HL.out (by omega)]
            have E0 := Lib.hid e0
            subst hkm hk0
            clear e0
            cases A with
            | none =>
              have E5 : Hid ((ms.filter (fun x => !due q x)).length = 0) := by rw [E0.out]; rfl
              go_wp2_with fail
              refine (cloneTm_any _ _ _ _ _ (show Rd wr 2 _ 0 _ (c2 (ms.filter (fun x => !due q x))) from by rw [E0.out]; exact Rd.nil (by omega)) (one_c2 _) (by omega)).mono ?_; rintro e w2 ⟨A2, c2', rfl, f2, hb2⟩
              have hFp := hF2.below hb2
              go_wp2_with fail
              refine (ClipI_any _ _ _ _ hFp.rd'.2.le hFp.rd'.2.top).mono ?_; rintro e w' ⟨rfl, rfl⟩
              go_wp2
              go_ret2
              simp only []
              rw [E2.out, E5.out]
              exact ⟨_, _, _, _, rfl, f2.mono hbs, hFp.clipI, hb.trans hb2⟩
            | some ad =>
              have E5 : Hid ((ms.filter (fun x => !due q x)).length = 0) := by rw [E0.out]; rfl
              go_wp2_with fail
              refine (cloneTm_any _ _ _ _ _ (show Rd wr 2 _ 0 _ (c2 (ms.filter (fun x => !due q x))) from by rw [E0.out]; exact Rd.nil (by omega)) (one_c2 _) (by omega)).mono ?_; rintro e w2 ⟨A2, c2', rfl, f2, hb2⟩
              have hFp := hF2.below hb2
              go_wp2_with fail
              refine (ClipI_any _ _ _ _ hFp.rd'.2.le hFp.rd'.2.top).mono ?_; rintro e w' ⟨rfl, rfl⟩
              go_wp2
              go_ret2
              simp only []
              rw [E2.out, E5.out]
              exact ⟨_, _, _, _, rfl, f2.mono hbs, hFp.clipI, hb.trans hb2⟩
          · obtain ⟨b, off, rfl, _⟩ := hRr.cells hk0
            by_cases hmc : m = c
            · have hkm : k = m := by omega
              have e0 : ms.filter (fun x => !due q x) = [] := by rw [E3.out, drop_all HL.out (by omega)]
              have E0 := Lib.hid e0
              subst hkm hmc
              clear e0
              have E5 : Hid ((ms.filter (fun x => !due q x)).length = 0) := by rw [E0.out]; rfl
              go_wp2_with fail
              refine (cloneTm_any _ _ _ _ _ (show Rd wr 2 _ 0 _ (c2 (ms.filter (fun x => !due q x))) from by rw [E0.out]; exact Rd.nil (by omega)) (one_c2 _) (by omega)).mono ?_; rintro e w2 ⟨A2, c2', rfl, f2, hb2⟩
              have hFp := hF2.below hb2
              go_wp2_with fail
              refine (ClipI_any _ _ _ _ hFp.rd'.2.le hFp.rd'.2.top).mono ?_; rintro e w' ⟨rfl, rfl⟩
              go_wp2
              go_ret2
              simp only []
              rw [E2.out, E5.out]
              exact ⟨_, _, _, _, rfl, f2.mono hbs, hFp.clipI, hb.trans hb2⟩
            · have hT := hRr.tail hm
              rw [← c2_drop, ← E3.out] at hT
              have hmc2 : m < c := by omega
              have hmc3 : (0 : Int) < (c : Int) - (m : Int) := by omega
              go_wp2_with fail
              refine (cloneTm_any _ _ _ _ _ hT (one_c2 _) (by omega)).mono ?_; rintro e w2 ⟨A2, c2', rfl, f2, hb2⟩
              have hFp := hF2.below hb2
              go_wp2_with fail
              refine (ClipI_any _ _ _ _ hFp.rd'.2.le hFp.rd'.2.top).mono ?_; rintro e w' ⟨rfl, rfl⟩
              go_wp2
              go_ret2
              simp only []
              rw [E2.out, E4.out]
              exact ⟨_, _, _, _, rfl, f2.mono hbs, hFp.clipI, hb.trans hb2⟩

set_option maxHeartbeats 1600000 in
theorem specExpireTimers_any (A : Option Addr) (n c : Nat) (ms : List Tm) (q : Int) (w : World) (h : Rd w 2 A n c (c2 ms)) :
    Calls Try.prog 30 #[.slice A n c, .int .i64 q] w fun e w' => ∃ A' c' A2 c2', e = .returned (.tuple #[.slice A' (restR q ms).length c', .slice A2 (wokenR q ms).length c2']) ∧
      Fr w' w.heap.size 39 2 (.slice A' (restR q ms).length c') (restR q ms).length (c2 (restR q ms)) ∧
      Fr w' w.heap.size 3 1 (.slice A2 (wokenR q ms).length c2') (wokenR q ms).length (cI (wokenR q ms)) ∧ Ext w w' := by
  unfold restR wokenR expOk
  have hb0 : Ext w ((w.alloc (.cells #[] 39)).alloc (.cells #[] 3)) := ((Below.refl _ _).alloc (Nat.le_refl _) _).alloc (by simp) _
  have hF0 : Row ((w.alloc (.cells #[] 39)).alloc (.cells #[] 3)) w.heap.size 39 2 (.slice (some ⟨w.heap.size, 0, none⟩) 0 0) 0 (c2 []) := (Row.lit (w := w) (n := 0) #[] (by simp) (by unfold maxLen; omega) (Nat.le_refl _)).below ((Below.refl _ _).alloc (Nat.le_refl _) _)
  have hP0 : Row ((w.alloc (.cells #[] 39)).alloc (.cells #[] 3)) w.heap.size 3 1 (.slice (some ⟨w.heap.size + 1, 0, none⟩) 0 0) 0 (cI []) := by
    have := Row.lit (w := w.alloc (.cells #[] 39)) (B := w.heap.size) (e := 3) (sz := 1) (n := 0) #[] (by simp) (by unfold maxLen; omega) (by simp)
    simpa [cI] using this
  have HL := Lib.hid h.len2
  have hR := h.below hb0
  cases hv : tmValid ms with
  | false =>
    go_enter Try.func30, Try.ntmps30
    go_wp2_with fail
    refine (specTimersValid_any _ _ _ _ _ hR).mono ?_; rintro e w1 ⟨rfl, hb1⟩; rw [hv]
    go_wp2
    go_ret2
    exact ⟨_, _, _, _, rfl, .inr (hF0.below hb1), .inr (hP0.below hb1), hb0.trans hb1⟩
  | true =>
    have HV := Lib.hid hv
    cases hq : inB q 0 100000 with
    | false =>
      clear hv
      go_enter Try.func30, Try.ntmps30
      go_wp2_with fail
      refine (specTimersValid_any _ _ _ _ _ hR).mono ?_; rintro e w1 ⟨rfl, hb1⟩; rw [HV.out]
      have hF1 := hF0.below hb1
      have hP1 := hP0.below hb1
      have hb := hb0.trans hb1
      clear hR hF0 hP0 hb0 hb1 h
      go_wp2_with fail
      refine (l1In_any _ _ _ _).mono ?_; rintro e w' ⟨rfl, rfl⟩; rw [hq]
      go_wp2
      go_ret2
      exact ⟨_, _, _, _, rfl, .inr hF1, .inr hP1, hb⟩
    | true =>
      have hn : n ≤ 16 := by have := tmValid_len hv; have := HL.out; omega
      have HQ := Lib.hid hq
      obtain ⟨i0, hi, hz0, hz1, hz2⟩ := info_parts Try.infoInt
      obtain ⟨i1, ki, kz0, kz1, kz2⟩ := info_parts Try.infoTm
      clear hv hq
      go_enter Try.func30, Try.ntmps30
      go_wp2_with fail
      refine (specTimersValid_any _ _ _ _ _ hR).mono ?_; rintro e w1 ⟨rfl, hb1⟩; rw [HV.out]
      have hF1 := hF0.below hb1
      have hP1 := hP0.below hb1
      have hb := hb0.trans hb1
      clear hR hF0 hP0 hb0 hb1
      go_wp2_with fail
      refine (l1In_any _ _ _ _).mono ?_; rintro e w' ⟨rfl, rfl⟩; rw [HQ.out]
      go_wp2
      go_loopw [6, 7, 8] (fun out pg i wr => ∃ (k m l : Nat) (A' A2 : Option Addr) (c' c2' : Nat) (xs : List Tm) (ys : List Int), k ≤ n ∧ i = .int .i64 k ∧ m ≤ k ∧ l ≤ k ∧ out = .slice A' m c' ∧ pg = .slice A2 l c2' ∧ Hid ((ms.take k).filter (fun x => !due q x) = xs) ∧ Hid (xs.length = m) ∧
        Hid (((ms.take k).filter (due q)).map (fun x => x.1) = ys) ∧ Hid (ys.length = l) ∧ Row wr w.heap.size 39 2 (.slice A' m c') m (c2 xs) ∧ Row wr w.heap.size 3 1 (.slice A2 l c2') l (cI ys) ∧ Ext w wr) (fun _ _ i _ => n - (intOf i).toNat)
      case atStart => exact ⟨0, 0, 0, _, _, _, _, [], [], Nat.zero_le _, rfl, Nat.zero_le _, Nat.zero_le _, rfl, rfl, rfl, rfl, rfl, rfl, hF1, hP1, hb⟩
      case round =>
        clear hF1 hP1 hb
        obtain ⟨k, m, l, A', A2, c', c2', xs, ys, hk, rfl, hm, hl, rfl, rfl, HX, HM, HY, HN, hF, hP, hb⟩ := hrel
        have hbs := hb.size
        by_cases hlt : k < n
        · obtain ⟨b, off, x0, x1, rfl, X, g0, g1⟩ := (h.below hb).at2 hlt
          have e := woken_snoc (q := q) X.out
          have e2 := filter_snoc (fun x : Tm => !due q x) X.out
          rw [HY.out] at e
          rw [HX.out] at e2
          clear h X
          by_cases hp : x1 ≤ q
          · have hd : due q (x0, x1) = true := decide_eq_true hp
            rw [hd, if_pos rfl] at e
            rw [hd, if_neg (by simp), List.append_nil] at e2
            have E := Lib.hid e
            have E2 := Lib.hid e2
            have hy : Ext wr (wr.alloc (.cells #[.int .i64 x0] 3)) := (Below.refl _ _).alloc (Nat.le_refl _) _
            have hP3 := hP.below hy
            have hF3 := hF.below hy
            have hR3 : Rd (wr.alloc (.cells #[.int .i64 x0] 3)) 1 (some ⟨wr.heap.size, 0, none⟩) 1 1 (cI [x0]) := Rd.lit _ rfl (by omega)
            have hbz := Nat.le_trans hbs hy.size
            clear e e2 hF hP hd
            go_wp2_with (at_builtin; refine wpList_append_fr _ rfl _ _ 46 rfl w.heap.size 3 i0 _ 1 8 Try.underlying46 hi hz0 hz1 hz2 rfl (by omega) _ l _ rfl (.inr hP3) _ 1 1 _ rfl hR3 (one_cI _) (by unfold maxLen; omega) (by omega) hbz ?_; intro A3 c3' w2 row hF4 hg hrow)
            rw [← cI_append] at hF4
            go_roundw
            case rel => exact ⟨k + 1, m, l + 1, _, _, _, _, xs, _, by omega, by go_num, by omega, by omega, rfl, rfl, E2, HM, E, by show (ys ++ [x0]).length = l + 1; rw [List.length_append, HN.out]; rfl, hF3.aside hP3 (by decide) hg (fun k hk => (hrow k hk).2.2), hF4.row (by omega), ext_grown (hb.trans hy) hg (fun k hk => (hrow k hk).1)⟩
            case measure => simp [intOf]; omega
          · have hd : due q (x0, x1) = false := decide_eq_false hp
            rw [hd, if_neg Bool.false_ne_true, List.append_nil] at e
            rw [hd, if_pos (by simp)] at e2
            have E := Lib.hid e
            have E2 := Lib.hid e2
            have hy : Ext wr (wr.alloc (.cells #[.int .i64 x0, .int .i64 x1] 39)) := (Below.refl _ _).alloc (Nat.le_refl _) _
            have hP3 := hP.below hy
            have hF3 := hF.below hy
            have hR3 : Rd (wr.alloc (.cells #[.int .i64 x0, .int .i64 x1] 39)) 2 (some ⟨wr.heap.size, 0, none⟩) 1 1 (c2 [(x0, x1)]) := Rd.lit _ rfl (by omega)
            have hbz := Nat.le_trans hbs hy.size
            clear e e2 hF hP hd
            go_wp2_with (at_builtin; refine wpList_append_fr _ rfl _ _ 25 rfl w.heap.size 39 i1 _ 2 16 Try.underlying25 ki kz0 kz1 kz2 rfl (by omega) _ m _ rfl (.inr hF3) _ 1 1 _ rfl hR3 (one_c2 _) (by unfold maxLen; omega) (by omega) hbz ?_; intro A3 c3' w2 row hF4 hg hrow)
            rw [← c2_append] at hF4
            go_roundw
            case rel => exact ⟨k + 1, m + 1, l, _, _, _, _, _, ys, by omega, by go_num, by omega, by omega, rfl, rfl, E2, by show (xs ++ [(x0, x1)]).length = m + 1; rw [List.length_append, HM.out]; rfl, E, HN, hF4.row (by omega), hP3.aside hF3 (by decide) hg (fun k hk => (hrow k hk).2.2), ext_grown (hb.trans hy) hg (fun k hk => (hrow k hk).1)⟩
            case measure => simp [intOf]; omega
        · obtain rfl : k = n := by omega
          have e1 : ys = (ms.filter (due q)).map (fun x => x.1) := by rw [← HY.out, take_all HL.out (Nat.le_refl _)]
          have e2 : xs = ms.filter (fun x => !due q x) := by rw [← HX.out, take_all HL.out (Nat.le_refl _)]
          subst e1 e2
          clear h
          go_wp2
          go_ret2
          have HM2 : (ms.filter (due q)).length = l := by have := HN.out; simpa using this
          simp only []
          rw [HM2, HM.out]
          exact ⟨_, _, _, _, rfl, .inr hF, .inr hP, hb⟩
end Go.Proofs.Ythjbafafkaoomaa
