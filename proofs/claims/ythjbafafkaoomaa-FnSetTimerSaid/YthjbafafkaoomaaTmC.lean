/-
  DropTimer, ExpireTimers, the program's and the reference's.
-/
import Derived.Test.YthjbafafkaoomaaTmB
import Derived.Test.YthjbafafkaoomaaSlTm
import Derived.Test.YthjbafafkaoomaaDfTmW
import Derived.Test.YthjbafafkaoomaaSlI
import Derived.Test.YthjbafafkaoomaaInts
namespace Go.Proofs.Ythjbafafkaoomaa
open Go.RowKit

theorem tmValid_len {ms : List Tm} (h : tmValid ms = true) : ms.length ≤ 16 := by unfold tmValid at h; simp only [Bool.and_eq_true, decide_eq_true_eq] at h; exact h.2
/-- The timers without that of a thread. -/
def wot (t : Int) (ms : List Tm) : List Tm := ms.filter (fun x => !isT t x)
theorem wot_len (t : Int) (ms : List Tm) : (wot t ms).length ≤ ms.length := List.length_filter_le _ _
theorem wot_same {t : Int} {ms : List Tm} (h : ms.any (isT t) = false) : wot t ms = ms := by
  unfold wot; rw [List.filter_eq_self]
  intro x hx
  rw [List.any_eq_false] at h
  simp [h x hx]
theorem wot_lt (t : Int) (ms : List Tm) : decide ((wot t ms).length < ms.length) = ms.any (isT t) := by
  cases h : ms.any (isT t) with
  | false => rw [wot_same h]; simp
  | true =>
    rw [decide_eq_true_eq]
    unfold wot
    rw [List.any_eq_true] at h
    obtain ⟨x, hx, hq⟩ := h
    induction ms with
    | nil => cases hx
    | cons y r ih =>
      rw [List.filter_cons]
      rcases List.mem_cons.1 hx with rfl | hx
      · rw [hq]; simp only [Bool.not_true, Bool.false_eq_true, if_false, List.length_cons]
        have := List.length_filter_le (fun x => !isT t x) r; omega
      · have := ih hx
        split <;> simp only [List.length_cons] <;> omega
def dropR (t : Int) (ms : List Tm) : List Tm := if tmValid ms then wot t ms else []
theorem dropR_len (t : Int) (ms : List Tm) : (dropR t ms).length ≤ 16 := by
  unfold dropR
  cases hv : tmValid ms with
  | false => simp
  | true => have := tmValid_len hv; have := wot_len t ms; simp only [if_true]; omega

theorem withoutFn_any (x0 x1 t : Int) (pa : Addr) (w : World) (h : w.cell? pa = some (.int .i64 t)) :
    Calls Try.prog 70 #[.agg #[.int .i64 x0, .int .i64 x1], .pointer (some pa)] w fun e w' => e = .returned (.bool (isT t (x0, x1))) ∧ Ext w w' := by
  have hx : (w.alloc (.cells #[.int .i64 x0, .int .i64 x1] 39)).cell? pa = some (.int .i64 t) := (later_cell h ⟨_, (Below.refl _ _).alloc (Nat.le_refl _) _⟩)
  go_enter Try.func70, Try.ntmps70
  go_wp2
  go_ret
  exact ⟨rfl, (Below.refl _ _).alloc (Nat.le_refl _) _⟩

set_option maxHeartbeats 800000 in
theorem withoutTimer_any (A : Option Addr) (n c : Nat) (ms : List Tm) (t : Int) (w : World) (h : Rd w 2 A n c (c2 ms)) (hn : n ≤ 1048576) :
    Calls Try.prog 57 #[.slice A n c, .int .i64 t] w fun e w' => ∃ A' c', e = .returned (.slice A' (wot t ms).length c') ∧ Fr w' w.heap.size 39 2 (.slice A' (wot t ms).length c') (wot t ms).length (c2 (wot t ms)) ∧ Ext w w' := by
  have hb0 : Ext w (w.alloc (.cells #[.int .i64 t] 3)) := (Below.refl _ _).alloc (Nat.le_refl _) _
  have hc0 : (w.alloc (.cells #[.int .i64 t] 3)).cell? ⟨w.heap.size, 0, none⟩ = some (.int .i64 t) := by rw [World.cell?_alloc_new]; rfl
  have hR := h.below hb0
  go_enter Try.func57, Try.ntmps57
  go_wp2_with fail
  refine (CloneTm_any _ _ _ _ _ hR (one_c2 _) hn).mono ?_; rintro e w2 ⟨A2, c2', rfl, f2, hb2⟩
  have hs2 := hb2.size
  have hsz : w.heap.size ≤ (w.alloc (.cells #[.int .i64 t] 3)).heap.size := by simp
  go_wp2_with fail
  refine (DfFrTmW_any (isT t) _ _ _ _ _ _ _ f2 hs2 (fun x0 x1 w3 hb3 => withoutFn_any x0 x1 t _ w3 (later_cell hc0 ⟨w3, Below.trans hb2 hb3⟩))).mono ?_; rintro e w3 ⟨A3, c3', rfl, f3, hb3⟩
  have hbb : Ext w w3 := Ext.trans hb0 (Below.trans hb2 hb3)
  go_wp2_with fail
  refine (ClipTm_any _ _ _ _ f3.rd'.2.le f3.rd'.2.top).mono ?_; rintro e w' ⟨rfl, rfl⟩
  go_wp2
  go_ret
  exact ⟨_, _, rfl, (f3.clipTm).mono hsz, hbb⟩

set_option maxHeartbeats 800000 in
theorem DropTimer_any (A : Option Addr) (n c : Nat) (ms : List Tm) (t : Int) (w : World) (h : Rd w 2 A n c (c2 ms)) :
    Calls Try.prog 27 #[.slice A n c, .int .i64 t] w fun e w' => ∃ A' c', e = .returned (.tuple #[.slice A' (dropR t ms).length c', .bool (tmValid ms && ms.any (isT t))]) ∧
      Fr w' w.heap.size 39 2 (.slice A' (dropR t ms).length c') (dropR t ms).length (c2 (dropR t ms)) ∧ Ext w w' := by
  unfold dropR
  cases hv : tmValid ms with
  | false =>
    go_enter Try.func27, Try.ntmps27
    go_wp2_with fail
    refine (TimersValid_any _ _ _ _ _ h).mono ?_; rintro e w1 ⟨rfl, hb1⟩; rw [hv]
    go_wp2
    go_ret2
    exact ⟨none, 0, rfl, .inl ⟨none, rfl, rfl, rfl⟩, hb1⟩
  | true =>
    have hn : n ≤ 1048576 := by have := tmValid_len hv; have := h.len2; omega
    have hwl : (wot t ms).length ≤ 1048576 := by have := tmValid_len hv; have := wot_len t ms; omega
    have HV := Lib.hid hv
    have hix := idxOr_any (isT t) ms
    obtain ⟨ix, hixe⟩ : ∃ z, idxOr (isT t) ms = z := ⟨_, rfl⟩
    rw [hixe] at hix
    have HI := Lib.hid hix
    have HIE := Lib.hid hixe
    clear hv hix hixe
    go_enter Try.func27, Try.ntmps27
    go_wp2_with fail
    refine (TimersValid_any _ _ _ _ _ h).mono ?_; rintro e w1 ⟨rfl, hb1⟩; rw [HV.out]
    go_wp2_with fail
    refine (withoutTimer_any _ _ _ _ _ _ (h.below hb1) hn).mono ?_; rintro e w2 ⟨A2, c2', rfl, f2, hb2⟩
    go_wp2_with fail
    refine (cloneTm_any _ _ _ _ _ f2.rd'.2 (one_c2 _) hwl).mono ?_; rintro e w3 ⟨A3, c3', rfl, f3, hb3⟩
    have hbb := Ext.trans hb1 (Ext.trans hb2 hb3)
    go_wp2_with fail
    refine (timerAt_any _ _ _ _ _ _ (h.below hbb)).mono ?_; rintro e w4 ⟨rfl, hb4⟩; rw [HIE.out]
    go_wp2
    go_ret2
    simp only []
    exact ⟨A3, c3', by rw [← HI.out]; rfl, (f3.below hb4).mono (Nat.le_trans hb1.size hb2.size), Ext.trans hbb hb4⟩

set_option maxHeartbeats 800000 in
theorem specDropTimer_any (A : Option Addr) (n c : Nat) (ms : List Tm) (t : Int) (w : World) (h : Rd w 2 A n c (c2 ms)) :
    Calls Try.prog 26 #[.slice A n c, .int .i64 t] w fun e w' => ∃ A' c', e = .returned (.tuple #[.slice A' (dropR t ms).length c', .bool (tmValid ms && ms.any (isT t))]) ∧
      Fr w' w.heap.size 39 2 (.slice A' (dropR t ms).length c') (dropR t ms).length (c2 (dropR t ms)) ∧ Ext w w' := by
  unfold dropR
  have hb0 : Ext w (w.alloc (.cells #[] 39)) := (Below.refl _ _).alloc (Nat.le_refl _) _
  have hF0 : Row (w.alloc (.cells #[] 39)) w.heap.size 39 2 (.slice (some ⟨w.heap.size, 0, none⟩) 0 0) 0 (c2 []) := Row.lit (w := w) (n := 0) #[] (by simp) (by unfold maxLen; omega) (Nat.le_refl _)
  have hR := h.below hb0
  have HL := Lib.hid h.len2
  cases hv : tmValid ms with
  | false =>
    go_enter Try.func26, Try.ntmps26
    go_wp2_with fail
    refine (specTimersValid_any _ _ _ _ _ hR).mono ?_; rintro e w1 ⟨rfl, hb1⟩; rw [hv]
    go_wp2
    go_ret2
    exact ⟨_, _, rfl, .inr (hF0.below hb1), hb0.trans hb1⟩
  | true =>
    have hn : n ≤ 16 := by have := tmValid_len hv; have := HL.out; omega
    obtain ⟨i1, ki, kz0, kz1, kz2⟩ := info_parts Try.infoTm
    have HV := Lib.hid hv
    clear hv
    go_enter Try.func26, Try.ntmps26
    go_wp2_with fail
    refine (specTimersValid_any _ _ _ _ _ hR).mono ?_; rintro e w1 ⟨rfl, hb1⟩; rw [HV.out]
    have hF1 := hF0.below hb1
    have hb := hb0.trans hb1
    clear hR hF0 hb0 hb1
    go_wp2
    go_loopw [6, 7] (fun out i wr => ∃ (k m : Nat) (A' : Option Addr) (c' : Nat) (xs : List Tm), k ≤ n ∧ i = .int .i64 k ∧ m ≤ k ∧ out = .slice A' m c' ∧ Hid (wot t (ms.take k) = xs) ∧ Hid (xs.length = m) ∧ Row wr w.heap.size 39 2 (.slice A' m c') m (c2 xs) ∧ Ext w wr) (fun _ i _ => n - (intOf i).toNat)
    case atStart => exact ⟨0, 0, _, _, [], Nat.zero_le _, rfl, Nat.zero_le _, rfl, rfl, rfl, hF1, hb⟩
    case round =>
      clear hF1 hb
      obtain ⟨k, m, A', c', xs, hk, rfl, hm, rfl, HX, HM, hF, hb⟩ := hrel
      by_cases hlt : k < n
      · obtain ⟨b, off, x0, x1, rfl, X, g0, g1⟩ := (h.below hb).at2 hlt
        have e := filter_snoc (fun x : Tm => !isT t x) X.out
        rw [show (ms.take k).filter (fun x : Tm => !isT t x) = xs from HX.out] at e
        have hbs := hb.size
        clear h X
        by_cases hp : x0 = t
        · have hpt : isT t (x0, x1) = true := by unfold isT; simpa using hp
          rw [hpt] at e
          simp only [Bool.not_true, Bool.false_eq_true, if_false, List.append_nil] at e
          have E := Lib.hid e
          subst hp
          clear e hpt
          go_wp2
          go_roundw
          case rel => exact ⟨k + 1, m, _, _, xs, by omega, by go_num, by omega, rfl, E, HM, hF, hb⟩
          case measure => simp [intOf]; omega
        · have hpt : isT t (x0, x1) = false := by unfold isT; simpa using hp
          rw [hpt] at e
          simp only [Bool.not_false, if_true] at e
          have E := Lib.hid e
          have hne : (x0 != t) = true := by rw [bne_iff_ne]; exact hp
          have hy : Ext wr (wr.alloc (.cells #[.int .i64 x0, .int .i64 x1] 39)) := (Below.refl _ _).alloc (Nat.le_refl _) _
          have hF3 := hF.below hy
          have hR3 : Rd (wr.alloc (.cells #[.int .i64 x0, .int .i64 x1] 39)) 2 (some ⟨wr.heap.size, 0, none⟩) 1 1 (c2 [(x0, x1)]) := Rd.lit _ rfl (by omega)
          have hbz := Nat.le_trans hbs hy.size
          clear e hpt hF hp
          go_wp2_with (at_builtin; refine wpList_append_fr _ rfl _ _ 25 rfl w.heap.size 39 i1 _ 2 16 Try.underlying25 ki kz0 kz1 kz2 rfl (by omega) _ m _ rfl (.inr hF3) _ 1 1 _ rfl hR3 (one_c2 _) (by unfold maxLen; omega) (by omega) hbz ?_; intro A3 c3' w2 row hF4 hg hrow)
          rw [← c2_append] at hF4
          go_roundw
          case rel => exact ⟨k + 1, m + 1, _, _, _, by omega, by go_num, by omega, rfl, E, by show (xs ++ [(x0, x1)]).length = m + 1; rw [List.length_append, HM.out]; rfl, hF4.row (by omega), ext_grown (hb.trans hy) hg (fun k hk => (hrow k hk).1)⟩
          case measure => simp [intOf]; omega
      · obtain rfl : k = n := by omega
        have e2 : xs = wot t ms := by rw [← HX.out, take_all HL.out (Nat.le_refl _)]
        have hlt2 := wot_lt t ms
        rw [HL.out] at hlt2
        subst e2
        have HLT := Lib.hid hlt2
        have HM2 := HM.out
        rw [HM2] at hlt2
        have HLT2 := Lib.hid hlt2
        clear h hlt2 HM2
        go_wp2
        go_ret2
        simp only []
        rw [HM.out]
        exact ⟨_, _, by rw [← HLT2.out]; simp, .inr hF, hb⟩
end Go.Proofs.Ythjbafafkaoomaa
