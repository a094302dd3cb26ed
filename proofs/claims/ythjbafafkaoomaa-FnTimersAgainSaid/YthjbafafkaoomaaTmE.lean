/-
  Setting a timer as the reference does it, and what the reference draws for the laws on timers.
-/
import Derived.Test.YthjbafafkaoomaaTmD
import Derived.Test.YthjbafafkaoomaaDrO
import Derived.Deep.Cut
namespace Go.Proofs.Ythjbafafkaoomaa
open Go.RowKit

def setA (t v : Int) (r : List Tm × Bool) (x : Tm) : List Tm × Bool := if (decide (v < x.2) && !r.2) = true then (r.1 ++ [(t, v)], true) else r
def setB (t : Int) (r : List Tm × Bool) (x : Tm) : List Tm × Bool := if x.1 = t then r else (r.1 ++ [x], r.2)
def setK (t v : Int) (ms : List Tm) : Nat → List Tm × Bool
  | 0 => ([], false)
  | k + 1 => setB t (setA t v (setK t v ms k) (ms.getD k (0, 0))) (ms.getD k (0, 0))
theorem setK_step {t v : Int} {ms : List Tm} {k : Nat} {x : Tm} (h : ms[k]? = some x) : setK t v ms (k + 1) = setB t (setA t v (setK t v ms k) x) x := by
  have : ms.getD k (0, 0) = x := by rw [List.getD_eq_getElem?_getD, h]; rfl
  show setB t (setA t v (setK t v ms k) (ms.getD k (0, 0))) (ms.getD k (0, 0)) = _
  rw [this]
def setOk (t v : Int) (ms : List Tm) : Bool := tmValid ms && inB t 0 15 && inB v 0 100000
/-- What SetTimer hands back. -/
def setR (t v : Int) (ms : List Tm) : List Tm := if setOk t v ms = true then (if (setK t v ms ms.length).2 = true then (setK t v ms ms.length).1 else (setK t v ms ms.length).1 ++ [(t, v)]) else []
theorem setK_len (t v : Int) (ms : List Tm) : ∀ k, (setK t v ms k).1.length + (if (setK t v ms k).2 = true then 0 else 1) ≤ k + 1
  | 0 => by show 0 + 1 ≤ 1; omega
  | k + 1 => by
    have ih := setK_len t v ms k
    show (setB t (setA t v (setK t v ms k) (ms.getD k (0, 0))) (ms.getD k (0, 0))).1.length + (if (setB t (setA t v (setK t v ms k) (ms.getD k (0, 0))) (ms.getD k (0, 0))).2 = true then 0 else 1) ≤ k + 1 + 1
    generalize setK t v ms k = r at *
    generalize ms.getD k (0, 0) = x
    obtain ⟨xs, p⟩ := r
    obtain ⟨a, b⟩ := x
    unfold setB setA
    cases p <;> by_cases h1 : v < b <;> by_cases h2 : a = t <;> simp [h1, h2] at ih ⊢ <;> omega


set_option maxHeartbeats 2000000 in
theorem specSetTimer_any (A : Option Addr) (n c : Nat) (ms : List Tm) (t v : Int) (w : World) (h : Rd w 2 A n c (c2 ms)) :
    Calls Try.prog 39 #[.slice A n c, .int .i64 t, .int .i64 v] w fun e w' => ∃ A' c', e = .returned (.slice A' (setR t v ms).length c') ∧
      Fr w' w.heap.size 39 2 (.slice A' (setR t v ms).length c') (setR t v ms).length (c2 (setR t v ms)) ∧ Ext w w' := by
  obtain ⟨i1, ki, kz0, kz1, kz2⟩ := info_parts Try.infoTm
  have hb0 : Ext w (w.alloc (.cells #[] 39)) := (Below.refl _ _).alloc (Nat.le_refl _) _
  have hF0 : Row (w.alloc (.cells #[] 39)) w.heap.size 39 2 (.slice (some ⟨w.heap.size, 0, none⟩) 0 0) 0 (c2 []) := Row.lit (w := w) (n := 0) #[] (by simp) (by unfold maxLen; omega) (Nat.le_refl _)
  have HL := Lib.hid h.len2
  have hR := h.below hb0
  obtain ⟨t1, e1⟩ : ∃ b, tmValid ms = b := ⟨_, rfl⟩
  obtain ⟨t2, e2⟩ : ∃ b, inB t 0 15 = b := ⟨_, rfl⟩
  obtain ⟨t3, e3⟩ : ∃ b, inB v 0 100000 = b := ⟨_, rfl⟩
  have eok : setOk t v ms = (t1 && t2 && t3) := by unfold setOk; rw [e1, e2, e3]
  have E1 := Lib.hid e1
  have E2 := Lib.hid e2
  have E3 := Lib.hid e3
  have EOK := Lib.hid eok
  have no : (t1 && t2 && t3) = false → setR t v ms = [] := fun hh => by unfold setR; rw [if_neg (by rw [eok, hh]; exact Bool.false_ne_true)]
  have NO := Lib.hid no
  have hn : t1 = true → n ≤ 16 := fun ht => by have := tmValid_len (e1.trans ht); have := HL.out; omega
  clear e1 e2 e3 eok no
  go_enter Try.func39, Try.ntmps39
  go_wp2_with fail
  refine (specTimersValid_any _ _ _ _ _ hR).mono ?_; rintro e w1 ⟨rfl, hb1⟩; rw [E1.out]
  have hF1 := hF0.below hb1
  have hb := hb0.trans hb1
  clear hR hF0 hb0 hb1
  cases t1
  · have N := Lib.hid (NO.out rfl)
    clear h NO hn
    go_wp2
    go_ret
    exact ⟨_, _, by rw [N.out]; rfl, by rw [N.out]; exact .inr hF1, hb⟩
  have hn16 := hn rfl
  clear hn
  go_wp2_with fail
  refine (l1In_any _ _ _ _).mono ?_; rintro e w' ⟨rfl, rfl⟩; rw [E2.out]
  cases t2
  · have N := Lib.hid (NO.out rfl)
    clear h NO
    go_wp2
    go_ret
    exact ⟨_, _, by rw [N.out]; rfl, by rw [N.out]; exact .inr hF1, hb⟩
  go_wp2_with fail
  refine (l1In_any _ _ _ _).mono ?_; rintro e w' ⟨rfl, rfl⟩; rw [E3.out]
  cases t3
  · have N := Lib.hid (NO.out rfl)
    clear h NO
    go_wp2
    go_ret
    exact ⟨_, _, by rw [N.out]; rfl, by rw [N.out]; exact .inr hF1, hb⟩
  have eR : setR t v ms = (if (setK t v ms ms.length).2 = true then (setK t v ms ms.length).1 else (setK t v ms ms.length).1 ++ [(t, v)]) := by unfold setR; rw [if_pos (show setOk t v ms = true from EOK.out)]
  have ER := Lib.hid eR
  clear eR NO E1 E2 E3 EOK
  go_wp2
  go_loopw [7, 8, 9] (fun out pg i wr => ∃ (k m : Nat) (A' : Option Addr) (c' : Nat) (xs : List Tm) (p : Bool), k ≤ n ∧ i = .int .i64 k ∧ m ≤ k + 1 ∧ pg = .bool p ∧ out = .slice A' m c' ∧ Hid (setK t v ms k = (xs, p)) ∧ Hid (xs.length = m) ∧
    Row wr w.heap.size 39 2 (.slice A' m c') m (c2 xs) ∧ Ext w wr) (fun _ _ i _ => n - (intOf i).toNat)
  case atStart => exact ⟨0, 0, _, _, [], false, Nat.zero_le _, rfl, by omega, rfl, rfl, rfl, rfl, hF1, hb⟩
  case round =>
    clear hF1 hb
    obtain ⟨k, m, A', c', xs, p, hk, rfl, hm, rfl, rfl, HX, HM, hF, hb⟩ := hrel
    have hbs := hb.size
    by_cases hlt : k < n
    · obtain ⟨b, off, x0, x1, rfl, X, g0', g1'⟩ := h.at2 hlt
      have g0 := kept_of_below hb _ _ g0'
      have g1 := kept_of_below hb _ _ g1'
      have est := setK_step (t := t) (v := v) X.out
      rw [HX.out] at est
      have hlen := setK_len t v ms (k + 1)
      clear h X
      by_cases hp : v < x1 ∧ p = false
      · obtain ⟨hp1, rfl⟩ := hp
        have ea : setA t v (xs, false) (x0, x1) = (xs ++ [(t, v)], true) := by unfold setA; rw [if_pos (by rw [decide_eq_true hp1]; rfl)]
        rw [ea] at est
        have e1 : Ext wr (wr.alloc (.cells #[.int .i64 t, .int .i64 v] 39)) := (Below.refl _ _).alloc (Nat.le_refl _) _
        have r1 : Rd (wr.alloc (.cells #[.int .i64 t, .int .i64 v] 39)) 2 (some ⟨wr.heap.size, 0, none⟩) 1 1 (c2 [(t, v)]) := Rd.lit _ rfl (by omega)
        have hF3 := hF.below e1
        have hbz := Nat.le_trans hbs e1.size
        have hbe := hb.trans e1
        clear hF ea
        go_upto_region 11 with (at_builtin; refine wpList_append_fr _ rfl _ _ 25 rfl w.heap.size 39 i1 _ 2 16 Try.underlying25 ki kz0 kz1 kz2 rfl (by omega) _ m _ rfl (.inr hF3) _ 1 1 _ rfl r1 (one_c2 _) (by unfold maxLen; omega) (by omega) hbz ?_; intro A3 c3 w2 row2 hF4 hg2 hr2)
        rw [← c2_append] at hF4
        have hb2 := ext_grown hbe hg2 (fun k hk => (hr2 k hk).1)
        have q0 := kept_of_below hb2 _ _ g0'
        have q1 := kept_of_below hb2 _ _ g1'
        have hM2 : (xs ++ [(t, v)]).length = m + 1 := by rw [List.length_append, HM.out]; rfl
        have HM2 := Lib.hid hM2
        have hF5 := hF4.row (by omega)
        have hbs2 := hb2.size
        clear hF3 hbz hbe hg2 hr2 hF4 g0 g1 e1 r1 hM2 hb
        by_cases ht : x0 = t
        · have eb : setB t (xs ++ [(t, v)], true) (x0, x1) = (xs ++ [(t, v)], true) := by unfold setB; rw [if_pos ht]
          rw [eb] at est
          rw [est] at hlen
          simp only [if_true, HM2.out] at hlen
          have EST := Lib.hid est
          subst ht
          clear est eb
          go_wp2
          go_roundw
          case rel => exact ⟨k + 1, m + 1, _, _, _, true, by omega, by go_num, by omega, rfl, rfl, EST, HM2, hF5, hb2⟩
          case measure => simp [intOf]; omega
        · have ht' : (x0 != t) = true := by simpa using ht
          have eb : setB t (xs ++ [(t, v)], true) (x0, x1) = (xs ++ [(t, v)] ++ [(x0, x1)], true) := by unfold setB; rw [if_neg ht]
          rw [eb] at est
          rw [est] at hlen
          simp only [if_true, List.length_append, HM.out] at hlen
          have EST := Lib.hid est
          have e2 : Ext w2 (w2.alloc (.cells #[.int .i64 x0, .int .i64 x1] 39)) := (Below.refl _ _).alloc (Nat.le_refl _) _
          have r2 : Rd (w2.alloc (.cells #[.int .i64 x0, .int .i64 x1] 39)) 2 (some ⟨w2.heap.size, 0, none⟩) 1 1 (c2 [(x0, x1)]) := Rd.lit _ rfl (by omega)
          have hF6 := hF5.below e2
          have hbz := Nat.le_trans hbs2 e2.size
          have hbe := hb2.trans e2
          clear hF5 est eb hb2
          go_wp2_with (at_builtin; refine wpList_append_fr _ rfl _ _ 25 rfl w.heap.size 39 i1 _ 2 16 Try.underlying25 ki kz0 kz1 kz2 rfl (by omega) _ (m + 1) _ rfl (.inr hF6) _ 1 1 _ rfl r2 (one_c2 _) (by unfold maxLen; omega) (by omega) hbz ?_; intro A4 c4 w4 row4 hF7 hg4 hr4)
          rw [← c2_append] at hF7
          go_roundw
          case rel => exact ⟨k + 1, m + 1 + 1, _, _, _, true, by omega, by go_num, by simp at hlen; omega, rfl, rfl, EST, by show (xs ++ [(t, v)] ++ [(x0, x1)]).length = m + 1 + 1; rw [List.length_append, HM2.out]; rfl, hF7.row (by omega), ext_grown hbe hg4 (fun k hk => (hr4 k hk).1)⟩
          case measure => simp [intOf]; omega
      · have ea : setA t v (xs, p) (x0, x1) = (xs, p) := by
          unfold setA
          rw [if_neg]
          intro hh
          simp only [Bool.and_eq_true, decide_eq_true_eq, Bool.not_eq_true'] at hh
          exact hp hh
        rw [ea] at est
        have hcase : (decide (v < x1) = true ∧ p = true) ∨ decide (v < x1) = false := by
          by_cases h1 : v < x1
          · left; exact ⟨decide_eq_true h1, by cases p <;> simp_all⟩
          · right; exact decide_eq_false h1
        by_cases ht : x0 = t
        · have eb : setB t (xs, p) (x0, x1) = (xs, p) := by unfold setB; rw [if_pos ht]
          rw [eb] at est
          have EST := Lib.hid est
          subst ht
          clear est eb ea hp hlen
          rcases hcase with ⟨hd, rfl⟩ | hd
          all_goals
            have hd' := hd
            simp only [decide_eq_true_eq, decide_eq_false_iff_not] at hd'
            go_wp2
            go_roundw
            case rel => exact ⟨k + 1, m, _, _, xs, _, by omega, by go_num, by omega, rfl, rfl, EST, HM, hF, hb⟩
            case measure => simp [intOf]; omega
        · have ht' : (x0 != t) = true := by simpa using ht
          have eb : setB t (xs, p) (x0, x1) = (xs ++ [(x0, x1)], p) := by unfold setB; rw [if_neg ht]
          rw [eb] at est
          have hlen2 : m + 1 ≤ k + 1 + 1 := by omega
          have EST := Lib.hid est
          have e2 : Ext wr (wr.alloc (.cells #[.int .i64 x0, .int .i64 x1] 39)) := (Below.refl _ _).alloc (Nat.le_refl _) _
          have r2 : Rd (wr.alloc (.cells #[.int .i64 x0, .int .i64 x1] 39)) 2 (some ⟨wr.heap.size, 0, none⟩) 1 1 (c2 [(x0, x1)]) := Rd.lit _ rfl (by omega)
          have hF6 := hF.below e2
          have hbz := Nat.le_trans hbs e2.size
          have hbe := hb.trans e2
          clear hF est eb hb ea hp hlen
          rcases hcase with ⟨hd, rfl⟩ | hd
          all_goals
            have hd' := hd
            simp only [decide_eq_true_eq, decide_eq_false_iff_not] at hd'
            go_wp2_with (at_builtin; refine wpList_append_fr _ rfl _ _ 25 rfl w.heap.size 39 i1 _ 2 16 Try.underlying25 ki kz0 kz1 kz2 rfl (by omega) _ m _ rfl (.inr hF6) _ 1 1 _ rfl r2 (one_c2 _) (by unfold maxLen; omega) (by omega) hbz ?_; intro A4 c4 w4 row4 hF7 hg4 hr4)
            rw [← c2_append] at hF7
            go_roundw
            case rel => exact ⟨k + 1, m + 1, _, _, _, _, by omega, by go_num, hlen2, rfl, rfl, EST, by show (xs ++ [(x0, x1)]).length = m + 1; rw [List.length_append, HM.out]; rfl, hF7.row (by omega), ext_grown hbe hg4 (fun k hk => (hr4 k hk).1)⟩
            case measure => simp [intOf]; omega
    · obtain rfl : k = n := by omega
      have eR := ER.out
      rw [HL.out, HX.out] at eR
      clear h
      cases p
      · rw [if_neg Bool.false_ne_true] at eR
        have ER2 := Lib.hid eR
        have e2 : Ext wr (wr.alloc (.cells #[.int .i64 t, .int .i64 v] 39)) := (Below.refl _ _).alloc (Nat.le_refl _) _
        have r2 : Rd (wr.alloc (.cells #[.int .i64 t, .int .i64 v] 39)) 2 (some ⟨wr.heap.size, 0, none⟩) 1 1 (c2 [(t, v)]) := Rd.lit _ rfl (by omega)
        have hF6 := hF.below e2
        have hbz := Nat.le_trans hbs e2.size
        have hbe := hb.trans e2
        clear hF hb eR
        go_wp2_with (at_builtin; refine wpList_append_fr _ rfl _ _ 25 rfl w.heap.size 39 i1 _ 2 16 Try.underlying25 ki kz0 kz1 kz2 rfl (by omega) _ m _ rfl (.inr hF6) _ 1 1 _ rfl r2 (one_c2 _) (by unfold maxLen; omega) (by omega) hbz ?_; intro A4 c4 w4 row4 hF7 hg4 hr4)
        rw [← c2_append] at hF7
        go_ret
        have hl : (setR t v ms).length = m + 1 := by rw [ER2.out, List.length_append, HM.out]; rfl
        exact ⟨_, _, by rw [hl]; rfl, by rw [hl, ER2.out]; exact hF7, ext_grown hbe hg4 (fun k hk => (hr4 k hk).1)⟩
      · rw [if_pos rfl] at eR
        have ER2 := Lib.hid eR
        clear eR
        go_wp2
        go_ret
        have hl : (setR t v ms).length = m := by rw [ER2.out, HM.out]
        exact ⟨_, _, by rw [hl]; rfl, by rw [hl, ER2.out]; exact .inr hF, hb⟩
end Go.Proofs.Ythjbafafkaoomaa
