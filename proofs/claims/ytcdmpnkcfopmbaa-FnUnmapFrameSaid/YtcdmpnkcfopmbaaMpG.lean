/-
  UnmapFrame, the program's and the reference's.
-/
import Derived.Test.YtcdmpnkcfopmbaaMpE
import Derived.Test.YtcdmpnkcfopmbaaDfMpF
import Derived.Test.YtcdmpnkcfopmbaaSlI
import Derived.Test.YtcdmpnkcfopmbaaInts
namespace Go.Proofs.Ytcdmpnkcfopmbaa
open Go.RowKit

def keptF (frame : Int) (ms : List Mp) : List Mp := if spValid ms then ms.filter (fun x => !(x.2.1 == frame)) else []
def goneF (frame : Int) (ms : List Mp) : List Int := if spValid ms then (ms.filter (fun x => x.2.1 == frame)).map (fun x => x.1) else []
theorem keptF_len (frame : Int) (ms : List Mp) : (keptF frame ms).length ≤ 20 := by
  unfold keptF
  cases hv : spValid ms with
  | false => simp
  | true => have := spValid_len hv; have := List.length_filter_le (fun x : Mp => !(x.2.1 == frame)) ms; simp only [if_true]; omega
theorem goneF_len (frame : Int) (ms : List Mp) : (goneF frame ms).length ≤ 20 := by
  unfold goneF
  cases hv : spValid ms with
  | false => simp
  | true => have := spValid_len hv; have := List.length_filter_le (fun x : Mp => x.2.1 == frame) ms; simp only [if_true, List.length_map]; omega

theorem UnmapFrameFn_any (p f r frame : Int) (pa : Addr) (w : World) (h : w.cell? pa = some (.int .i64 frame)) :
    Calls Try.prog 58 #[.agg #[.int .i64 p, .int .i64 f, .int .i64 r], .pointer (some pa)] w fun e w' => e = .returned (.bool (f == frame)) ∧ Ext w w' := by
  have hx : (w.alloc (.cells #[.int .i64 p, .int .i64 f, .int .i64 r] 34)).cell? pa = some (.int .i64 frame) := (later_cell h ⟨_, (Below.refl _ _).alloc (Nat.le_refl _) _⟩)
  go_enter Try.func58, Try.ntmps58
  go_wp2
  go_ret
  exact ⟨rfl, (Below.refl _ _).alloc (Nat.le_refl _) _⟩

theorem gone_snoc {frame : Int} {ms : List Mp} {k : Nat} {x : Mp} (h : ms[k]? = some x) : ((ms.take (k + 1)).filter (fun x => x.2.1 == frame)).map (fun x => x.1) = ((ms.take k).filter (fun x => x.2.1 == frame)).map (fun x => x.1) ++ (if (x.2.1 == frame) = true then [x.1] else []) := by
  rw [filter_snoc _ h, List.map_append]
  split <;> rfl

set_option maxHeartbeats 800000 in
theorem UnmapFrame_any (A : Option Addr) (n c : Nat) (ms : List Mp) (frame : Int) (w : World) (h : Rd w 3 A n c (c3 ms)) :
    Calls Try.prog 28 #[.slice A n c, .int .i64 frame] w fun e w' => ∃ A' c' A2 c2, e = .returned (.tuple #[.slice A' (keptF frame ms).length c', .slice A2 (goneF frame ms).length c2]) ∧
      Fr w' w.heap.size 34 3 (.slice A' (keptF frame ms).length c') (keptF frame ms).length (c3 (keptF frame ms)) ∧
      Fr w' w.heap.size 3 1 (.slice A2 (goneF frame ms).length c2) (goneF frame ms).length (cI (goneF frame ms)) ∧ Ext w w' := by
  unfold keptF goneF
  have hb0 : Ext w (w.alloc (.cells #[.int .i64 frame] 3)) := (Below.refl _ _).alloc (Nat.le_refl _) _
  have hc0 : (w.alloc (.cells #[.int .i64 frame] 3)).cell? ⟨w.heap.size, 0, none⟩ = some (.int .i64 frame) := by rw [World.cell?_alloc_new]; rfl
  have hR := h.below hb0
  cases hv : spValid ms with
  | false =>
    go_enter Try.func28, Try.ntmps28
    go_wp2_with ((go_at_call 17; refine (SpaceValid_any _ _ _ _ _ hR).mono ?_; rintro e w1 ⟨rfl, hb1⟩); rw [hv])
    go_ret2
    exact ⟨_, _, _, _, rfl, .inl ⟨none, rfl, rfl, rfl⟩, .inl ⟨none, rfl, rfl, rfl⟩, hb0.trans hb1⟩
  | true =>
    have hn : n ≤ 20 := by have := spValid_len hv; have := h.len3; omega
    obtain ⟨i0, hi, hz0, hz1, hz2⟩ := info_parts Try.infoInt
    have HL := Lib.hid h.len3
    go_enter Try.func28, Try.ntmps28
    go_wp2_with ((go_at_call 17; refine (SpaceValid_any _ _ _ _ _ hR).mono ?_; rintro e w1 ⟨rfl, hb1⟩); rw [hv])
    have hx1 : Ext w w1 := hb0.trans hb1
    have hc1 : w1.cell? ⟨w.heap.size, 0, none⟩ = some (.int .i64 frame) := later_cell hc0 ⟨w1, hb1⟩
    have hR1 := h.below hx1
    have hs1 : w.heap.size < w1.heap.size := by have := hb1.size; simp at this; omega
    clear hR hc0 hb0 hb1
    go_loopw [6, 8, 14] (fun out _ i wr => ∃ (k m : Nat) (A' : Option Addr) (c' : Nat) (ys : List Int), k ≤ n ∧ i = .int .i64 k ∧ m ≤ k ∧ out = .slice A' m c' ∧ Hid (((ms.take k).filter (fun x => x.2.1 == frame)).map (fun x => x.1) = ys) ∧ Hid (ys.length = m) ∧ Fr wr w1.heap.size 3 1 (.slice A' m c') m (cI ys) ∧ Ext w1 wr) (fun _ _ i _ => n - (intOf i).toNat)
    case atStart => exact ⟨0, 0, none, 0, [], Nat.zero_le _, rfl, Nat.zero_le _, rfl, rfl, rfl, .inl ⟨none, rfl, rfl, rfl⟩, Below.refl _ _⟩
    case round =>
      obtain ⟨k, m, A', c', ys, hk, rfl, hm, rfl, HY, HM, hF2, hb⟩ := hrel
      have hcr : wr.cell? ⟨w.heap.size, 0, none⟩ = some (.int .i64 frame) := later_cell hc1 ⟨wr, hb⟩
      have hbs := hb.size
      by_cases hlt : k < n
      · obtain ⟨b, off, p, f, r, rfl, X, g0, g1, g2⟩ := (hR1.below hb).at3 hlt
        have e := gone_snoc (frame := frame) X.out
        rw [HY.out] at e
        have hx : Ext wr (wr.alloc (.cells #[.int .i64 p, .int .i64 f, .int .i64 r] 34)) := (Below.refl _ _).alloc (Nat.le_refl _) _
        have hcx : (wr.alloc (.cells #[.int .i64 p, .int .i64 f, .int .i64 r] 34)).cell? ⟨w.heap.size, 0, none⟩ = some (.int .i64 frame) := later_cell hcr ⟨_, hx⟩
        clear h hR1 X
        by_cases hp : f = frame
        · rw [if_pos (by simpa using hp)] at e
          subst hp
          have E := Lib.hid e
          have hy : Ext (wr.alloc (.cells #[.int .i64 p, .int .i64 f, .int .i64 r] 34)) ((wr.alloc (.cells #[.int .i64 p, .int .i64 f, .int .i64 r] 34)).alloc (.cells #[.int .i64 p] 3)) := (Below.refl _ _).alloc (Nat.le_refl _) _
          have hF3 := (hF2.below hx).below hy
          have hR3 : Rd ((wr.alloc (.cells #[.int .i64 p, .int .i64 f, .int .i64 r] 34)).alloc (.cells #[.int .i64 p] 3)) 1 (some ⟨wr.heap.size + 1, 0, none⟩) 1 1 (cI [p]) := by have := Rd.lit (w := (wr.alloc (.cells #[.int .i64 p, .int .i64 f, .int .i64 r] 34))) (e := 3) (sz := 1) (n := 1) #[.int .i64 p] rfl (by omega); simpa [cI] using this
          have hbz := Nat.le_trans hbs (Nat.le_trans hx.size hy.size)
          clear e hF2
          go_wp2_with (at_builtin; refine wpList_append_fr _ rfl _ _ 41 rfl w1.heap.size 3 i0 _ 1 8 Try.underlying41 hi hz0 hz1 hz2 rfl (by omega) _ m _ rfl hF3 _ 1 1 _ rfl hR3 (one_cI _) (by unfold maxLen; omega) (by omega) hbz ?_; intro A2 c2 w2 row hF4 hg hrow)
          rw [← cI_append] at hF4
          go_roundw
          case rel => exact ⟨k + 1, m + 1, A2, c2, _, by omega, by go_num, by omega, rfl, E, by show (ys ++ [p]).length = m + 1; rw [List.length_append, HM.out]; rfl, hF4, ext_grown (hb.trans (hx.trans hy)) hg (fun k hk => (hrow k hk).1)⟩
          case measure => simp [intOf]; omega
        · rw [if_neg (by simpa using hp), List.append_nil] at e
          have E := Lib.hid e
          clear e
          go_wp2
          go_roundw
          case rel => exact ⟨k + 1, m, A', c', ys, by omega, by go_num, by omega, rfl, E, HM, hF2.below hx, hb.trans hx⟩
          case measure => simp [intOf]; omega
      · obtain rfl : k = n := by omega
        have e1 : ys = (ms.filter (fun x => x.2.1 == frame)).map (fun x => x.1) := by rw [← HY.out, take_all HL.out (Nat.le_refl _)]
        have hRr := hR1.below hb
        subst e1
        clear h hR1 hc1
        go_wp2_with fail
        refine (CloneMp_any _ _ _ _ _ hRr (one_c3 _) (by omega)).mono ?_; rintro e w2 ⟨A2, c2, rfl, f2, hb2⟩
        have hs2 := hb2.size
        go_wp2_with fail
        refine (DfFrMpF_any (fun x => x.2.1 == frame) _ _ _ _ _ _ _ f2 hs2 (fun p f r w3 hb3 => UnmapFrameFn_any p f r frame _ w3 (later_cell hcr ⟨w3, Below.trans hb2 hb3⟩))).mono ?_; rintro e w3 ⟨A3, c3', rfl, f3, hb3⟩
        have hbb : Ext wr w3 := Below.trans hb2 hb3
        go_wp2_with fail
        refine (ClipMp_any _ _ _ _ f3.rd'.2.le f3.rd'.2.top).mono ?_; rintro e w' ⟨rfl, rfl⟩
        have hFp := hF2.below hbb
        go_wp2_with fail
        refine (ClipI_any _ _ _ _ hFp.rd'.2.le hFp.rd'.2.top).mono ?_; rintro e w' ⟨rfl, rfl⟩
        go_wp2
        go_ret2
        have HM2 : (ms.filter (fun x => x.2.1 == frame)).length = m := by have := HM.out; simpa using this
        rw [HM2]
        exact ⟨_, _, _, _, rfl, (f3.clipMp).mono (by omega), (hFp.clipI).mono (by omega), hx1.trans (hb.trans hbb)⟩

set_option maxHeartbeats 800000 in
theorem specUnmapFrame_any (A : Option Addr) (n c : Nat) (ms : List Mp) (frame : Int) (w : World) (h : Rd w 3 A n c (c3 ms)) :
    Calls Try.prog 27 #[.slice A n c, .int .i64 frame] w fun e w' => ∃ A' c' A2 c2, e = .returned (.tuple #[.slice A' (keptF frame ms).length c', .slice A2 (goneF frame ms).length c2]) ∧
      Fr w' w.heap.size 34 3 (.slice A' (keptF frame ms).length c') (keptF frame ms).length (c3 (keptF frame ms)) ∧
      Fr w' w.heap.size 3 1 (.slice A2 (goneF frame ms).length c2) (goneF frame ms).length (cI (goneF frame ms)) ∧ Ext w w' := by
  unfold keptF goneF
  have hb0 : Ext w ((w.alloc (.cells #[] 34)).alloc (.cells #[] 3)) := ((Below.refl _ _).alloc (Nat.le_refl _) _).alloc (by simp) _
  have hF0 : Row ((w.alloc (.cells #[] 34)).alloc (.cells #[] 3)) w.heap.size 34 3 (.slice (some ⟨w.heap.size, 0, none⟩) 0 0) 0 (c3 []) := (Row.lit (w := w) (n := 0) #[] (by simp) (by unfold maxLen; omega) (Nat.le_refl _)).below ((Below.refl _ _).alloc (Nat.le_refl _) _)
  have hP0 : Row ((w.alloc (.cells #[] 34)).alloc (.cells #[] 3)) w.heap.size 3 1 (.slice (some ⟨w.heap.size + 1, 0, none⟩) 0 0) 0 (cI []) := by
    have := Row.lit (w := w.alloc (.cells #[] 34)) (B := w.heap.size) (e := 3) (sz := 1) (n := 0) #[] (by simp) (by unfold maxLen; omega) (by simp)
    simpa [cI] using this
  have HL := Lib.hid h.len3
  cases hv : spValid ms with
  | false =>
    go_enter Try.func27, Try.ntmps27
    go_wp2
    refine wp_loop_rounds 1 ?_
    rw [rounds_succ]
    by_cases hn : 0 < n
    · have hR := h.below hb0
      go_wp2_with ((go_at_call 15; refine (specSpaceValid_any _ _ _ _ _ hR).mono ?_; rintro e w1 ⟨rfl, hb1⟩); rw [hv])
      go_ret2
      exact ⟨_, _, _, _, rfl, .inr (hF0.below hb1), .inr (hP0.below hb1), hb0.trans hb1⟩
    · go_wp2
      go_ret2
      exact ⟨_, _, _, _, rfl, .inr hF0, .inr hP0, hb0⟩
  | true =>
    have hn : n ≤ 20 := by have := spValid_len hv; have := h.len3; omega
    obtain ⟨i0, hi, hz0, hz1, hz2⟩ := info_parts Try.infoInt
    obtain ⟨i1, ki, kz0, kz1, kz2⟩ := info_parts Try.infoMp
    go_enter Try.func27, Try.ntmps27
    go_wp2
    go_loopw [6, 7, 8] (fun out pg i wr => ∃ (k m l : Nat) (A' A2 : Option Addr) (c' c2 : Nat) (xs : List Mp) (ys : List Int), k ≤ n ∧ i = .int .i64 k ∧ m ≤ k ∧ l ≤ k ∧ out = .slice A' m c' ∧ pg = .slice A2 l c2 ∧ Hid ((ms.take k).filter (fun x => !(x.2.1 == frame)) = xs) ∧ Hid (xs.length = m) ∧
      Hid (((ms.take k).filter (fun x => x.2.1 == frame)).map (fun x => x.1) = ys) ∧ Hid (ys.length = l) ∧ Row wr w.heap.size 34 3 (.slice A' m c') m (c3 xs) ∧ Row wr w.heap.size 3 1 (.slice A2 l c2) l (cI ys) ∧ Ext w wr) (fun _ _ i _ => n - (intOf i).toNat)
    case atStart => exact ⟨0, 0, 0, _, _, _, _, [], [], Nat.zero_le _, rfl, Nat.zero_le _, Nat.zero_le _, rfl, rfl, rfl, rfl, rfl, rfl, hF0, hP0, hb0⟩
    case round =>
      obtain ⟨k, m, l, A', A2, c', c2, xs, ys, hk, rfl, hm, hl, rfl, rfl, HX, HM, HY, HN, hF, hP, hb⟩ := hrel
      clear hF0 hP0 hb0
      have hbs := hb.size
      by_cases hlt : k < n
      · have hR := h.below hb
        go_wp2_with fail
        refine (specSpaceValid_any _ _ _ _ _ hR).mono ?_; rintro e w1 ⟨rfl, hb1⟩; rw [hv]
        obtain ⟨b, off, p, f, r, rfl, X, g0, g1, g2⟩ := (h.below (hb.trans hb1)).at3 hlt
        have hF1 := hF.below hb1
        have hP1 := hP.below hb1
        have hbx := hb.trans hb1
        have e := gone_snoc (frame := frame) X.out
        have e2 := filter_snoc (fun x : Mp => !(x.2.1 == frame)) X.out
        rw [HY.out] at e
        rw [HX.out] at e2
        have hbs1 := hbx.size
        clear hF hP h hR hb1 hb X
        by_cases hp : f = frame
        · subst hp
          rw [if_pos (by simp)] at e
          rw [if_neg (by simp), List.append_nil] at e2
          have E := Lib.hid e
          have E2 := Lib.hid e2
          have hy : Ext w1 (w1.alloc (.cells #[.int .i64 p] 3)) := (Below.refl _ _).alloc (Nat.le_refl _) _
          have hP3 := hP1.below hy
          have hF3 := hF1.below hy
          have hR3 : Rd (w1.alloc (.cells #[.int .i64 p] 3)) 1 (some ⟨w1.heap.size, 0, none⟩) 1 1 (cI [p]) := Rd.lit _ rfl (by omega)
          have hbz := Nat.le_trans hbs1 hy.size
          clear e e2 hF1 hP1
          go_wp2_with (at_builtin; refine wpList_append_fr _ rfl _ _ 41 rfl w.heap.size 3 i0 _ 1 8 Try.underlying41 hi hz0 hz1 hz2 rfl (by omega) _ l _ rfl (.inr hP3) _ 1 1 _ rfl hR3 (one_cI _) (by unfold maxLen; omega) (by omega) hbz ?_; intro A3 c3' w2 row hF4 hg hrow)
          rw [← cI_append] at hF4
          go_roundw
          case rel => exact ⟨k + 1, m, l + 1, _, _, _, _, xs, _, by omega, by go_num, by omega, by omega, rfl, rfl, E2, HM, E, by show (ys ++ [p]).length = l + 1; rw [List.length_append, HN.out]; rfl, hF3.aside hP3 (by decide) hg (fun k hk => (hrow k hk).2.2), hF4.row (by omega), ext_grown (hbx.trans hy) hg (fun k hk => (hrow k hk).1)⟩
          case measure => simp [intOf]; omega
        · rw [if_neg (by simpa using hp), List.append_nil] at e
          rw [if_pos (by simpa using hp)] at e2
          have E := Lib.hid e
          have E2 := Lib.hid e2
          have hy : Ext w1 (w1.alloc (.cells #[.int .i64 p, .int .i64 f, .int .i64 r] 34)) := (Below.refl _ _).alloc (Nat.le_refl _) _
          have hP3 := hP1.below hy
          have hF3 := hF1.below hy
          have hR3 : Rd (w1.alloc (.cells #[.int .i64 p, .int .i64 f, .int .i64 r] 34)) 3 (some ⟨w1.heap.size, 0, none⟩) 1 1 (c3 [(p, f, r)]) := Rd.lit _ rfl (by omega)
          have hbz := Nat.le_trans hbs1 hy.size
          clear e e2 hF1 hP1
          go_wp2_with (at_builtin; refine wpList_append_fr _ rfl _ _ 25 rfl w.heap.size 34 i1 _ 3 24 Try.underlying25 ki kz0 kz1 kz2 rfl (by omega) _ m _ rfl (.inr hF3) _ 1 1 _ rfl hR3 (one_c3 _) (by unfold maxLen; omega) (by omega) hbz ?_; intro A3 c3' w2 row hF4 hg hrow)
          rw [← c3_append] at hF4
          go_roundw
          case rel => exact ⟨k + 1, m + 1, l, _, _, _, _, _, ys, by omega, by go_num, by omega, by omega, rfl, rfl, E2, by show (xs ++ [(p, f, r)]).length = m + 1; rw [List.length_append, HM.out]; rfl, E, HN, hF4.row (by omega), hP3.aside hF3 (by decide) hg (fun k hk => (hrow k hk).2.2), ext_grown (hbx.trans hy) hg (fun k hk => (hrow k hk).1)⟩
          case measure => simp [intOf]; omega
      · obtain rfl : k = n := by omega
        have e1 : ys = (ms.filter (fun x => x.2.1 == frame)).map (fun x => x.1) := by rw [← HY.out, take_all HL.out (Nat.le_refl _)]
        have e2 : xs = ms.filter (fun x => !(x.2.1 == frame)) := by rw [← HX.out, take_all HL.out (Nat.le_refl _)]
        subst e1 e2
        clear h
        go_wp2
        go_ret2
        have HM2 : (ms.filter (fun x => x.2.1 == frame)).length = l := by have := HN.out; simpa using this
        rw [HM2, HM.out]
        exact ⟨_, _, _, _, rfl, .inr hF, .inr hP, hb⟩
end Go.Proofs.Ytcdmpnkcfopmbaa
