/-
  The reference's UnmapPage and UnmapFrame: loops that append what they keep.
-/
import Derived.Test.YteahiiflgiimnaaMpE
import Derived.Test.YteahiiflgiimnaaRunB
import Derived.Test.YteahiiflgiimnaaIdx
namespace Go.Proofs.Yteahiiflgiimnaa
open Go.RowKit

theorem c3_one (p f r : Int) : (#[.int .i64 p, .int .i64 f, .int .i64 r] : Array Value).toList = c3 [(p, f, r)] := rfl
set_option maxRecDepth 10000 in
set_option maxHeartbeats 400000 in
theorem specUnmapPage_any (A : Option Addr) (n c : Nat) (ms : List Mp) (page : Int) (w : World) (h : Rd w 3 A n c (c3 ms)) :
    Calls Try.prog 47 #[.slice A n c, .int .i64 page] w fun e w' => ∃ A' c', e = .returned (.tuple #[.slice A' (unmapR page ms).length c', .bool (spValid ms && pThere page ms)]) ∧
      Fr w' w.heap.size 76 3 (.slice A' (unmapR page ms).length c') (unmapR page ms).length (c3 (unmapR page ms)) ∧ Ext w w' := by
  unfold unmapR
  have hl := h.len3
  have hb0 : Ext w (w.alloc (.cells #[] 76)) := (Below.refl _ _).alloc (Nat.le_refl _) _
  have hF : Fr (w.alloc (.cells #[] 76)) w.heap.size 76 3 (.slice (some ⟨w.heap.size, 0, none⟩) 0 0) 0 (c3 []) := .inr (Row.lit (n := 0) #[] (by simp) (by unfold maxLen; omega) (Nat.le_refl _))
  cases hv : spValid ms with
  | false =>
    have hR := h.below hb0
    clear hl h
    go_enter Try.func47, Try.ntmps47
    go_wp2_with ((go_at_call 44; refine (specSpaceValid_any _ _ _ _ _ hR).mono ?_; rintro e w1 ⟨rfl, hb1⟩); rw [hv])
    go_ret2
    exact ⟨_, _, rfl, hF.below hb1, hb0.trans hb1⟩
  | true =>
    have hn : n ≤ 20 := by have := spValid_len hv; omega
    obtain ⟨i0, hi, hz0, hz1, hz2⟩ := info_parts Try.infoMp
    have hR := h.below hb0
    have HL := Lib.hid hl
    have HF : Hid (ms.filter (fun m => m.1 != page) = unmapL page ms) := unmapL_filter page (spValid_from hv)
    have HT := Lib.hid (unmapL_there page ms)
    clear hl
    go_enter Try.func47, Try.ntmps47
    go_wp2_with ((go_at_call 44; refine (specSpaceValid_any _ _ _ _ _ hR).mono ?_; rintro e w1 ⟨rfl, hb1⟩); rw [hv])
    have hF1 := hF.below hb1
    have hx1 := hb0.trans hb1
    clear hF hR hb0 hb1
    go_loopw [6, 7] (fun out i wr => ∃ (k m : Nat) (A' : Option Addr) (c' : Nat) (ys : List Mp), k ≤ n ∧ i = .int .i64 k ∧ m ≤ k ∧ out = .slice A' m c' ∧ Hid ((ms.take k).filter (fun m => m.1 != page) = ys) ∧ Hid (ys.length = m) ∧ Fr wr w.heap.size 76 3 (.slice A' m c') m (c3 ys) ∧ Ext w wr) (fun _ i _ => n - (intOf i).toNat)
    case atStart => exact ⟨0, 0, _, _, [], Nat.zero_le _, rfl, Nat.zero_le _, rfl, rfl, rfl, hF1, hx1⟩
    case round =>
      obtain ⟨k, m, A', c', ys, hk, rfl, hm, rfl, HY, HM, hF2, hb⟩ := hrel
      clear hF1 hx1
      by_cases hlt : k < n
      · obtain ⟨b, off, p, f, r, rfl, X, g0, g1, g2⟩ := (h.below hb).at3 hlt
        have e := filter_snoc (fun m => m.1 != page) X.out
        rw [HY.out] at e
        clear h X
        by_cases hp : p = page
        · rw [if_neg (by simp [hp])] at e
          have E := Lib.hid e
          clear e
          go_wp2
          go_roundw
          case rel => exact ⟨k + 1, m, A', c', ys, by omega, by go_num, by omega, rfl, Lib.hid (by rw [E.out, List.append_nil]), HM, hF2, hb⟩
          case measure => simp [intOf]; omega
        · rw [if_pos (by simpa using hp)] at e
          have E := Lib.hid e
          have hx : Below wr.heap.size wr (wr.alloc (.cells #[.int .i64 p, .int .i64 f, .int .i64 r] 76)) := (Below.refl _ _).alloc (Nat.le_refl _) _
          have hF3 := hF2.below hx
          have hR3 : Rd (wr.alloc (.cells #[.int .i64 p, .int .i64 f, .int .i64 r] 76)) 3 (some ⟨wr.heap.size, 0, none⟩) 1 1 (c3 [(p, f, r)]) := Rd.lit _ rfl (by omega)
          have hbs := hb.size
          clear e hF2
          go_wp2_with (at_builtin; refine wpList_append_fr _ rfl _ _ 28 rfl w.heap.size 76 i0 _ 3 24 Try.underlying28 hi hz0 hz1 hz2 rfl (by omega) _ m _ rfl hF3 _ 1 1 _ rfl hR3 (one_c3 _) (by unfold maxLen; omega) (by omega) (Nat.le_trans hbs hx.size) ?_; intro A2 c2 w2 row hF4 hg hrow)
          rw [← c3_append] at hF4
          go_roundw
          case rel => exact ⟨k + 1, m + 1, A2, c2, _, by omega, by go_num, by omega, rfl, E, by show (ys ++ [(p, f, r)]).length = m + 1; rw [List.length_append, HM.out]; rfl, hF4, ext_grown (hb.trans hx) hg (fun k hk => (hrow k hk).1)⟩
          case measure => simp [intOf]; omega
      · obtain rfl : k = n := by omega
        have e1 : ys = unmapL page ms := by rw [← HY.out, take_all HL.out (Nat.le_refl _), HF.out]
        have e2 : decide (m < k) = pThere page ms := by rw [← HT.out, ← e1, HM.out, HL.out]
        have e3 : (unmapL page ms).length = m := by rw [← e1, HM.out]
        subst e1
        have E2 := Lib.hid e2
        have E3 := Lib.hid e3
        clear h e2 e3
        go_wp2
        go_ret2
        rw [E3.out, ← E2.out]
        exact ⟨A', c', rfl, hF2, hb⟩
end Go.Proofs.Yteahiiflgiimnaa
