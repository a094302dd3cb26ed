/-
  The library's DeleteFunc at slices of impl.Timer that the call itself made, with the closure impl.withoutTimer$1.
-/
import Derived.Test.YthjbafafkaoomaaIxTmW
import Derived.Test.YthjbafafkaoomaaRunB
import Derived.Test.YthjbafafkaoomaaTypes
import Derived.Deep.RegionLaw
namespace Go.Proofs.Ythjbafafkaoomaa
open Go.RowKit

theorem Try.zeroDfTm (w : World) : (zeroValue 39).run Try.prog w = .ok (.agg #[.int .i64 0, .int .i64 0]) w := by kernel_rfl

set_option maxHeartbeats 1600000 in
theorem DfTmW_any (q : Int × Int → Bool) (pa : Addr) (g n c B : Nat) (ms : List (Int × Int)) (w : World) (h : Row w B 39 2 (.slice (some ⟨g, 0, none⟩) n c) n (c2 ms)) (hB : B ≤ w.heap.size)
    (hq : ∀ x0 x1 (w1 : World), Below B w w1 → Calls Try.prog 70 #[.agg #[.int .i64 x0, .int .i64 x1], .pointer (some pa)] w1 fun e w2 => e = .returned (.bool (q (x0, x1))) ∧ Ext w1 w2) :
    Calls Try.prog 69 #[.slice (some ⟨g, 0, none⟩) n c, .func (.func 70) #[] #[.pointer (some pa)]] w fun e w' => e = .returned (.slice (some ⟨g, 0, none⟩) (ms.filter (fun x => !q x)).length c) ∧
      Row w' B 39 2 (.slice (some ⟨g, 0, none⟩) (ms.filter (fun x => !q x)).length c) (ms.filter (fun x => !q x)).length (c2 (ms.filter (fun x => !q x))) ∧ Below B w w' := by
  have hl := (Rd.of_row h).len2
  obtain ⟨hBg, hn, hc, _⟩ := h.inv
  unfold maxLen at hc
  have HIX := IndexTmW_any q pa _ _ _ _ w (Rd.of_row h) (fun x0 x1 w1 hb => hq x0 x1 w1 (hb.mono hB))
  by_cases hneg : idxOr q ms = -1
  · have e : ms.filter (fun x => !q x) = ms := filter_all (idxOr_none q ms hneg)
    rw [e, hl]
    rw [hneg] at HIX
    clear hneg e hl
    go_enter Try.func69, Try.ntmps69
    go_wp2_with (go_at_call 61; refine HIX.mono ?_; rintro e w1 ⟨rfl, hb1⟩)
    go_ret
    exact ⟨rfl, h.below hb1, hb1.mono hB⟩
  · obtain ⟨i, hi⟩ : ∃ i : Nat, idxOr q ms = i := ⟨(idxOr q ms).toNat, by have := idxOr_ge q ms; omega⟩
    have hin : i < n := by have := idxOr_lt q ms i hi; omega
    have hne : ((i : Int) == -1) = false := by rw [beq_eq_false_iff_ne]; omega
    have H1 := Lib.hid (keep_start hi)
    rw [hi] at HIX
    have HL := Lib.hid hl
    clear hneg hi hl
    go_enter Try.func69, Try.ntmps69
    go_wp2_with (go_at_call 61; refine HIX.mono ?_; rintro e w1 ⟨rfl, hb1⟩)
    clear HIX
    have h1 := h.below hb1
    have hb0 := hb1.mono hB
    clear h hb1
    go_loopw [5, 6, 7] (fun i j _ wr => ∃ (a b : Nat) (ys : List (Int × Int)), a < b ∧ b ≤ n ∧ i = .int .i64 a ∧ j = .int .i64 b ∧ Row wr B 39 2 (.slice (some ⟨g, 0, none⟩) n c) n (c2 ys) ∧ Hid (ys.take a = (ms.take b).filter (fun x => !q x)) ∧ Hid (ys.drop b = ms.drop b) ∧ Below B w wr) (fun _ j _ _ => n - (intOf j).toNat)
    case atStart => exact ⟨i, i + 1, ms, by omega, by omega, rfl, by go_num, h1, H1, rfl, hb0⟩
    case round =>
      obtain ⟨a, b, ys, hab, hbn, rfl, rfl, hR, HT, HD, hbw⟩ := hrel
      clear h1 hb0 H1
      have hyl := (Rd.of_row hR).len2
      have hBr := Nat.le_trans hB hbw.size
      by_cases hlt : b < n
      · obtain ⟨x0, x1, X0, g0, g1⟩ := own2_at hR hlt
        have X : Hid (ms[b]? = some (x0, x1)) := by
          have e1 : (ys.drop b)[0]? = (ms.drop b)[0]? := by rw [HD.out]
          rw [List.getElem?_drop, List.getElem?_drop, Nat.add_zero] at e1
          exact e1.symm.trans X0.out
        have hx : Below wr.heap.size wr (wr.alloc (.cells #[.int .i64 x0, .int .i64 x1] 39)) := (Below.refl _ _).alloc (Nat.le_refl _) _
        have hC := hq x0 x1 _ (hbw.trans (hx.mono hBr))
        have hk := keep_skip (q := fun x => !q x) X.out HT.out HD.out
        have hs := keep_step (q := fun x => !q x) hyl X.out (by omega) hlt HT.out HD.out
        clear X0 X HT HD
        cases t : q (x0, x1) with
        | true =>
          rw [t] at hC hk
          have K1 := Lib.hid (hk rfl).1
          have K2 := Lib.hid (hk rfl).2
          have HYL := Lib.hid hyl
          clear hk hs hyl
          go_wp2_with (go_at_call 70; refine hC.mono ?_; rintro e w2 ⟨rfl, hb2⟩)
          go_roundw
          case rel => exact ⟨a, b + 1, ys, by omega, by omega, rfl, by go_num, hR.below (hx.trans (hb2.mono hx.size)), K1, K2, hbw.trans ((hx.trans (hb2.mono hx.size)).mono hBr)⟩
          case measure => simp [intOf]; omega
        | false =>
          rw [t] at hC hs
          have K1 := Lib.hid (hs rfl).1
          have K2 := Lib.hid (hs rfl).2
          have HYL := Lib.hid hyl
          clear hk hs hyl
          go_wp2_with (go_at_call 70; refine hC.mono ?_; rintro e w2 ⟨rfl, hb2⟩; have R2 := hR.below (hx.trans (hb2.mono hx.size)); have L0 : w2.cell? ⟨wr.heap.size, 0, none⟩ = some (.int .i64 x0) := (hb2.cell (by simp)).trans (by rw [World.cell?_alloc_new]; rfl); have L1 : w2.cell? ⟨wr.heap.size, 1, none⟩ = some (.int .i64 x1) := (hb2.cell (by simp)).trans (by rw [World.cell?_alloc_new]; rfl); obtain ⟨_, _, _, q0, q1⟩ := own2_at R2 (show a < n by omega); have f0 := R2.frozenAt (a * 2); have f1 := R2.frozenAt (a * 2 + 1))
          go_roundw
          case rel => exact ⟨a + 1, b + 1, _, by omega, by omega, by go_num, by go_num, own2_set R2 (show a < n by omega) x0 x1, K1, K2, (((hbw.trans ((hx.trans (hb2.mono hx.size)).mono hBr)).setCell hBg _).setCell hBg _)⟩
          case measure => simp [intOf]; omega
      · obtain rfl : b = n := by omega
        have e : ys.take a = ms.filter (fun x => !q x) := by rw [HT.out, take_all HL.out (Nat.le_refl _)]
        have el : (ms.filter (fun x => !q x)).length = a := by rw [← e, List.length_take]; omega
        obtain ⟨_, _, _, cur, hh, hsz, _⟩ := hR.inv
        have hsz2 : b * 2 ≤ cur.size := by have := Nat.mul_le_mul_right 2 hn; omega
        have hcl : (#[.int .i64 0, .int .i64 0] : Array Value).size = 2 := rfl
        have hclr : ∀ c' ty : Nat, (Builtin.clear_ #[25] ty #[.slice (some ⟨g, a * 2, none⟩) (b - a) c']).run Try.prog wr = .ok (.tuple #[]) (wr.setCells g (a * 2) (Builtin.zeroCells (.agg #[.int .i64 0, .int .i64 0] : Value).cells (b - a)).toList) := by
          intro c' ty
          refine run_clearN wr 25 39 ty _ Try.underlying25 Try.zeroDfTm (by intro v hv; simp [Value.cells] at hv; subst hv; rfl) g (a * 2) (b - a) c' (by omega) (fun j hj => ?_) (fun j _ => hR.frozenAt _)
          have hj' : j < (b - a) * 2 := hj
          rw [cell_of_row wr g _ cur _ _ hh, Array.getElem?_eq_getElem (by omega)]; rfl
        have hzl : (Builtin.zeroCells (.agg #[.int .i64 0, .int .i64 0] : Value).cells (b - a)).toList.length = (b - a) * 2 := zeroCells_len _ _
        have R3 := (hR.splice (vs := (Builtin.zeroCells (.agg #[.int .i64 0, .int .i64 0] : Value).cells (b - a)).toList) (a * 2) (by rw [hzl]; omega)).init (m := a) (by omega)
        have hxl := hR.len
        rw [List.append_assoc, List.take_append_of_le_length (by rw [List.length_take]; omega), List.take_take, Nat.min_self, ← c2_take] at R3
        have hg := setCells_grown g (Builtin.zeroCells (.agg #[.int .i64 0, .int .i64 0] : Value).cells (b - a)).toList (a * 2) wr
        have hb3 := hbw.grown hg hBr (fun k hk => by cases hk; exact hBg)
        have HE := Lib.hid (And.intro R3 hb3)
        have E1 := Lib.hid e
        have EL := Lib.hid el
        clear hR e el hh hsz hsz2 R3 hg hb3 HT HD hxl
        have hab2 : (a : Int) ≤ (b : Int) := by omega
        go_wp2
        go_ret
        rw [EL.out, ← E1.out]
        exact ⟨rfl, HE.out⟩

/-- .. of whatever slice the call made, an empty one too. -/
theorem DfFrTmW_any (q : Int × Int → Bool) (pa : Addr) (A : Option Addr) (n c B : Nat) (ms : List (Int × Int)) (w : World) (h : Fr w B 39 2 (.slice A n c) n (c2 ms)) (hB : B ≤ w.heap.size)
    (hq : ∀ x0 x1 (w1 : World), Below B w w1 → Calls Try.prog 70 #[.agg #[.int .i64 x0, .int .i64 x1], .pointer (some pa)] w1 fun e w2 => e = .returned (.bool (q (x0, x1))) ∧ Ext w1 w2) :
    Calls Try.prog 69 #[.slice A n c, .func (.func 70) #[] #[.pointer (some pa)]] w fun e w' => ∃ A' c', e = .returned (.slice A' (ms.filter (fun x => !q x)).length c') ∧
      Fr w' B 39 2 (.slice A' (ms.filter (fun x => !q x)).length c') (ms.filter (fun x => !q x)).length (c2 (ms.filter (fun x => !q x))) ∧ Below B w w' := by
  rcases Nat.eq_zero_or_pos n with h0 | h0
  · subst h0
    have hr := h.rd'.2
    have hm : ms = [] := List.eq_nil_of_length_eq_zero hr.len2
    subst hm
    have HIX := IndexTmW_any q pa _ _ _ _ w hr (fun x0 x1 w1 hb => hq x0 x1 w1 (hb.mono hB))
    have e : idxOr q [] = -1 := rfl
    rw [e] at HIX
    clear hq
    go_enter Try.func69, Try.ntmps69
    go_wp2_with (go_at_call 61; refine HIX.mono ?_; rintro e w1 ⟨rfl, hb1⟩)
    go_ret
    exact ⟨A, c, rfl, h.below hb1, hb1.mono hB⟩
  · obtain ⟨g, rfl, _, _, own⟩ := h.form h0
    refine (DfTmW_any q pa _ _ _ _ _ _ own hB hq).mono ?_
    rintro e w' ⟨rfl, r, hb⟩
    exact ⟨_, _, rfl, .inr r, hb⟩
end Go.Proofs.Ythjbafafkaoomaa
