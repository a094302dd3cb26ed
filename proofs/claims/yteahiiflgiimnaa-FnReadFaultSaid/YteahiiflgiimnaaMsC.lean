/-
  Messages about faults, read back: the program.
-/
import Derived.Test.YteahiiflgiimnaaMsB
import Derived.BigRegion
import Derived.Deep.Cut
namespace Go.Proofs.Yteahiiflgiimnaa
open Go.RowKit

set_option maxHeartbeats 4000000 in
theorem ReadFault_any (l : Int) (A B : Option Addr) (n c m d : Nat) (ws : List Int) (w : World) (h : Rd w 1 A n c (cI ws)) (hl0 : -9223372036854775808 ≤ l) (hl9 : l ≤ 9223372036854775807) :
    Calls Try.prog 35 #[.agg #[.int .i64 l, .slice A n c, .slice B m d]] w fun e w' => e = .returned (.tuple #[.agg #[.int .i64 (rdF l ws m).1.1, .int .i64 (rdF l ws m).1.2.1, .int .i64 (rdF l ws m).1.2.2], .bool (rdF l ws m).2]) ∧ Ext w w' := by
  have hlen := h.lenI
  have hle := h.le
  have htop := h.top
  have hb0 : Ext w ((w.alloc (.cells #[.int .i64 l, .slice A n c, .slice B m d] 51)).alloc (.cells #[.int .i64 0, .int .i64 0, .int .i64 0] 32)) := ((Below.refl _ _).alloc (Nat.le_refl _) _).alloc (by simp) _
  have M0 : MsAt ((w.alloc (.cells #[.int .i64 l, .slice A n c, .slice B m d] 51)).alloc (.cells #[.int .i64 0, .int .i64 0, .int .i64 0] 32)) w.heap.size (.int .i64 l) (.slice A n c) (.slice B m d) := (MsAt.new w 51 _ _ _).below ((Below.refl _ _).alloc (Nat.le_refl _) _)
  have P0 : ((w.alloc (.cells #[.int .i64 l, .slice A n c, .slice B m d] 51)).alloc (.cells #[.int .i64 0, .int .i64 0, .int .i64 0] 32)).heap[w.heap.size + 1]? = some (.cells #[.int .i64 0, .int .i64 0, .int .i64 0] 32 (0, 0)) := by
    have := heap_alloc_new (w.alloc (.cells #[.int .i64 l, .slice A n c, .slice B m d] 51)) (.cells #[.int .i64 0, .int .i64 0, .int .i64 0] 32)
    simpa using this
  have hR := h.below hb0
  obtain ⟨q0, q1, q2⟩ := M0
  obtain ⟨w1, hw1⟩ : ∃ w1, w1 = ((w.alloc (.cells #[.int .i64 l, .slice A n c, .slice B m d] 51)).alloc (.cells #[.int .i64 0, .int .i64 0, .int .i64 0] 32)) := ⟨_, rfl⟩
  rw [← hw1] at hb0 P0 q0 q1 q2 hR
  go_enter Try.func35, Try.ntmps35
  go_upto_region 1 with fail
  rw [← hw1]
  clear hw1 h
  by_cases hn : n = 3
  case neg =>
    have hnb : ((n : Int) == 3) = false := by rw [beq_eq_false_iff_ne]; omega
    have N := Lib.hid (rdF_len (l := l) (m := m) (ws := ws) (by omega))
    have sq0 : w1.cell? ⟨w.heap.size + 1, 0, none⟩ = some (.int .i64 0) := by rw [cell_of_row w1 _ _ _ _ _ P0]; rfl
    have sf0 := frozen_of_row w1 (w.heap.size + 1) 0 _ _ P0
    have sq1 : w1.cell? ⟨w.heap.size + 1, 1, none⟩ = some (.int .i64 0) := by rw [cell_of_row w1 _ _ _ _ _ P0]; rfl
    have sf1 := frozen_of_row w1 (w.heap.size + 1) 1 _ _ P0
    have sq2 : w1.cell? ⟨w.heap.size + 1, 2, none⟩ = some (.int .i64 0) := by rw [cell_of_row w1 _ _ _ _ _ P0]; rfl
    have sf2 := frozen_of_row w1 (w.heap.size + 1) 2 _ _ P0
    go_wp2
    refine bodyPost_ret (v := .tuple #[.agg #[.int .i64 0, .int .i64 0, .int .i64 0], .bool false]) (by simp [results, Try.results35, go_sem, sq0, sq1, sq2]) rfl ⟨by rw [N.out], Ext.sets3 hb0 (by omega) _ _ _⟩
  subst hn
  obtain ⟨b, off, rfl, hc⟩ := hR.cells (by omega)
  obtain ⟨x, y, z, rfl⟩ : ∃ x y z, ws = [x, y, z] := by
    match ws, hlen with
    | [x, y, z], _ => exact ⟨x, y, z, rfl⟩
  have g0 := hc 0 (.int .i64 x) rfl
  have g1 := hc 1 (.int .i64 y) rfl
  have g2 := hc 2 (.int .i64 z) rfl
  simp only [Nat.add_zero] at g0 g1 g2
  clear hc hlen
  by_cases hm : m = 0
  case neg =>
    have hmb : ((m : Int) == 0) = false := by rw [beq_eq_false_iff_ne]; omega
    have hmp : (0 : Int) < (m : Int) := by omega
    have N := Lib.hid (rdF_caps (l := l) (x := x) (y := y) (z := z) hm)
    have sq0 : w1.cell? ⟨w.heap.size + 1, 0, none⟩ = some (.int .i64 0) := by rw [cell_of_row w1 _ _ _ _ _ P0]; rfl
    have sf0 := frozen_of_row w1 (w.heap.size + 1) 0 _ _ P0
    have sq1 : w1.cell? ⟨w.heap.size + 1, 1, none⟩ = some (.int .i64 0) := by rw [cell_of_row w1 _ _ _ _ _ P0]; rfl
    have sf1 := frozen_of_row w1 (w.heap.size + 1) 1 _ _ P0
    have sq2 : w1.cell? ⟨w.heap.size + 1, 2, none⟩ = some (.int .i64 0) := by rw [cell_of_row w1 _ _ _ _ _ P0]; rfl
    have sf2 := frozen_of_row w1 (w.heap.size + 1) 2 _ _ P0
    go_wp2
    refine bodyPost_ret (v := .tuple #[.agg #[.int .i64 0, .int .i64 0, .int .i64 0], .bool false]) (by simp [results, Try.results35, go_sem, sq0, sq1, sq2]) rfl ⟨by rw [N.out], Ext.sets3 hb0 (by omega) _ _ _⟩
  subst hm
  obtain ⟨t0, e0⟩ : ∃ t, inB x 0 255 = t := ⟨_, rfl⟩
  obtain ⟨t1, e1⟩ : ∃ t, inB y 0 255 = t := ⟨_, rfl⟩
  have E0 := Lib.hid e0
  have E1 := Lib.hid e1
  cases t0
  · go_wp2_with fail
    refine (in_any _ _ _ _).mono ?_; rintro e w' ⟨rfl, rfl⟩; rw [E0.out]
    have N := Lib.hid (rdF_0 (l := l) (y := y) (z := z) (m := 0) e0)
    have sq0 : w1.cell? ⟨w.heap.size + 1, 0, none⟩ = some (.int .i64 0) := by rw [cell_of_row w1 _ _ _ _ _ P0]; rfl
    have sf0 := frozen_of_row w1 (w.heap.size + 1) 0 _ _ P0
    have sq1 : w1.cell? ⟨w.heap.size + 1, 1, none⟩ = some (.int .i64 0) := by rw [cell_of_row w1 _ _ _ _ _ P0]; rfl
    have sf1 := frozen_of_row w1 (w.heap.size + 1) 1 _ _ P0
    have sq2 : w1.cell? ⟨w.heap.size + 1, 2, none⟩ = some (.int .i64 0) := by rw [cell_of_row w1 _ _ _ _ _ P0]; rfl
    have sf2 := frozen_of_row w1 (w.heap.size + 1) 2 _ _ P0
    go_wp2
    refine bodyPost_ret (v := .tuple #[.agg #[.int .i64 0, .int .i64 0, .int .i64 0], .bool false]) (by simp [results, Try.results35, go_sem, sq0, sq1, sq2]) rfl ⟨by rw [N.out], Ext.sets3 hb0 (by omega) _ _ _⟩
  cases t1
  · go_wp2_with fail
    refine (in_any _ _ _ _).mono ?_; rintro e w' ⟨rfl, rfl⟩; rw [E0.out]
    go_wp2_with fail
    refine (in_any _ _ _ _).mono ?_; rintro e w' ⟨rfl, rfl⟩; rw [E1.out]
    have N := Lib.hid (rdF_1 (l := l) (x := x) (z := z) (m := 0) e1)
    have sq0 : w1.cell? ⟨w.heap.size + 1, 0, none⟩ = some (.int .i64 0) := by rw [cell_of_row w1 _ _ _ _ _ P0]; rfl
    have sf0 := frozen_of_row w1 (w.heap.size + 1) 0 _ _ P0
    have sq1 : w1.cell? ⟨w.heap.size + 1, 1, none⟩ = some (.int .i64 0) := by rw [cell_of_row w1 _ _ _ _ _ P0]; rfl
    have sf1 := frozen_of_row w1 (w.heap.size + 1) 1 _ _ P0
    have sq2 : w1.cell? ⟨w.heap.size + 1, 2, none⟩ = some (.int .i64 0) := by rw [cell_of_row w1 _ _ _ _ _ P0]; rfl
    have sf2 := frozen_of_row w1 (w.heap.size + 1) 2 _ _ P0
    go_wp2
    refine bodyPost_ret (v := .tuple #[.agg #[.int .i64 0, .int .i64 0, .int .i64 0], .bool false]) (by simp [results, Try.results35, go_sem, sq0, sq1, sq2]) rfl ⟨by rw [N.out], Ext.sets3 hb0 (by omega) _ _ _⟩
  have hx := inB_iff.1 e0
  have hy := inB_iff.1 e1
  obtain ⟨hx0, hx1⟩ := hx
  obtain ⟨hy0, hy1⟩ := hy
  obtain ⟨k, hk⟩ : ∃ k, IntKind.i64.wrap (l - 100) = k := ⟨_, rfl⟩
  obtain ⟨tv, ht⟩ : ∃ t, toldB k (x * 256 + y) z = t := ⟨_, rfl⟩
  have HT := Lib.hid ht
  have ha : inB (x * 256 + y) 0 65535 = true := inB_iff.2 (by omega)
  have hd1 : (x * 256 + y) / 256 = x := by omega
  have hd2 : (x * 256 + y) % 256 = y := by omega
  have h3 : ([x, y, z] : List Int).length = 3 := rfl
  have hkk : (1 ≤ k ∧ k ≤ 2 ↔ 101 ≤ l ∧ l ≤ 102) ∧ (1 ≤ k ∧ k ≤ 2 → k = l - 100) := by
    rw [IntKind.wrap_i64] at hk; omega
  have N : Hid (rdF l [x, y, z] 0 = if tv then ((k, x * 256 + y, z), true) else ((0, 0, 0), false)) := by
    have hl : inB k 1 2 = inB l 101 102 := by rw [Bool.eq_iff_iff, inB_iff, inB_iff]; exact hkk.1
    have e : toldB k (x * 256 + y) z = (inB l 101 102 && inB z 0 15) := by unfold toldB; rw [ha, hl, Bool.and_true]
    rw [← ht, e]
    show rdF l [x, y, z] 0 = _
    unfold rdF
    simp only [e0, e1]
    cases hc : inB l 101 102
    · cases inB z 0 15 <;> rfl
    · rw [hkk.2 (hkk.1.2 (inB_iff.1 hc))]
      cases inB z 0 15 <;> rfl
  have HML : Hid (tv = true → mgL k (x * 256 + y) z = l) := fun h => by rw [h] at ht; rw [mgL_yes ht, hkk.2 (told_in ht).1]; omega
  have HMW : Hid (tv = true → mgW k (x * 256 + y) z = [x, y, z]) := fun h => by rw [h] at ht; rw [mgW_yes ht, hd1, hd2]
  clear ht ha hd1 hd2 e0 e1 hkk
  go_wp2_with fail
  refine (in_any _ _ _ _).mono ?_; rintro e w' ⟨rfl, rfl⟩; rw [E0.out]
  go_wp2_with fail
  refine (in_any _ _ _ _).mono ?_; rintro e w' ⟨rfl, rfl⟩; rw [E1.out]
  have E3 : Ext w1 ((w1.alloc (.cells #[.int .i64 k, .int .i64 (x * 256 + y), .int .i64 z] 32)).drew) := ((Below.refl _ _).alloc (Nat.le_refl _) _).drew
  have F3' : Hid (FtAt ((w1.alloc (.cells #[.int .i64 k, .int .i64 (x * 256 + y), .int .i64 z] 32)).drew) w1.heap.size k (x * 256 + y) z) := (FtAt.new w1 32 k (x * 256 + y) z).below ((Below.refl _ _).drew)
  have M3' : Hid (MsAt ((w1.alloc (.cells #[.int .i64 k, .int .i64 (x * 256 + y), .int .i64 z] 32)).drew) w.heap.size (.int .i64 l) (.slice (some ⟨b, off, none⟩) 3 c) (.slice B 0 d)) := MsAt.below (⟨q0, q1, q2⟩ : MsAt w1 w.heap.size _ _ _) E3
  have P3' := Lib.hid ((E3.block _ (Array.getElem?_eq_some_iff.1 P0).1).trans P0)
  have R3' := Lib.hid (hR.below E3)
  have HB3 := Lib.hid (hb0.trans E3)
  clear E3 hR hb0 P0 E0 E1 hle htop q2
  have EZ : Ext w1 (w1.alloc (.cells #[.int .i64 0, .int .i64 0, .int .i64 0] 32)) := (Below.refl _ _).alloc (Nat.le_refl _) _
  have g0z := kept_of_below EZ _ _ g0
  have g1z := kept_of_below EZ _ _ g1
  have g2z := kept_of_below EZ _ _ g2
  have q0z := kept_of_below EZ _ _ q0
  have q1z := kept_of_below EZ _ _ q1
  clear EZ
  go_wp2
  go_cut [4] from 6 (fun s4 wx => ∃ q : Nat, s4 = .pointer (some ⟨q, 0, none⟩) ∧ FtAt wx q k (x * 256 + y) z ∧ MsAt wx w.heap.size (.int .i64 l) (.slice (some ⟨b, off, none⟩) 3 c) (.slice B 0 d) ∧ wx.heap[w.heap.size + 1]? = some (.cells #[.int .i64 0, .int .i64 0, .int .i64 0] 32 (0, 0)) ∧ Rd wx 1 (some ⟨b, off, none⟩) 3 c (cI [x, y, z]) ∧ Ext w wx)
  case first =>
    go_region
    go_wp2
    go_meet
    exact ⟨_, rfl, F3'.out, M3'.out, P3'.out, R3'.out, HB3.out⟩
  obtain ⟨q, rfl, F3, M3, P3, R3, hbb3⟩ := hcut
  obtain ⟨a, ha⟩ : ∃ a, x * 256 + y = a := ⟨_, rfl⟩
  rw [ha] at F3 HT N HML HMW
  clear ha hk q0 q1 g0 g1 g2 g0z g1z g2z q0z q1z F3' M3' P3' R3' HB3 hx0 hx1 hy0 hy1 hl0 hl9
  have F3' := Lib.hid F3
  have M3' := Lib.hid M3
  have P3' := Lib.hid P3
  have R3' := Lib.hid R3
  have HB3 := Lib.hid hbb3
  clear M3 P3 R3 hbb3
  obtain ⟨f0, f1, f2⟩ := F3
  go_wp2_with fail
  refine (FaultMessage_any _ _ _ _).mono ?_; rintro e w5 ⟨Af, cf, rfl, Ff, hb5⟩
  obtain ⟨L5, hL5⟩ : ∃ L5, mgL k a z = L5 := ⟨_, rfl⟩
  obtain ⟨W5, hW5⟩ : ∃ W5, mgW k a z = W5 := ⟨_, rfl⟩
  obtain ⟨N5, hN5⟩ : ∃ N5, W5.length = N5 := ⟨_, rfl⟩
  rw [hW5, hN5] at Ff
  rw [hL5, hW5, hN5]
  have hv5 : Ext w5 (w5.alloc (.cells #[.int .i64 L5, .slice Af N5 cf, .slice none 0 0] 51)) := (Below.refl _ _).alloc (Nat.le_refl _) _
  have E5 := hb5.trans hv5
  have M5 : MsAt (w5.alloc (.cells #[.int .i64 L5, .slice Af N5 cf, .slice none 0 0] 51)) w5.heap.size (.int .i64 L5) (.slice Af N5 cf) (.slice none 0 0) := MsAt.new w5 51 _ _ _
  have F5 := F3'.out.below E5
  have M1 := M3'.out.below E5
  have P5 := (E5.block _ (Array.getElem?_eq_some_iff.1 P3'.out).1).trans P3'.out
  have hbb5 := HB3.out.trans E5
  have R5 := R3'.out.below E5
  have Ff5 := (Ff.below hv5).rd'.2
  rw [hL5] at HML
  rw [hW5] at HMW
  clear f0 f1 f2 F3' M3' P3' HB3 R3' Ff hb5 hv5 E5 hL5 hW5
  have HN5 := Lib.hid hN5
  clear hN5
  go_upto_region 5 with fail
  generalize hV5 : (w5.alloc (.cells #[.int .i64 L5, .slice Af N5 cf, .slice none 0 0] 51)) = V5 at *
  generalize hv : w5.heap.size = v5 at *
  clear hV5 hv
  have F5' := Lib.hid F5
  obtain ⟨f0, f1, f2⟩ := F5
  cases tv
  · clear HML HMW
    go_wp2_with fail
    refine (told_any _ _ _ _).mono ?_; rintro e w6 ⟨rfl, hb6⟩; rw [HT.out]
    have P6 := (hb6.block _ (Array.getElem?_eq_some_iff.1 P5).1).trans P5
    have hbb6 := hbb5.trans hb6
    clear f0 f1 f2 P5 hbb5
    clear F5' M5 M1 R5 Ff5
    have sq0 : w6.cell? ⟨w.heap.size + 1, 0, none⟩ = some (.int .i64 0) := by rw [cell_of_row w6 _ _ _ _ _ P6]; rfl
    have sf0 := frozen_of_row w6 (w.heap.size + 1) 0 _ _ P6
    have sq1 : w6.cell? ⟨w.heap.size + 1, 1, none⟩ = some (.int .i64 0) := by rw [cell_of_row w6 _ _ _ _ _ P6]; rfl
    have sf1 := frozen_of_row w6 (w.heap.size + 1) 1 _ _ P6
    have sq2 : w6.cell? ⟨w.heap.size + 1, 2, none⟩ = some (.int .i64 0) := by rw [cell_of_row w6 _ _ _ _ _ P6]; rfl
    have sf2 := frozen_of_row w6 (w.heap.size + 1) 2 _ _ P6
    clear P6
    go_wp2
    refine bodyPost_ret (v := .tuple #[.agg #[.int .i64 0, .int .i64 0, .int .i64 0], .bool false]) (by simp [results, Try.results35, go_sem, sq0, sq1, sq2]) rfl ⟨by rw [N.out]; rfl, Ext.sets3 hbb6 (by omega) _ _ _⟩
  · obtain rfl := HML.out rfl
    obtain rfl := HMW.out rfl
    obtain rfl : 3 = N5 := HN5.out
    clear HML HMW HN5
    go_wp2_with fail
    refine (told_any _ _ _ _).mono ?_; rintro e w6 ⟨rfl, hb6⟩; rw [HT.out]
    have P6 := (hb6.block _ (Array.getElem?_eq_some_iff.1 P5).1).trans P5
    have hbb6 := hbb5.trans hb6
    clear f0 f1 f2 P5 hbb5
    have F6 := Lib.hid (F5'.out.below hb6)
    obtain ⟨m0, m1, m2⟩ := M5.below hb6
    obtain ⟨q0, q1, q2⟩ := M1.below hb6
    have R6 := R5.below hb6
    have Ff6 := Ff5.below hb6
    clear F5' M5 M1 R5 Ff5 hb6
    go_wp2_with fail
    refine (Equal_any _ _ _ _ _ _ _ _ _ Ff6 R6).mono ?_; rintro e w7 ⟨rfl, hb7⟩; rw [(eqIs_iff _ _).2 rfl]
    obtain ⟨f0, f1, f2⟩ := F6.out.below hb7
    have P7 := (hb7.block _ (Array.getElem?_eq_some_iff.1 P6).1).trans P6
    have hbb7 := hbb6.trans hb7
    clear m0 m1 m2 q0 q1 q2 R6 Ff6 F6 P6 hbb6 hb7
    have sq0 : w7.cell? ⟨w.heap.size + 1, 0, none⟩ = some (.int .i64 0) := by rw [cell_of_row w7 _ _ _ _ _ P7]; rfl
    have sf0 := frozen_of_row w7 (w.heap.size + 1) 0 _ _ P7
    have sq1 : w7.cell? ⟨w.heap.size + 1, 1, none⟩ = some (.int .i64 0) := by rw [cell_of_row w7 _ _ _ _ _ P7]; rfl
    have sf1 := frozen_of_row w7 (w.heap.size + 1) 1 _ _ P7
    have sq2 : w7.cell? ⟨w.heap.size + 1, 2, none⟩ = some (.int .i64 0) := by rw [cell_of_row w7 _ _ _ _ _ P7]; rfl
    have sf2 := frozen_of_row w7 (w.heap.size + 1) 2 _ _ P7
    clear P7
    go_wp2
    refine bodyPost_ret (v := .tuple #[.agg #[.int .i64 k, .int .i64 a, .int .i64 z], .bool true]) (by simp [results, Try.results35, go_sem, sq0, sq1, sq2]) rfl ⟨by rw [N.out]; rfl, Ext.sets3 hbb7 (by omega) _ _ _⟩
end Go.Proofs.Yteahiiflgiimnaa
