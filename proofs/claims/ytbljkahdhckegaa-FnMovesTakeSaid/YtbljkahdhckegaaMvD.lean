/-
  A move done in a graph of the call's own; DoMove, the program's.
-/
import Derived.Test.YtbljkahdhckegaaMvC
import Derived.Test.YtbljkahdhckegaaClA
import Derived.StillTailTactics
namespace Go.Proofs.Ytbljkahdhckegaa
open Go.RowKit

theorem Tch.of_ext {w w' : World} {S : Nat → Prop} (h : Ext w w') : Tch w w' S := ⟨h.os, h.tape, h.output, h.size, fun k hk _ => h.block k hk⟩
theorem set_self_row {g : List (List Int)} {i : Nat} (hi : i < g.length) : g[i]? = some (rowAt g i) := by
  obtain ⟨xs, hx⟩ := get_of_lt (xs := g) rfl hi
  rw [rowAt_get hx]; exact hx

set_option maxHeartbeats 4000000 in
theorem do_any (A : Option Addr) (n c m B E : Nat) (g : List (List Int)) (kd who oth thg rts : Int) (w : World) (o : FrR w B E A n c g) (ht : Tab n m g) (hnm : n ≤ m) (hm10 : m ≤ 10) (hB : B ≤ w.heap.size) :
    Calls Try.prog 46 #[.agg #[.int .i64 kd, .int .i64 who, .int .i64 oth, .int .i64 thg, .int .i64 rts], .slice A n c] w fun e w' => e = .returned (.bool (okMv g (kd, who, oth, thg, rts))) ∧ FrR w' B E A n c (doMv g (kd, who, oth, thg, rts)) ∧ Tch w w' (fun b => B ≤ b ∧ b < E) := by
  have hx : Ext w (w.alloc (.cells #[.int .i64 kd, .int .i64 who, .int .i64 oth, .int .i64 thg, .int .i64 rts] 28)) := (Below.refl _ _).alloc (Nat.le_refl _) _
  have L0 := later_cell (w := w.alloc (.cells #[.int .i64 kd, .int .i64 who, .int .i64 oth, .int .i64 thg, .int .i64 rts] 28)) (p := ⟨w.heap.size, 0, none⟩) (v := .int .i64 kd) (by rw [World.cell?_alloc_new]; rfl)
  have L1 := later_cell (w := w.alloc (.cells #[.int .i64 kd, .int .i64 who, .int .i64 oth, .int .i64 thg, .int .i64 rts] 28)) (p := ⟨w.heap.size, 1, none⟩) (v := .int .i64 who) (by rw [World.cell?_alloc_new]; rfl)
  have L2 := later_cell (w := w.alloc (.cells #[.int .i64 kd, .int .i64 who, .int .i64 oth, .int .i64 thg, .int .i64 rts] 28)) (p := ⟨w.heap.size, 2, none⟩) (v := .int .i64 oth) (by rw [World.cell?_alloc_new]; rfl)
  have L3 := later_cell (w := w.alloc (.cells #[.int .i64 kd, .int .i64 who, .int .i64 oth, .int .i64 thg, .int .i64 rts] 28)) (p := ⟨w.heap.size, 3, none⟩) (v := .int .i64 thg) (by rw [World.cell?_alloc_new]; rfl)
  have L4 := later_cell (w := w.alloc (.cells #[.int .i64 kd, .int .i64 who, .int .i64 oth, .int .i64 thg, .int .i64 rts] 28)) (p := ⟨w.heap.size, 4, none⟩) (v := .int .i64 rts) (by rw [World.cell?_alloc_new]; rfl)
  have o1 := o.below hx
  cases hok : okMv g (kd, who, oth, thg, rts) with
  | false =>
    have hdo : doMv g (kd, who, oth, thg, rts) = g := by unfold doMv; rw [hok]; rfl
    rw [hdo]
    have HOK := Lib.hid hok
    have hr := o1.rdR
    clear hdo hok L0 L1 L2 L3 L4
    go_enter Try.func46, Try.ntmps46
    go_wp2_with fail
    refine (allowed_any _ _ _ m _ _ _ _ _ _ _ hr ht hnm hm10).mono ?_; rintro e w1 ⟨rfl, hb1⟩; rw [HOK.out]
    go_wp2
    go_ret
    exact ⟨rfl, o1.below hb1, Tch.of_ext (hx.trans hb1)⟩
  | true =>
    have hok2 := hok
    unfold okMv at hok2
    rw [Bool.and_eq_true, ht.len] at hok2
    obtain ⟨i, k, j, h1, h2, h3, h4, h5, h6, h7, h8⟩ := rngMv_iff.1 hok2.1
    have hn0 : 0 < n := by omega
    rw [len0_tab ht hn0] at h6
    simp only at h1 h2 h3 h7 h8
    subst h1 h2 h3
    have hkd := hok2.2
    simp only [Int.toNat_natCast] at hkd
    have hdo : doMv g (kd, i, k, j, rts) = putMv g kd i k j rts := by unfold doMv; rw [hok]; rfl
    rw [hdo]
    have HOK := Lib.hid hok
    have hr := o1.rdR
    have HT := Lib.hid ht
    have HKD := Lib.hid hkd
    clear hdo hok hok2 hkd o
    go_enter Try.func46, Try.ntmps46
    go_wp2_with fail
    refine (allowed_any _ _ _ m _ _ _ _ _ _ _ hr ht hnm hm10).mono ?_; rintro e w1 ⟨rfl, hb1⟩; rw [HOK.out]
    have o2 := (o1.below hb1).below (w' := w1.drew) ((Below.refl _ _).drew)
    have hT1 : Tch w w1.drew (fun b => B ≤ b ∧ b < E) := Tch.of_ext ((hx.trans hb1).drew)
    have M0 := later_at L0 hb1
    have M1 := later_at L1 hb1
    have M2 := later_at L2 hb1
    have M3 := later_at L3 hb1
    have M4 := later_at L4 hb1
    have hcc := o2.rdR.le
    have hct := o2.rdR.top
    obtain ⟨hs, hO, hlen, hR, hE⟩ := o2.ex
    have HLEN := Lib.hid hlen
    have HE := Lib.hid hE
    clear L0 L1 L2 L3 L4 o1 hx hb1 hr hlen hE o2 ht
    by_cases hk1 : kd = 1
    · subst hk1
      obtain ⟨b, off, gb, m4, c4, z, hA, gh, hm4, hmc4, hct4, hhd, Z, qz, fz, hBg, hW⟩ := rws_at hO HLEN.out hR h4 (xs := rowAt g i) (set_self_row (by rw [HT.out.len]; exact h4)) (show j < (rowAt g i).length by rw [rowAt_len HT.out.row (by rw [HT.out.len]; exact h4)]; exact h6)
      rw [rowAt_len HT.out.row (by rw [HT.out.len]; exact h4)] at hm4
      subst hm4 hA
      have hze : z = el g i j := by
        have := Z.out
        unfold el
        rw [List.getD_eq_getElem?_getD, this]; rfl
      have hlt2 := HE.out i _ gb hhd (by unfold blkC; rw [if_neg (by show ¬ c4 = 0; omega)]; rfl)
      obtain ⟨w1', w2', w3'⟩ := hW (orI z rts)
      have hput : putMv g 1 i k j rts = g.set i ((rowAt g i).set j (orI z rts)) := by unfold putMv; simp only [beq_self_eq_true, if_true]; rw [hze]; rfl
      have HP := Lib.hid hput
      have hT2 := hT1.trans (Tch.of_grown (S := fun b => B ≤ b ∧ b < E) w3' (fun k hk => by cases hk; exact ⟨hBg, hlt2⟩))
      clear hW Z hhd hze hput hO hR hT1 w3' hlt2
      go_wp2
      go_still_tail 13, (by kernel_rfl)
      change wpList _ _ _ _ _ w1.drew
      go_wp2
      go_ret
      rw [HP.out]
      exact ⟨rfl, ⟨hs, w2', HLEN.out, w1', HE.out⟩, hT2⟩
    · have hk1' : (kd == 1) = false := by simpa using hk1
      by_cases hk2 : kd = 2
      · subst hk2
        obtain ⟨b, off, gb, m4, c4, z, hA, gh, hm4, hmc4, hct4, hhd, Z, qz, fz, hBg, hW⟩ := rws_at hO HLEN.out hR h5 (xs := rowAt g k) (set_self_row (by rw [HT.out.len]; exact h5)) (show j < (rowAt g k).length by rw [rowAt_len HT.out.row (by rw [HT.out.len]; exact h5)]; exact h6)
        rw [rowAt_len HT.out.row (by rw [HT.out.len]; exact h5)] at hm4
        subst hm4 hA
        have hze : z = el g k j := by
          have := Z.out
          unfold el
          rw [List.getD_eq_getElem?_getD, this]; rfl
        have hlt2 := HE.out k _ gb hhd (by unfold blkC; rw [if_neg (by show ¬ c4 = 0; omega)]; rfl)
        obtain ⟨w1', w2', w3'⟩ := hW (orI z rts)
        have hput : putMv g 2 i k j rts = g.set k ((rowAt g k).set j (orI z rts)) := by unfold putMv; simp only [show ((2 : Int) == 1) = false from rfl, beq_self_eq_true, if_true, Bool.false_eq_true, if_false]; rw [hze]; rfl
        have HP := Lib.hid hput
        have hT2 := hT1.trans (Tch.of_grown (S := fun b => B ≤ b ∧ b < E) w3' (fun k hk => by cases hk; exact ⟨hBg, hlt2⟩))
        clear hW Z hhd hze hput hO hR hT1 w3' hlt2
        go_wp2
        go_still_tail 13, (by kernel_rfl)
        change wpList _ _ _ _ _ w1.drew
        go_wp2
        go_ret
        rw [HP.out]
        exact ⟨rfl, ⟨hs, w2', HLEN.out, w1', HE.out⟩, hT2⟩
      · have hk2' : (kd == 2) = false := by simpa using hk2
        clear hk1 hk2
        obtain ⟨b, off, gb, m4, c4, z, hA, gh, hm4, hmc4, hct4, hhd, Z, qz, fz, hBg, hW⟩ := rws_at hO HLEN.out hR h4 (xs := rowAt g i) (set_self_row (by rw [HT.out.len]; exact h4)) (show j < (rowAt g i).length by rw [rowAt_len HT.out.row (by rw [HT.out.len]; exact h4)]; exact h6)
        rw [rowAt_len HT.out.row (by rw [HT.out.len]; exact h4)] at hm4
        subst hm4 hA
        have hze : z = el g i j := by
          have := Z.out
          unfold el
          rw [List.getD_eq_getElem?_getD, this]; rfl
        have hlt2 := HE.out i _ gb hhd (by unfold blkC; rw [if_neg (by show ¬ c4 = 0; omega)]; rfl)
        obtain ⟨w1', w2', w3'⟩ := hW (bits .andNot .i64 z rts)
        have hput : putMv g kd i k j rts = g.set i ((rowAt g i).set j (bits .andNot .i64 z rts)) := by unfold putMv; simp only [hk1', hk2', Bool.false_eq_true, if_false]; rw [hze]; rfl
        have HP := Lib.hid hput
        have hT2 := hT1.trans (Tch.of_grown (S := fun b => B ≤ b ∧ b < E) w3' (fun k hk => by cases hk; exact ⟨hBg, hlt2⟩))
        clear hW Z hhd hze hput hO hR hT1 w3' hlt2
        go_wp2
        go_still_tail 13, (by kernel_rfl)
        change wpList _ _ _ _ _ w1.drew
        go_wp2
        go_ret
        rw [HP.out]
        exact ⟨rfl, ⟨hs, w2', HLEN.out, w1', HE.out⟩, hT2⟩
end Go.Proofs.Ytbljkahdhckegaa
