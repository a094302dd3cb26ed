/-
  The law FnDoMove returns true at every input, and leaves all that was there as it was: the walk.
-/
import Derived.Test.YtbljkahdhckegaaDrN
import Derived.Test.YtbljkahdhckegaaDrX
import Derived.Test.YtbljkahdhckegaaAlive
import Derived.Test.YtbljkahdhckegaaMvL
import Derived.Test.YtbljkahdhckegaaMvE
namespace Go.Proofs.Ytbljkahdhckegaa
open Go.RowKit

theorem and_or {x r : Int} (hx : Rg x) (hr : Rg r) : bits .and .i64 (orI x r) r = r := by
  have := lift2 (fun x r => bits .and .i64 (orI x r) r == r) (by decide +kernel) hx hr
  simpa using this
theorem and_andn {x r : Int} (hx : Rg x) (hr : Rg r) : bits .and .i64 (bits .andNot .i64 x r) r = 0 := by
  have := lift2 (fun x r => bits .and .i64 (bits .andNot .i64 x r) r == 0) (by decide +kernel) hx hr
  simpa using this
/-- What a move that is possible does. -/
theorem do_shape {g : List (List Int)} {n1 : Nat} {kd who oth thg rts : Int} (h : allowR g (kd, who, oth, thg, rts) = true) (hn : g.length = n1) :
    ∃ (m a j : Nat) (z : Int), Tab n1 m g ∧ n1 ≤ m ∧ n1 ≤ 6 ∧ m ≤ 10 ∧ a < n1 ∧ j < m ∧ thg = j ∧ doR g (kd, who, oth, thg, rts) = setAt g a j z ∧ Tab n1 m (setAt g a j z) ∧
      ((kd = 1 ∧ who = a ∧ bits .and .i64 z rts = rts) ∨ (kd = 2 ∧ oth = a ∧ bits .and .i64 z rts = rts) ∨ (kd = 3 ∧ who = a ∧ bits .and .i64 z rts = 0)) := by
  unfold allowR at h
  rw [Bool.and_eq_true] at h
  obtain ⟨hv, hok⟩ := h
  obtain ⟨n, m, ht, hnm, h6, hm, h0⟩ := tab_of_valid hv
  obtain rfl : n = n1 := by rw [← ht.len, hn]
  have hok' := hok
  unfold okMv at hok'
  rw [Bool.and_eq_true] at hok'
  obtain ⟨i, k, j, h1, h2, h3, h4, h5, h6', h7, h8⟩ := rngMv_iff.1 hok'.1
  simp only at h1 h2 h3 h7 h8
  subst h1 h2 h3
  rw [hn] at h4 h5
  rw [len0_tab ht (by omega)] at h6'
  have hr : Rg rts := ⟨h7, h8⟩
  have hk := hok'.2
  unfold kindOk at hk
  simp only at hk
  have hd : ∀ a z, putMv g kd i k j rts = setAt g a j z → doR g (kd, i, k, j, rts) = setAt g a j z := fun a z e => by
    unfold doR doMv
    rw [if_pos hv, if_pos hok]
    exact e
  by_cases e1 : kd = 1
  · subst e1
    exact ⟨m, i, j, _, ht, hnm, h6, hm, h4, h6', rfl, hd i _ rfl, setAt_tab ht h4 (or_rg (ht.el_rg _ _) hr), .inl ⟨rfl, rfl, and_or (ht.el_rg _ _) hr⟩⟩
  · by_cases e2 : kd = 2
    · subst e2
      exact ⟨m, k, j, _, ht, hnm, h6, hm, h5, h6', rfl, hd k _ rfl, setAt_tab ht h5 (or_rg (ht.el_rg _ _) hr), .inr (.inl ⟨rfl, rfl, and_or (ht.el_rg _ _) hr⟩)⟩
    · rw [if_neg (by simpa using e1), if_neg (by simpa using e2)] at hk
      have e3 : kd = 3 := by simpa using hk
      subst e3
      exact ⟨m, i, j, _, ht, hnm, h6, hm, h4, h6', rfl, hd i _ rfl, setAt_tab ht h4 (andn_rg (ht.el_rg _ _) hr), .inr (.inr ⟨rfl, rfl, and_andn (ht.el_rg _ _) hr⟩)⟩
/-- How many places have changed ahead of place i, jj, where place a, j alone may have (d). -/
def chg (d : Bool) (a j i jj : Nat) : Int := if d = true ∧ (a < i ∨ (a = i ∧ j < jj)) then 1 else 0
theorem chg_zero (d : Bool) (a j : Nat) : chg d a j 0 0 = 0 := by unfold chg; rw [if_neg (by omega)]
theorem chg_le (d : Bool) (a j i jj : Nat) : chg d a j i jj ≤ 1 ∧ 0 ≤ chg d a j i jj := by unfold chg; split <;> omega
theorem chg_row (d : Bool) {a j i m : Nat} (hj : j < m) : chg d a j i m = chg d a j (i + 1) 0 := by
  unfold chg
  congr 1
  rw [eq_iff_iff]
  constructor <;> rintro ⟨h1, h2⟩ <;> exact ⟨h1, by omega⟩
theorem chg_same (d : Bool) {a j i jj : Nat} (h : ¬ (d = true ∧ a = i ∧ j = jj)) : chg d a j i (jj + 1) = chg d a j i jj := by
  unfold chg
  congr 1
  rw [eq_iff_iff]
  constructor <;> rintro ⟨h1, h2⟩ <;> refine ⟨h1, ?_⟩
  · rcases h2 with h2 | ⟨h2, h3⟩
    · exact .inl h2
    · exact .inr ⟨h2, by have : j ≠ jj := fun e => h ⟨h1, h2, e⟩; omega⟩
  · omega
theorem chg_one {a j : Nat} : chg true a j a (j + 1) = chg true a j a j + 1 := by
  unfold chg
  rw [if_pos ⟨rfl, .inr ⟨rfl, by omega⟩⟩, if_neg (by omega)]
  rfl

set_option maxHeartbeats 2000000 in
theorem FnDoMove_walk (A : Option Addr) (n0 c0 : Nat) (code : List Int) (w : World) (h0 : Rd w 1 A n0 c0 (code.map (Value.int .u8))) (F0 : ∀ z ∈ code, (Lit.int .u8 z).wf = true) :
    Calls Try.prog 7 #[.slice A n0 c0] w fun e w' => e = .returned (.bool true) ∧ Ext w w' := by
  obtain ⟨bs, hbs⟩ := bytes_of F0
  rw [hbs] at h0
  have hle := h0.le
  have htop := h0.top
  by_cases hn : 1048576 < n0
  · go_enter Try.func7, Try.ntmps7
    go_wp2
    go_ret
    exact ⟨rfl, Below.refl _ _⟩
  go_enter Try.func7, Try.ntmps7
  go_wp2_with fail
  refine (DrawDoMove_any _ _ _ _ _ h0).mono ?_; rintro e w1 ⟨A1, n1, c1, g, kd, who, oth, thg, rts, rfl, hg, hn1, hn8, hb1⟩
  have hx : Ext w1 (w1.alloc (.cells #[.int .i64 kd, .int .i64 who, .int .i64 oth, .int .i64 thg, .int .i64 rts] 28)) := (Below.refl _ _).alloc (Nat.le_refl _) _
  have L0 := later_cell (w := w1.alloc (.cells #[.int .i64 kd, .int .i64 who, .int .i64 oth, .int .i64 thg, .int .i64 rts] 28)) (p := ⟨w1.heap.size, 0, none⟩) (v := .int .i64 kd) (by rw [World.cell?_alloc_new]; rfl)
  have L1 := later_cell (w := w1.alloc (.cells #[.int .i64 kd, .int .i64 who, .int .i64 oth, .int .i64 thg, .int .i64 rts] 28)) (p := ⟨w1.heap.size, 1, none⟩) (v := .int .i64 who) (by rw [World.cell?_alloc_new]; rfl)
  have L2 := later_cell (w := w1.alloc (.cells #[.int .i64 kd, .int .i64 who, .int .i64 oth, .int .i64 thg, .int .i64 rts] 28)) (p := ⟨w1.heap.size, 2, none⟩) (v := .int .i64 oth) (by rw [World.cell?_alloc_new]; rfl)
  have L3 := later_cell (w := w1.alloc (.cells #[.int .i64 kd, .int .i64 who, .int .i64 oth, .int .i64 thg, .int .i64 rts] 28)) (p := ⟨w1.heap.size, 3, none⟩) (v := .int .i64 thg) (by rw [World.cell?_alloc_new]; rfl)
  have L4 := later_cell (w := w1.alloc (.cells #[.int .i64 kd, .int .i64 who, .int .i64 oth, .int .i64 thg, .int .i64 rts] 28)) (p := ⟨w1.heap.size, 4, none⟩) (v := .int .i64 rts) (by rw [World.cell?_alloc_new]; rfl)
  have hg1 := hg.below hx
  have hbx := hb1.trans hx
  clear hb1 hg h0 hbs F0
  go_wp2_with fail
  refine (DoMove_any _ _ _ _ kd who oth thg rts _ hg1).mono ?_; rintro e w2 ⟨A2, c2, rfl, o2, hb2⟩
  have M0 := later_at L0 hb2
  have M1 := later_at L1 hb2
  have M2 := later_at L2 hb2
  have M3 := later_at L3 hb2
  have M4 := later_at L4 hb2
  go_wp2_with fail
  refine (specDoMove_any _ _ _ _ kd who oth thg rts _ (hg1.below hb2)).mono ?_; rintro e w3 ⟨A3, c3, rfl, o3, hb3⟩
  clear M0 M1 M2 M3 M4
  go_wp2_with fail
  refine (sameRows_any _ _ _ _ _ _ _ _ _ (o2.rdR.below hb3) o3.rdR).mono ?_; rintro e w4 ⟨rfl, hb4⟩; rw [(eqRs_iff _ _).2 rfl]
  have hb234 := Ext.trans hb2 (hb3.trans hb4)
  have hg4 := hg1.below hb234
  have hx4 := o2.rdR.below (hb3.trans hb4)
  have hb := hbx.trans hb234
  have N0 : ∀ n : Later w4, n.out.cell? ⟨w1.heap.size, 0, none⟩ = some (.int .i64 kd) := fun n => L0 ⟨n.out, Ext.trans hb234 n.ext⟩
  have N1 : ∀ n : Later w4, n.out.cell? ⟨w1.heap.size, 1, none⟩ = some (.int .i64 who) := fun n => L1 ⟨n.out, Ext.trans hb234 n.ext⟩
  have N2 : ∀ n : Later w4, n.out.cell? ⟨w1.heap.size, 2, none⟩ = some (.int .i64 oth) := fun n => L2 ⟨n.out, Ext.trans hb234 n.ext⟩
  have N3 : ∀ n : Later w4, n.out.cell? ⟨w1.heap.size, 3, none⟩ = some (.int .i64 thg) := fun n => L3 ⟨n.out, Ext.trans hb234 n.ext⟩
  have N4 : ∀ n : Later w4, n.out.cell? ⟨w1.heap.size, 4, none⟩ = some (.int .i64 rts) := fun n => L4 ⟨n.out, Ext.trans hb234 n.ext⟩
  clear L0 L1 L2 L3 L4 hb2 hb3 hb4 hb234 hbx hg1 hx o2 o3
  have hgl := hg4.lenR
  obtain ⟨t, ht⟩ : ∃ t, allowR g (kd, who, oth, thg, rts) = t := ⟨_, rfl⟩
  rw [ht]
  cases t with
  | false =>
    cases hv : gValid g with
    | false =>
      have e1 : (doR g (kd, who, oth, thg, rts)).length = 0 := by unfold doR; rw [hv]; rfl
      clear hx4 hg4 N0 N1 N2 N3 N4 ht
      go_wp2_with ((go_at_call 17; refine (alive_any _).mono ?_; rintro e w9 ⟨rfl, hb9⟩))
      go_ret
      exact ⟨rfl, hb.trans hb9⟩
    | true =>
      have e1 : doR g (kd, who, oth, thg, rts) = g := by
        unfold allowR at ht
        rw [hv, Bool.true_and] at ht
        unfold doR doMv
        rw [if_pos hv, if_neg (by rw [ht]; exact Bool.false_ne_true)]
      rw [e1, hgl] at hx4
      rw [e1, hgl]
      clear N0 N1 N2 N3 N4 ht hv e1
      go_wp2_with fail
      refine (sameRows_any _ _ _ _ _ _ _ _ _ hx4 hg4).mono ?_; rintro e w5 ⟨rfl, hb5⟩; rw [(eqRs_iff _ _).2 rfl]
      go_wp2_with ((go_at_call 17; refine (alive_any _).mono ?_; rintro e w9 ⟨rfl, hb9⟩))
      go_ret
      exact ⟨rfl, hb.trans (hb5.trans hb9)⟩
  | true =>
    obtain ⟨m, a, j, z, hT, hnm, h6, hm10, ha, hj, hthg, hdo, hT2, hkd⟩ := do_shape ht hgl
    have VAL := Lib.hid (valid_of_tab hT2 hnm h6 hm10)
    have HEL := fun i jj => setAt_el (a := i) (b := jj) (z := z) hT ha hj
    have hl2 : (setAt g a j z).length = n1 := hT2.len
    rw [hdo, hl2] at hx4
    rw [hdo, hl2]
    subst hthg
    have TT := Lib.hid hT
    have TT2 := Lib.hid hT2
    have HL := Lib.hid HEL
    have LEN := Lib.hid hl2
    have C0 := chg_zero (el g a j != z) a j
    clear ht hT hT2 hdo HEL hgl hl2
    go_wp2
    go_loopw [9, 10] (fun cc ii wr => ∃ i : Nat, i ≤ n1 ∧ ii = .int .i64 i ∧ cc = .int .i64 (chg (el g a j != z) a j i 0) ∧ Ext w4 wr) (fun _ ii _ => n1 - (intOf ii).toNat)
    case atStart => exact ⟨0, Nat.zero_le _, rfl, by rw [C0], Below.refl _ _⟩
    case round =>
      obtain ⟨i, hi, rfl, rfl, hE⟩ := hrel
      rename World => wo
      clear C0
      by_cases hin : i < n1
      · obtain ⟨b, off, b1, off1, cc1, rfl, g0, hm1, ht1, q0⟩ := (hg4.below hE).atEl TT.out hin (show 0 < m by omega)
        have G0 := later_cell g0
        clear q0 g0
        go_wp2
        go_loopw [9, 11] (fun cc jj wr => ∃ k : Nat, k ≤ m ∧ jj = .int .i64 k ∧ cc = .int .i64 (chg (el g a j != z) a j i k) ∧ Ext wo wr) (fun _ jj _ => m - (intOf jj).toNat)
        case atStart => exact ⟨0, Nat.zero_le _, rfl, rfl, Below.refl _ _⟩
        case round =>
          obtain ⟨k, hk, rfl, rfl, hE2⟩ := hrel
          have g0 := later_at G0 hE2
          rename World => wi
          by_cases hkm : k < m
          · have hE3 := hE.trans hE2
            obtain ⟨b', off', b1', off1', cc1', hA', g0', hm1', ht1', q1⟩ := (hg4.below hE3).atEl TT.out hin hkm
            simp only [Option.some.injEq, Addr.mk.injEq, and_true] at hA'
            obtain ⟨rfl, rfl⟩ := hA'
            have eq0 := g0.symm.trans g0'
            simp only [Option.some.injEq, Value.slice.injEq, Addr.mk.injEq, and_true, true_and] at eq0
            obtain ⟨⟨rfl, rfl⟩, rfl⟩ := eq0
            obtain ⟨b2, off2, b3, off3, cc3, rfl, x0, hm3, ht3, q3⟩ := (hx4.below hE3).atEl TT2.out hin hkm
            rw [HL.out i k] at q3
            have hb0 := chg_le (el g a j != z) a j i k
            clear g0'
            by_cases hd : (i = a ∧ k = j) ∧ el g a j ≠ z
            · obtain ⟨⟨rfl, rfl⟩, hne⟩ := hd
              rw [if_pos ⟨rfl, rfl⟩] at q3
              have hne' : ¬ z = el g i k := fun e => hne e.symm
              have hdt : (el g i k != z) = true := by simpa using hne
              have hstep : chg (el g i k != z) i k i (k + 1) = chg (el g i k != z) i k i k + 1 := by rw [hdt]; exact chg_one
              obtain ⟨y, hy⟩ : ∃ y, el g i k = y := ⟨_, rfl⟩
              obtain ⟨u, hu⟩ : ∃ u, chg (el g i k != z) i k i k = u := ⟨_, rfl⟩
              rw [hu] at hb0 hstep ⊢
              rw [hy] at q1 hne'
              have X0 := later_cell x0
              have Y0 := later_cell g0
              have Q1 := later_cell q1
              have Q3 := later_cell q3
              have HST := Lib.hid hstep
              clear q1 q3 hu hy hne hdt hstep hx4 hg4 HL VAL TT TT2 N0 N1 N2 N3 N4 G0 hkd
              go_wp2
              (refine wp_region_later (by kernel_rfl) (by kernel_rfl) ?_; repeat (any_goals (first | (with_reducible refine wpQuiet_nil ?_; intro wq hq) | go_big_quiet_step ((fail)))))
              clear X0 Y0 Q1 Q3 x0 g0
              go_wp2
              go_roundw
              case rel => exact ⟨k + 1, by omega, by go_num, by rw [HST.out], hE2.trans hq⟩
              case measure => simp [intOf]; omega
            · have he : (if i = a ∧ k = j then z else el g i k) = el g i k := by
                split
                · next h =>
                  obtain ⟨rfl, rfl⟩ := h
                  by_cases h2 : el g i k = z
                  · exact h2.symm
                  · exact absurd ⟨⟨rfl, rfl⟩, h2⟩ hd
                · rfl
              rw [he] at q3
              have hstep : chg (el g a j != z) a j i (k + 1) = chg (el g a j != z) a j i k := chg_same _ (fun h => hd ⟨⟨h.2.1.symm, h.2.2.symm⟩, by simpa using h.1⟩)
              obtain ⟨y, hy⟩ : ∃ y, el g i k = y := ⟨_, rfl⟩
              rw [hy] at q1 q3
              obtain ⟨u, hu⟩ : ∃ u, chg (el g a j != z) a j i k = u := ⟨_, rfl⟩
              rw [hu] at hb0 hstep ⊢
              have X0 := later_cell x0
              have Y0 := later_cell g0
              have Q1 := later_cell q1
              have Q3 := later_cell q3
              have HST := Lib.hid hstep
              clear q1 q3 hu hy hstep hx4 hg4 HL VAL TT TT2 N0 N1 N2 N3 N4 G0 hkd hd he
              go_wp2
              (refine wp_region_later (by kernel_rfl) (by kernel_rfl) ?_; repeat (any_goals (first | (with_reducible refine wpQuiet_nil ?_; intro wq hq) | go_big_quiet_step ((fail)))))
              clear X0 Y0 Q1 Q3 x0 g0
              go_wp2
              go_roundw
              case rel => exact ⟨k + 1, by omega, by go_num, by rw [HST.out], hE2.trans hq⟩
              case measure => simp [intOf]; omega
          · obtain rfl : k = m := by omega
            have hrow := Lib.hid (chg_row (el g a j != z) (a := a) (i := i) hj)
            have hb0 := chg_le (el g a j != z) a j i k
            clear hx4 hg4 HL VAL TT TT2 N0 N1 N2 N3 N4 G0 hkd
            go_wp2
            go_roundw
            case rel => exact ⟨i + 1, by omega, by go_num, by rw [hrow.out], hE.trans hE2⟩
            case measure => simp [intOf]; omega
      · have hb0 := chg_le (el g a j != z) a j i 0
        obtain ⟨u, hu⟩ : ∃ u, chg (el g a j != z) a j i 0 = u := ⟨_, rfl⟩
        rw [hu] at hb0 ⊢
        have hxo := hx4.below hE
        obtain ⟨b2, off2, b3, off3, cc3, rfl, x0, hm3, ht3, q3⟩ := hxo.atEl TT2.out ha hj
        rw [HL.out a j, if_pos ⟨rfl, rfl⟩] at q3
        have X0 := later_cell x0
        have Q3 := later_cell q3
        have P0 : ∀ n : Later wo, n.out.cell? ⟨w1.heap.size, 0, none⟩ = some (.int .i64 kd) := fun n => N0 ⟨n.out, Ext.trans hE n.ext⟩
        have p0 := later_here P0
        have P1 : ∀ n : Later wo, n.out.cell? ⟨w1.heap.size, 1, none⟩ = some (.int .i64 who) := fun n => N1 ⟨n.out, Ext.trans hE n.ext⟩
        have p1 := later_here P1
        have P2 : ∀ n : Later wo, n.out.cell? ⟨w1.heap.size, 2, none⟩ = some (.int .i64 oth) := fun n => N2 ⟨n.out, Ext.trans hE n.ext⟩
        have p2 := later_here P2
        have P3 : ∀ n : Later wo, n.out.cell? ⟨w1.heap.size, 3, none⟩ = some (.int .i64 (j : Int)) := fun n => N3 ⟨n.out, Ext.trans hE n.ext⟩
        have p3 := later_here P3
        have P4 : ∀ n : Later wo, n.out.cell? ⟨w1.heap.size, 4, none⟩ = some (.int .i64 rts) := fun n => N4 ⟨n.out, Ext.trans hE n.ext⟩
        have p4 := later_here P4
        clear hx4 hg4 HL TT TT2 N0 N1 N2 N3 N4 hu x0 q3
        rcases hkd with ⟨rfl, rfl, hz⟩ | ⟨rfl, rfl, hz⟩ | ⟨rfl, rfl, hz⟩
        all_goals
          go_wp2
          (refine wp_region_later (by kernel_rfl) (by kernel_rfl) ?_; repeat (any_goals (first | (with_reducible refine wpQuiet_nil ?_; intro wq hq) | go_big_quiet_step ((fail)))))
          have hx5 := hxo.below hq
          have p0' := later_at P0 hq
          have p4' := later_at P4 hq
          have hle1 := hb0.1
          clear X0 Q3 P1 P2 P3 p0 p1 p2 p3 p4 hxo
          go_wp2_with fail
          refine (GraphValid_any _ _ _ _ _ hx5).mono ?_; rintro e w6 ⟨rfl, hb6⟩; rw [VAL.out]
          have r0 := later_at P0 (hq.trans hb6)
          have r4 := later_at P4 (hq.trans hb6)
          clear P0 P4 p0' p4' VAL hx5
          go_wp2
          go_ret
          exact ⟨ret_bool (by first | rfl | simp [hz]), hb.trans (hE.trans (hq.trans hb6))⟩
end Go.Proofs.Ytbljkahdhckegaa
