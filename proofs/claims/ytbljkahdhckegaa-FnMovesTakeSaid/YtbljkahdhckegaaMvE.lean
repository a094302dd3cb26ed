/-
  DoMove, the program's and the reference's.
-/
import Derived.Test.YtbljkahdhckegaaMvD
import Derived.Test.YtbljkahdhckegaaClA
namespace Go.Proofs.Ytbljkahdhckegaa
open Go.RowKit

theorem doR_size (g : List (List Int)) (v : Mv) : (doR g v).length + tot (doR g v) ≤ 1048576 := by
  unfold doR
  cases hv : gValid g with
  | false => simp [tot]
  | true =>
    obtain ⟨n, m, ht, _, h6, hm, _⟩ := tab_of_valid hv
    exact tab_size (doMv_tab ht v) h6 hm

set_option maxHeartbeats 1000000 in
theorem DoMove_any (A : Option Addr) (n c : Nat) (g : List (List Int)) (kd who oth thg rts : Int) (w : World) (h : RdR w A n c g) :
    Calls Try.prog 19 #[.slice A n c, .agg #[.int .i64 kd, .int .i64 who, .int .i64 oth, .int .i64 thg, .int .i64 rts]] w fun e w' => ∃ A' c', e = .returned (.tuple #[.slice A' (doR g (kd, who, oth, thg, rts)).length c', .bool (allowR g (kd, who, oth, thg, rts))]) ∧
      FrR w' w.heap.size w'.heap.size A' (doR g (kd, who, oth, thg, rts)).length c' (doR g (kd, who, oth, thg, rts)) ∧ Ext w w' := by
  have hx : Ext w (w.alloc (.cells #[.int .i64 kd, .int .i64 who, .int .i64 oth, .int .i64 thg, .int .i64 rts] 28)) := (Below.refl _ _).alloc (Nat.le_refl _) _
  have L0 := later_cell (w := w.alloc (.cells #[.int .i64 kd, .int .i64 who, .int .i64 oth, .int .i64 thg, .int .i64 rts] 28)) (p := ⟨w.heap.size, 0, none⟩) (v := .int .i64 kd) (by rw [World.cell?_alloc_new]; rfl)
  have L1 := later_cell (w := w.alloc (.cells #[.int .i64 kd, .int .i64 who, .int .i64 oth, .int .i64 thg, .int .i64 rts] 28)) (p := ⟨w.heap.size, 1, none⟩) (v := .int .i64 who) (by rw [World.cell?_alloc_new]; rfl)
  have L2 := later_cell (w := w.alloc (.cells #[.int .i64 kd, .int .i64 who, .int .i64 oth, .int .i64 thg, .int .i64 rts] 28)) (p := ⟨w.heap.size, 2, none⟩) (v := .int .i64 oth) (by rw [World.cell?_alloc_new]; rfl)
  have L3 := later_cell (w := w.alloc (.cells #[.int .i64 kd, .int .i64 who, .int .i64 oth, .int .i64 thg, .int .i64 rts] 28)) (p := ⟨w.heap.size, 3, none⟩) (v := .int .i64 thg) (by rw [World.cell?_alloc_new]; rfl)
  have L4 := later_cell (w := w.alloc (.cells #[.int .i64 kd, .int .i64 who, .int .i64 oth, .int .i64 thg, .int .i64 rts] 28)) (p := ⟨w.heap.size, 4, none⟩) (v := .int .i64 rts) (by rw [World.cell?_alloc_new]; rfl)
  have hR := h.below hx
  unfold doR allowR
  cases hv : gValid g with
  | false =>
    clear L0 L1 L2 L3 L4 h
    go_enter Try.func19, Try.ntmps19
    go_wp2_with fail
    refine (GraphValid_any _ _ _ _ _ hR).mono ?_; rintro e w1 ⟨rfl, hb1⟩; rw [hv]
    go_wp2
    go_ret2
    exact ⟨none, 0, rfl, ⟨[], .inl ⟨none, rfl, rfl, rfl⟩, rfl, Rws.nil, by simp⟩, hx.trans hb1⟩
  | true =>
    obtain ⟨n', m, ht, hnm, h6, hm, _⟩ := tab_of_valid hv
    have hn : n' = n := by rw [← ht.len, h.lenR]
    subst hn
    have HV := Lib.hid hv
    have HT := Lib.hid ht
    clear hv ht h
    go_enter Try.func19, Try.ntmps19
    go_wp2_with fail
    refine (GraphValid_any _ _ _ _ _ hR).mono ?_; rintro e w1 ⟨rfl, hb1⟩; rw [HV.out]
    go_wp2_with fail
    refine (copyGraph_any _ _ _ _ _ (hR.below hb1) (by omega) (fun x hx => by rw [HT.out.row x hx]; omega)).mono ?_; rintro e w2 ⟨A2, c2, rfl, o2, hb2⟩
    have hb12 := Ext.trans hb1 hb2
    have M0 := later_at L0 hb12
    have M1 := later_at L1 hb12
    have M2 := later_at L2 hb12
    have M3 := later_at L3 hb12
    have M4 := later_at L4 hb12
    clear L0 L1 L2 L3 L4 hR
    go_wp2_with fail
    refine (do_any _ _ _ m _ _ _ _ _ _ _ _ _ o2 HT.out hnm hm hb2.size).mono ?_; rintro e w3 ⟨rfl, o3, hT3⟩
    have hlen : (doMv g (kd, who, oth, thg, rts)).length = n' := (doMv_tab HT.out _).len
    have hsz : w.heap.size ≤ w1.heap.size := (hx.trans hb1).size
    have HLN := Lib.hid hlen
    clear hlen
    go_wp2
    go_ret2
    simp only []
    rw [HLN.out]
    exact ⟨_, _, rfl, (o3.mono hsz).monoE hT3.size, ext_tch (hx.trans hb12) hT3 (fun k hk => Nat.le_trans hsz hk.1)⟩

theorem take_all_rows {g : List (List Int)} {k : Nat} (h : g.length = k) : g.take k = g := List.take_of_length_le (by omega)

set_option maxHeartbeats 8000000 in
theorem specDoMove_any (A : Option Addr) (n c : Nat) (g : List (List Int)) (kd who oth thg rts : Int) (w : World) (h : RdR w A n c g) :
    Calls Try.prog 18 #[.slice A n c, .agg #[.int .i64 kd, .int .i64 who, .int .i64 oth, .int .i64 thg, .int .i64 rts]] w fun e w' => ∃ A' c', e = .returned (.tuple #[.slice A' (doR g (kd, who, oth, thg, rts)).length c', .bool (allowR g (kd, who, oth, thg, rts))]) ∧
      FrR w' w.heap.size w'.heap.size A' (doR g (kd, who, oth, thg, rts)).length c' (doR g (kd, who, oth, thg, rts)) ∧ Ext w w' := by
  have hx : Ext w (w.alloc (.cells #[.int .i64 kd, .int .i64 who, .int .i64 oth, .int .i64 thg, .int .i64 rts] 28)) := (Below.refl _ _).alloc (Nat.le_refl _) _
  have L0 := later_cell (w := w.alloc (.cells #[.int .i64 kd, .int .i64 who, .int .i64 oth, .int .i64 thg, .int .i64 rts] 28)) (p := ⟨w.heap.size, 0, none⟩) (v := .int .i64 kd) (by rw [World.cell?_alloc_new]; rfl)
  have L1 := later_cell (w := w.alloc (.cells #[.int .i64 kd, .int .i64 who, .int .i64 oth, .int .i64 thg, .int .i64 rts] 28)) (p := ⟨w.heap.size, 1, none⟩) (v := .int .i64 who) (by rw [World.cell?_alloc_new]; rfl)
  have L2 := later_cell (w := w.alloc (.cells #[.int .i64 kd, .int .i64 who, .int .i64 oth, .int .i64 thg, .int .i64 rts] 28)) (p := ⟨w.heap.size, 2, none⟩) (v := .int .i64 oth) (by rw [World.cell?_alloc_new]; rfl)
  have L3 := later_cell (w := w.alloc (.cells #[.int .i64 kd, .int .i64 who, .int .i64 oth, .int .i64 thg, .int .i64 rts] 28)) (p := ⟨w.heap.size, 3, none⟩) (v := .int .i64 thg) (by rw [World.cell?_alloc_new]; rfl)
  have L4 := later_cell (w := w.alloc (.cells #[.int .i64 kd, .int .i64 who, .int .i64 oth, .int .i64 thg, .int .i64 rts] 28)) (p := ⟨w.heap.size, 4, none⟩) (v := .int .i64 rts) (by rw [World.cell?_alloc_new]; rfl)
  have hx0 : Ext (w.alloc (.cells #[.int .i64 kd, .int .i64 who, .int .i64 oth, .int .i64 thg, .int .i64 rts] 28)) ((w.alloc (.cells #[.int .i64 kd, .int .i64 who, .int .i64 oth, .int .i64 thg, .int .i64 rts] 28)).alloc (.cells #[] 40)) := (Below.refl _ _).alloc (Nat.le_refl _) _
  have hF0 : Row ((w.alloc (.cells #[.int .i64 kd, .int .i64 who, .int .i64 oth, .int .i64 thg, .int .i64 rts] 28)).alloc (.cells #[] 40)) (w.heap.size + 1) 40 1 (.slice (some ⟨w.heap.size + 1, 0, none⟩) 0 0) 0 (([] : List Hd).map hv) := by
    have := Row.lit (w := w.alloc (.cells #[.int .i64 kd, .int .i64 who, .int .i64 oth, .int .i64 thg, .int .i64 rts] 28)) (B := w.heap.size + 1) (e := 40) (sz := 1) (n := 0) #[] (by simp) (by unfold maxLen; omega) (by simp)
    simpa using this
  have hR := h.below (hx.trans hx0)
  unfold doR allowR
  cases hgv : gValid g with
  | false =>
    clear L0 L1 L2 L3 L4 h
    go_enter Try.func18, Try.ntmps18
    go_wp2_with fail
    refine (specGraphValid_any _ _ _ _ _ hR).mono ?_; rintro e w1 ⟨rfl, hb1⟩; rw [hgv]
    go_wp2
    go_ret2
    exact ⟨_, _, rfl, ⟨[], .inr ((hF0.below hb1).mono (by omega)), rfl, Rws.nil, by simp⟩, hx.trans (hx0.trans hb1)⟩
  | true =>
    obtain ⟨n', m, ht, hnm, h6, hm, _⟩ := tab_of_valid hgv
    have hn : n' = n := by rw [← ht.len, h.lenR]
    subst hn
    have hle := h.le
    have htop := h.top
    have HV := Lib.hid hgv
    have HT := Lib.hid ht
    obtain ⟨i0, hi, hz0, hz1, hz2⟩ := info_parts Try.infoInt
    obtain ⟨i1, ki, kz0, kz1, kz2⟩ := info_parts Try.infoRow
    clear hgv ht
    go_enter Try.func18, Try.ntmps18
    go_wp2_with fail
    refine (specGraphValid_any _ _ _ _ _ hR).mono ?_; rintro e w1 ⟨rfl, hb1⟩; rw [HV.out]
    have hF1 := hF0.below hb1
    have hb := hx0.trans hb1
    clear hR hF0 hx0 hb1
    go_wp2
    go_loopw [6, 7] (fun out ii wr => ∃ (i : Nat) (Ao : Option Addr) (co : Nat) (hs : List Hd), i ≤ n' ∧ ii = .int .i64 i ∧ out = .slice Ao i co ∧ Hid (hs.length = i) ∧ Row wr (w.heap.size + 1) 40 1 (.slice Ao i co) i (hs.map hv) ∧ Rws wr (w.heap.size + 1) hs (g.take i) ∧ Ext (w.alloc (.cells #[.int .i64 kd, .int .i64 who, .int .i64 oth, .int .i64 thg, .int .i64 rts] 28)) wr) (fun _ ii _ => n' - (intOf ii).toNat)
    case atStart => exact ⟨0, _, _, [], Nat.zero_le _, rfl, rfl, rfl, hF1, by rw [List.take_zero]; exact Rws.nil, hb⟩
    case round =>
      clear hF1 hb
      obtain ⟨i, Ao, co, hs, hin, rfl, rfl, HH, hO, hR, hb⟩ := hrel
      have hbx := hx.trans hb
      have hbs : w.heap.size + 1 ≤ wr.heap.size := by have := hb.size; simpa using this
      by_cases hlt : i < n'
      · obtain ⟨b, off, Ai, mi, ci, xi, hA, Xi, gi, Ri⟩ := h.atR hlt
        have hmi : m = mi := by rw [← Ri.lenI]; exact (HT.out.row _ (List.mem_of_getElem? Xi.out)).symm
        subst hmi hA
        have hal : Ext wr (wr.alloc (.cells #[] 3)) := (Below.refl _ _).alloc (Nat.le_refl _) _
        have hFl : Fr (wr.alloc (.cells #[] 3)) wr.heap.size 3 1 (.slice (some ⟨wr.heap.size, 0, none⟩) 0 0) 0 [] := .inr (Row.lit (n := 0) #[] (by simp) (by unfold maxLen; omega) (Nat.le_refl _))
        have hRl := (Ri.below hbx).below hal
        have Gi := kept_of_below (hbx.trans hal) _ _ gi
        have hle0 := Nat.le_of_lt (show wr.heap.size < (wr.alloc (.cells #[] 3)).heap.size by simp)
        clear gi Ri
        go_wp2_with (first | (at_builtin; refine wpList_append_fr _ rfl _ _ 40 rfl wr.heap.size 3 i0 _ 1 8 Try.underlying40 hi hz0 hz1 hz2 rfl (by omega) _ 0 [] rfl hFl _ m ci _ rfl hRl (one_cI _) (by unfold maxLen; omega) (by omega) hle0 ?_; intro Ar cr wa row hFa hga hrow; rw [Nat.zero_add, List.nil_append] at hFa; rw [Nat.zero_add]; have hba : Ext wr wa := ext_grown hal hga (fun k hk => (hrow k hk).1); have hR2 := hR.snoc hba hbs hFa; have hal2 : Ext wa (wa.alloc (.cells #[.slice Ar m cr] 40)) := (Below.refl _ _).alloc (Nat.le_refl _) _; have hO3 := (hO.below hba).below hal2; have hR3 := hR2.below hal2; have hRl2 : Rd (wa.alloc (.cells #[.slice Ar m cr] 40)) 1 (some ⟨wa.heap.size, 0, none⟩) 1 1 (([(Ar, m, cr)] : List Hd).map hv) := Rd.lit (sz := 1) (n := 1) #[.slice Ar m cr] rfl (by omega); have hbs2 := Nat.le_trans (Nat.le_trans hbs hba.size) hal2.size; clear hFl hRl hFa hO hR hR2) | (at_builtin; refine wpList_append_fr _ rfl _ _ 22 rfl (w.heap.size + 1) 40 i1 _ 1 24 Try.underlying22 ki kz0 kz1 kz2 rfl (by omega) _ i _ rfl (.inr hO3) _ 1 1 _ rfl hRl2 (one_hv _) (by unfold maxLen; omega) (by omega) hbs2 ?_; intro A3 c3 w3 row3 hF4 hg3 hrow3))
        rw [← List.map_append] at hF4
        have hO4 := hF4.row (by omega)
        have hR4 := hR3.asideRow hO3 hg3 (fun k hk => (hrow3 k hk).2.2)
        rw [← take_of_get Xi.out] at hR4
        have hbw0 := (hb.trans hba).trans hal2
        have hb4 : Ext (w.alloc (.cells #[.int .i64 kd, .int .i64 who, .int .i64 oth, .int .i64 thg, .int .i64 rts] 28)) w3 := ext_grown hbw0 hg3 (fun k hk => by have := (hrow3 k hk).1; simpa using this)
        clear hF4 hR3 hO3 h
        go_roundw
        case rel => exact ⟨i + 1, A3, c3, _, by omega, by go_num, rfl, by show (hs ++ [_]).length = i + 1; rw [List.length_append, HH.out]; rfl, hO4, hR4, hb4⟩
        case measure => simp [intOf]; omega
      · have hie : i = n' := by omega
        have HOb : Fr wr (w.heap.size + 1) 40 1 (.slice Ao n' co) n' (hs.map hv) := by rw [← hie]; exact .inr hO
        have hRb : Rws wr (w.heap.size + 1) hs g := by rw [hie, take_all_rows HT.out.len] at hR; exact hR
        have HLEN : Hid (hs.length = n') := by rw [← hie]; exact HH
        have hRg := h.below hbx
        have hav : allowR g (kd, who, oth, thg, rts) = okMv g (kd, who, oth, thg, rts) := by unfold allowR; rw [HV.out, Bool.true_and]
        have M0 := later_at L0 hb
        have M1 := later_at L1 hb
        have M2 := later_at L2 hb
        have M3 := later_at L3 hb
        have M4 := later_at L4 hb
        subst hie
        clear hO hR HH h
        cases hok : okMv g (kd, who, oth, thg, rts) with
        | false =>
          rw [hok] at hav
          have HAV := Lib.hid hav
          have hdo : doMv g (kd, who, oth, thg, rts) = g := by unfold doMv; rw [hok]; rfl
          have HDO := Lib.hid hdo
          have HOK := Lib.hid hok
          clear hav hdo hok L0 L1 L2 L3 L4
          go_wp2_with fail
          refine (specMoveAllowed_any _ _ _ _ _ _ _ _ _ _ hRg).mono ?_; rintro e w3 ⟨rfl, hb3⟩; rw [HAV.out]
          have hO3 := HOb.below hb3
          have hR3 := hRb.below hb3
          clear HOb hRb hRg
          go_wp2
          go_ret2
          simp only []
          rw [HDO.out, HT.out.len, HOK.out]
          exact ⟨_, _, rfl, ⟨hs, hO3.mono (by omega), HLEN.out, hR3.mono (by omega), fun i x g hi hg => (hR3.blk hi hg).2⟩, hbx.trans hb3⟩
        | true =>
          rw [hok] at hav
          have hok2 := hok
          unfold okMv at hok2
          rw [Bool.and_eq_true, HT.out.len] at hok2
          obtain ⟨i2, k, j, h1, h2, h3, h4, h5, h6, h7, h8⟩ := rngMv_iff.1 hok2.1
          have hn0 : 0 < i := by omega
          rw [len0_tab HT.out hn0] at h6
          simp only at h1 h2 h3 h7 h8
          subst h1 h2 h3
          have hdo : doMv g (kd, i2, k, j, rts) = putMv g kd i2 k j rts := by unfold doMv; rw [hok]; simp
          have hlen2 : (doMv g (kd, i2, k, j, rts)).length = i := (doMv_tab HT.out _).len
          rw [hdo] at hlen2
          have HAV := Lib.hid hav
          have HDO := Lib.hid hdo
          have HOK := Lib.hid hok
          have HL2 := Lib.hid hlen2
          clear hav hdo hok hok2 hlen2
          go_wp2_with fail
          refine (specMoveAllowed_any _ _ _ _ _ _ _ _ _ _ hRg).mono ?_; rintro e w3 ⟨rfl, hb3⟩; rw [HAV.out]
          have hd3 : Ext wr w3.drew := hb3.drew
          have hO := HOb.below hd3
          have hR := hRb.below hd3
          have hT1 := hb.trans hd3
          replace M0 := later_at L0 (hb.trans hb3)
          replace M1 := later_at L1 (hb.trans hb3)
          replace M2 := later_at L2 (hb.trans hb3)
          replace M3 := later_at L3 (hb.trans hb3)
          replace M4 := later_at L4 (hb.trans hb3)
          have hcc := hO.rd'.2.le
          have hct := hO.rd'.2.top
          clear L0 L1 L2 L3 L4 HOb hRb hRg hb3 hd3
          by_cases hk1 : kd = 1
          · subst hk1
            obtain ⟨b, off, gb, m4, c4, z, hA, gh, hm4, hmc4, hct4, hhd, Z, qz, fz, hBg, hW⟩ := rws_at hO HLEN.out hR h4 (xs := rowAt g i2) (set_self_row (by rw [HT.out.len]; exact h4)) (show j < (rowAt g i2).length by rw [rowAt_len HT.out.row (by rw [HT.out.len]; exact h4)]; exact h6)
            rw [rowAt_len HT.out.row (by rw [HT.out.len]; exact h4)] at hm4
            subst hm4 hA
            have hze : z = el g i2 j := by
              have := Z.out
              unfold el
              rw [List.getD_eq_getElem?_getD, this]; rfl
            obtain ⟨w1', w2', w3'⟩ := hW (orI z rts)
            have hput : putMv g 1 i2 k j rts = g.set i2 ((rowAt g i2).set j (orI z rts)) := by unfold putMv; simp only [beq_self_eq_true, if_true]; rw [hze]; rfl
            have HP := Lib.hid hput
            have hT2 := ext_grown hT1 w3' (fun k hk => by cases hk; simpa using hBg)
            clear hW Z hhd hze hput hO hR hT1 w3'
            go_wp2
            go_still_tail 20, (by kernel_rfl)
            change wpList _ _ _ _ _ w3.drew
            go_wp2
            go_ret2
            simp only []
            rw [HDO.out, HL2.out, HP.out, HOK.out]
            exact ⟨_, _, rfl, ⟨hs, w2'.mono (by omega), HLEN.out, w1'.mono (by omega), fun i x g hi hg => (w1'.blk hi hg).2⟩, hx.trans hT2⟩
          · have hk1' : (kd == 1) = false := by simpa using hk1
            by_cases hk2 : kd = 2
            · subst hk2
              obtain ⟨b, off, gb, m4, c4, z, hA, gh, hm4, hmc4, hct4, hhd, Z, qz, fz, hBg, hW⟩ := rws_at hO HLEN.out hR h5 (xs := rowAt g k) (set_self_row (by rw [HT.out.len]; exact h5)) (show j < (rowAt g k).length by rw [rowAt_len HT.out.row (by rw [HT.out.len]; exact h5)]; exact h6)
              rw [rowAt_len HT.out.row (by rw [HT.out.len]; exact h5)] at hm4
              subst hm4 hA
              have hze : z = el g k j := by
                have := Z.out
                unfold el
                rw [List.getD_eq_getElem?_getD, this]; rfl
              obtain ⟨w1', w2', w3'⟩ := hW (orI z rts)
              have hput : putMv g 2 i2 k j rts = g.set k ((rowAt g k).set j (orI z rts)) := by unfold putMv; simp only [show ((2 : Int) == 1) = false from rfl, beq_self_eq_true, if_true, Bool.false_eq_true, if_false]; rw [hze]; rfl
              have HP := Lib.hid hput
              have hT2 := ext_grown hT1 w3' (fun k hk => by cases hk; simpa using hBg)
              clear hW Z hhd hze hput hO hR hT1 w3'
              go_wp2
              go_still_tail 20, (by kernel_rfl)
              change wpList _ _ _ _ _ w3.drew
              go_wp2
              go_ret2
              simp only []
              rw [HDO.out, HL2.out, HP.out, HOK.out]
              exact ⟨_, _, rfl, ⟨hs, w2'.mono (by omega), HLEN.out, w1'.mono (by omega), fun i x g hi hg => (w1'.blk hi hg).2⟩, hx.trans hT2⟩
            · have hk2' : (kd == 2) = false := by simpa using hk2
              clear hk1 hk2
              obtain ⟨b, off, gb, m4, c4, z, hA, gh, hm4, hmc4, hct4, hhd, Z, qz, fz, hBg, hW⟩ := rws_at hO HLEN.out hR h4 (xs := rowAt g i2) (set_self_row (by rw [HT.out.len]; exact h4)) (show j < (rowAt g i2).length by rw [rowAt_len HT.out.row (by rw [HT.out.len]; exact h4)]; exact h6)
              rw [rowAt_len HT.out.row (by rw [HT.out.len]; exact h4)] at hm4
              subst hm4 hA
              have hze : z = el g i2 j := by
                have := Z.out
                unfold el
                rw [List.getD_eq_getElem?_getD, this]; rfl
              obtain ⟨w1', w2', w3'⟩ := hW (bits .andNot .i64 z rts)
              have hput : putMv g kd i2 k j rts = g.set i2 ((rowAt g i2).set j (bits .andNot .i64 z rts)) := by unfold putMv; simp only [hk1', hk2', Bool.false_eq_true, if_false]; rw [hze]; rfl
              have HP := Lib.hid hput
              have hT2 := ext_grown hT1 w3' (fun k hk => by cases hk; simpa using hBg)
              clear hW Z hhd hze hput hO hR hT1 w3'
              go_wp2
              go_still_tail 20, (by kernel_rfl)
              change wpList _ _ _ _ _ w3.drew
              go_wp2
              go_ret2
              simp only []
              rw [HDO.out, HL2.out, HP.out, HOK.out]
              exact ⟨_, _, rfl, ⟨hs, w2'.mono (by omega), HLEN.out, w1'.mono (by omega), fun i x g hi hg => (w1'.blk hi hg).2⟩, hx.trans hT2⟩
end Go.Proofs.Ytbljkahdhckegaa
