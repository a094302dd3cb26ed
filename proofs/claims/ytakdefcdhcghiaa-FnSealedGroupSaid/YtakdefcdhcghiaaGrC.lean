/-
  GrowGraph, the program's and the reference's.
-/
import Derived.Test.YtakdefcdhcghiaaGrB
import Derived.StillTailTactics
namespace Go.Proofs.Ytakdefcdhcghiaa
open Go.RowKit

def growR (xss : List (List Int)) : List (List Int) := if gValid xss then growG xss else []
theorem growR_size (xss : List (List Int)) : (growR xss).length + tot (growR xss) ≤ 1048576 := by
  unfold growR
  cases hv : gValid xss with
  | false => simp [tot]
  | true =>
    obtain ⟨h6, hr⟩ := gValid_rows hv
    simp only [↓reduceIte]
    have h1 : (growG xss).length ≤ 6 := by rw [growG_len]; exact h6
    have h2 : ∀ xs ∈ growG xss, xs.length ≤ 10 := by
      intro xs hx
      have hm : xs.length = len0 xss := growG_rows (fun ys hy => (hr ys hy).1) xs hx
      unfold growG at hx
      obtain ⟨i, hi, _⟩ := List.mem_map.1 hx
      have hil : i < xss.length := by simpa using hi
      obtain ⟨ys, hy⟩ := get_of_lt (xs := xss) rfl (show 0 < xss.length by omega)
      have := hr ys (List.mem_of_getElem? hy)
      omega
    have h3 : ∀ l : List (List Int), (∀ xs ∈ l, xs.length ≤ 10) → tot l ≤ l.length * 10 := by
      intro l
      induction l with
      | nil => intro _; simp [tot]
      | cons x r ih => intro h; have := ih fun y hy => h y (by simp [hy]); have := h x (by simp); simp only [tot, List.length_cons]; omega
    have := h3 _ h2
    omega

set_option maxHeartbeats 400000 in
theorem GrowGraph_any (A : Option Addr) (n c : Nat) (xss : List (List Int)) (w : World) (h : RdR w A n c xss) :
    Calls Try.prog 30 #[.slice A n c] w fun e w' => ∃ A' c', e = .returned (.slice A' (growR xss).length c') ∧ FrR w' w.heap.size w'.heap.size A' (growR xss).length c' (growR xss) ∧ Ext w w' := by
  unfold growR
  cases hv : gValid xss with
  | false =>
    go_enter Try.func30, Try.ntmps30
    go_wp2_with fail
    refine (GraphValid_any _ _ _ _ _ h).mono ?_; rintro e w1 ⟨rfl, hb1⟩; rw [hv]
    go_wp2
    go_ret
    exact ⟨none, 0, rfl, ⟨[], .inl ⟨none, rfl, rfl, rfl⟩, rfl, Rws.nil, by simp⟩, hb1⟩
  | true =>
    obtain ⟨h6, hr⟩ := gValid_rows hv
    have hn := h.lenR
    have hmx : xss.length ≤ len0 xss ∧ len0 xss ≤ 10 ∨ xss = [] := by
      cases xss with
      | nil => exact .inr rfl
      | cons x r => have := hr x (by simp); exact .inl (by omega)
    obtain ⟨m, hm1, hm2, hm3⟩ : ∃ m, (∀ xs ∈ xss, xs.length = m) ∧ xss.length ≤ m ∧ m ≤ 1048576 := by
      rcases hmx with h1 | rfl
      · exact ⟨len0 xss, fun xs hx => (hr xs hx).1, h1.1, by omega⟩
      · exact ⟨0, by simp, by simp, by omega⟩
    have HN := Lib.hid hn
    have hnm : n ≤ m := by omega
    have hv' : Hid (gValid xss = true) := hv
    clear hn hr h6 hmx hm2
    have hvv : gValid xss = true := hv
    go_enter Try.func30, Try.ntmps30
    go_wp2_with fail
    refine (GraphValid_any _ _ _ _ _ h).mono ?_; rintro e w1 ⟨rfl, hb1⟩; rw [hvv]
    go_wp2_with fail
    refine (grow_any _ _ _ _ _ (h.below hb1) m hm1 hnm hm3).mono ?_; rintro e w2 ⟨A2, c2, rfl, o2, hb2⟩
    go_wp2
    go_ret
    have e : (growG xss).length = n := by rw [growG_len, HN.out]
    rw [e]
    exact ⟨_, _, rfl, o2.mono hb1.size, Ext.trans hb1 hb2⟩

theorem Rws.asideRow {w w' : World} {B B2 n : Nat} {hs : List Hd} {xss : List (List Int)} {v : Value} {cells : List Value} {row : Option Nat} (h : Rws w B hs xss) (hO : Row w B2 46 1 v n cells) (hg : w.grownBy w' row) (hr : ∀ k, row = some k → v.ownBlock = some k) : Rws w' B hs xss := by
  refine h.keep fun i x g hx hbk hlt => hg.block g hlt fun e => ?_
  obtain ⟨xs, _, hF⟩ := h.get hx
  have hv := hr g e.symm
  obtain ⟨g2, c2, cur2, rfl, _, hh2, _⟩ := hO.blk
  simp only [Value.ownBlock, Option.some.injEq] at hv
  subst hv
  obtain ⟨A, m, c⟩ := x
  have hF' : Fr w B 3 1 (.slice A m c) m (cI xs) := hF
  unfold blkC at hbk
  split at hbk
  · cases hbk
  · next hc =>
    rcases hF' with ⟨_, h1, _⟩ | hrow
    · simp only [Value.slice.injEq] at h1; exact hc h1.2.2
    · obtain ⟨g1, c1, cur1, h1, _, hh1, _⟩ := hrow.blk
      simp only [Value.slice.injEq] at h1
      obtain ⟨rfl, _, _⟩ := h1
      simp only [hv, Value.ownBlock, Option.some.injEq] at hbk
      subst hbk
      rw [hh1] at hh2
      simp only [Option.some.injEq, Obj.cells.injEq] at hh2
      exact absurd hh2.2.1 (by decide)

theorem one_hv (hs : List Hd) : ∀ u ∈ hs.map hv, u.oneCell' = true := by
  intro u hu; obtain ⟨x, _, rfl⟩ := List.mem_map.1 hu; rfl

set_option maxHeartbeats 4000000 in
theorem specGrowGraph_any (A : Option Addr) (n c : Nat) (xss : List (List Int)) (w : World) (h : RdR w A n c xss) :
    Calls Try.prog 46 #[.slice A n c] w fun e w' => ∃ A' c', e = .returned (.slice A' (growR xss).length c') ∧ FrR w' w.heap.size w'.heap.size A' (growR xss).length c' (growR xss) ∧ Ext w w' := by
  have hle := h.le
  have htop := h.top
  have hb0 : Ext w (w.alloc (.cells #[] 46)) := (Below.refl _ _).alloc (Nat.le_refl _) _
  have hF0 : Row (w.alloc (.cells #[] 46)) w.heap.size 46 1 (.slice (some ⟨w.heap.size, 0, none⟩) 0 0) 0 (([] : List Hd).map hv) := Row.lit (w := w) (n := 0) #[] (by simp) (by unfold maxLen; omega) (Nat.le_refl _)
  have hsz0 : w.heap.size + 1 ≤ (w.alloc (.cells #[] 46)).heap.size := by simp
  unfold growR
  cases hv : gValid xss with
  | false =>
    have hR := h.below hb0
    go_enter Try.func46, Try.ntmps46
    go_wp2
    refine wp_loop_rounds 1 ?_
    rw [rounds_succ]
    by_cases hn : 0 < n
    · go_wp2_with fail
      refine (specGraphValid_any _ _ _ _ _ hR).mono ?_; rintro e w1 ⟨rfl, hb1⟩; rw [hv]
      go_wp2
      go_ret
      exact ⟨_, _, rfl, ⟨[], .inr (hF0.below hb1), rfl, Rws.nil, by simp⟩, hb0.trans hb1⟩
    · go_wp2
      go_ret
      exact ⟨_, _, rfl, ⟨[], .inr hF0, rfl, Rws.nil, by simp⟩, hb0⟩
  | true =>
    obtain ⟨h6, hr⟩ := gValid_rows hv
    have hn := h.lenR
    have hn6 : n ≤ 6 := by omega
    have HN := Lib.hid hn
    have HR := Lib.hid hr
    have HV := Lib.hid hv
    obtain ⟨i0, hi, hz0, hz1, hz2⟩ := info_parts Try.infoInt
    obtain ⟨i1, ki, kz0, kz1, kz2⟩ := info_parts Try.infoRow
    clear hn hr h6 hv
    go_enter Try.func46, Try.ntmps46
    go_wp2
    go_loopw [3, 4] (fun out ii wr => ∃ (i : Nat) (Ao : Option Addr) (co : Nat) (hs : List Hd), i ≤ n ∧ ii = .int .i64 i ∧ out = .slice Ao i co ∧ Hid (hs.length = i) ∧ Row wr w.heap.size 46 1 (.slice Ao i co) i (hs.map hv) ∧ Rws wr w.heap.size hs ((List.range i).map fun j => growTo xss j xss.length) ∧ Ext w wr) (fun _ ii _ => n - (intOf ii).toNat)
    case atStart => exact ⟨0, _, _, [], Nat.zero_le _, rfl, rfl, rfl, hF0, Rws.nil, hb0⟩
    case round =>
      clear hF0 hb0 hsz0
      obtain ⟨i, Ao, co, hs, hi', rfl, rfl, HH, hO, hR, hb⟩ := hrel
      by_cases hlt : i < n
      · go_wp2_with fail
        refine (specGraphValid_any _ _ _ _ _ (h.below hb)).mono ?_; rintro e wi ⟨rfl, hb1⟩; rw [HV.out]
        obtain ⟨b, off, Ai, m, ci, xi, hA, Xi, gi, Ri⟩ := h.atR hlt
        have hrow := HR.out _ (List.mem_of_getElem? Xi.out)
        have hml : xi.length = m := Ri.lenI
        have hm : ∀ xs ∈ xss, xs.length = m := fun xs hx => by rw [(HR.out xs hx).1, ← hrow.1, hml]
        have hnm : n ≤ m := by have := HN.out; omega
        have hm10 : m ≤ 10 := by omega
        have HM := Lib.hid hm
        have hO1 := hO.below hb1
        have hR1 := hR.below hb1
        have hbx := Ext.trans hb hb1
        have hal : Ext wi (wi.alloc (.cells #[] 3)) := (Below.refl _ _).alloc (Nat.le_refl _) _
        have hFl : Fr (wi.alloc (.cells #[] 3)) wi.heap.size 3 1 (.slice (some ⟨wi.heap.size, 0, none⟩) 0 0) 0 [] := .inr (Row.lit (n := 0) #[] (by simp) (by unfold maxLen; omega) (Nat.le_refl _))
        have hRl := (Ri.below hbx).below hal
        have Gi := kept_of_below (hbx.trans hal) _ _ gi
        have hle0 := Nat.le_of_lt (show wi.heap.size < (wi.alloc (.cells #[] 3)).heap.size by simp)
        clear hO hR hb hb1 hm hrow
        subst hA
        go_wp2_with (at_builtin; refine wpList_append_fr _ rfl _ _ 46 rfl wi.heap.size 3 i0 _ 1 8 Try.underlying46 hi hz0 hz1 hz2 rfl (by omega) _ 0 [] rfl hFl _ m ci _ rfl hRl (one_cI _) (by unfold maxLen; omega) (by omega) hle0 ?_; intro Ar cr wa row hFa hga hrow)
        rw [Nat.zero_add, List.nil_append] at hFa
        have hba : Ext wi wa := ext_grown hal hga (fun k hk => (hrow k hk).1)
        have hbw := Ext.trans hbx hba
        have hig : i < xss.length := by have := HN.out; omega
        have er : growTo xss i 0 = xi := rowAt_get Xi.out
        rw [← er] at hFa
        have hsw := hbx.size
        clear hFl hRl Gi hal hle0 hga hrow er gi Ri Xi
        go_wp2
        go_loopw [6] (fun kk wk => ∃ k : Nat, k ≤ n ∧ kk = .int .i64 k ∧ Ext wi wk ∧ Fr wk wi.heap.size 3 1 (.slice Ar m cr) m (cI (growTo xss i k))) (fun kk _ => n - (intOf kk).toNat)
        case atStart => exact ⟨0, Nat.zero_le _, rfl, hba, hFa⟩
        case round =>
          clear hFa hba hbw
          obtain ⟨k, hk, rfl, hba, hFa⟩ := hrel
          by_cases hkt : k < n
          · obtain ⟨b', off', Ai, mi, ci, xi', hA, Xi, gi, Ri⟩ := h.atR hlt
            obtain ⟨b'', off'', Ak, mk, ck, xk, hA', Xk, gk, Rk⟩ := h.atR hkt
            simp only [Option.some.injEq, Addr.mk.injEq, and_true] at hA hA'
            obtain ⟨rfl, rfl⟩ := hA
            obtain ⟨rfl, rfl⟩ := hA'
            have hmi : m = mi := by rw [← Ri.lenI]; exact (HM.out _ (List.mem_of_getElem? Xi.out)).symm
            have hmk : m = mk := by rw [← Rk.lenI]; exact (HM.out _ (List.mem_of_getElem? Xk.out)).symm
            subst hmi hmk
            obtain ⟨b1, off1, z1, hA1, Z1, q1⟩ := Ri.atI (show k < m by omega)
            obtain ⟨b2, off2, z2, hA2, Z2, q2⟩ := Rk.atI (show i < m by omega)
            subst hA1 hA2
            have hci := Ri.le
            have hcit := Ri.top
            have hck := Rk.le
            have hckt := Rk.top
            have el1 := el_get Xi.out Z1.out
            have el2 := el_get Xk.out Z2.out
            obtain ⟨t1, ht1⟩ : ∃ t, (bits .and .i64 z1 1 == 0) = t := ⟨_, rfl⟩
            obtain ⟨t2, ht2⟩ : ∃ t, (bits .and .i64 z2 4 == 0) = t := ⟨_, rfl⟩
            have ht1' : (bits .and .i64 z1 1 != 0) = !t1 := by rw [← ht1]; rfl
            have ht2' : (bits .and .i64 z2 4 != 0) = !t2 := by rw [← ht2]; rfl
            have el3 : lnk xss i k = (!t1 || !t2) := by unfold lnk; rw [el1, el2, ht1, ht2]
            have EL := Lib.hid el3
            have hrk := rowAt_get Xk.out
            have HRK := Lib.hid hrk
            have hlk := HM.out _ (List.mem_of_getElem? Xk.out)
            have HLK := Lib.hid hlk
            have hac : (growTo xss i k).length = m := growTo_len HM.out hig k (by have := HN.out; omega)
            have HAC := Lib.hid hac
            have hfm := hFa.rd'.2.le
            have hft := hFa.rd'.2.top
            have HT1 := Lib.hid ht1
            have HT2 := Lib.hid ht2
            clear el1 el2 el3 hrk hac Z1 Z2 Ri Xi Xk hlk hml ht1 ht2
            go_wp2
            go_loopw [7] (fun jj wj => ∃ j : Nat, j ≤ m ∧ jj = .int .i64 j ∧ (t1 = true ∧ t2 = true → j = 0) ∧ Ext wi wj ∧ Fr wj wi.heap.size 3 1 (.slice Ar m cr) m (cI (orTo (growTo xss i k) (rowAt xss k) j))) (fun jj _ => m - (intOf jj).toNat)
            case atStart => exact ⟨0, Nat.zero_le _, rfl, fun _ => rfl, hba, by rw [orTo_zero]; exact hFa⟩
            case round =>
              clear hFa hba
              obtain ⟨j, hj, rfl, hj0, hba, hFa⟩ := hrel
              have hbw := Ext.trans hbx hba
              have Gi := kept_of_below hbw _ _ gi
              have Gk := kept_of_below hbw _ _ gk
              have Q1 := kept_of_below hbw _ _ q1
              have Q2 := kept_of_below hbw _ _ q2
              by_cases hjt : j < m
              · by_cases hnl : t1 = true ∧ t2 = true
                · obtain rfl := hj0 hnl
                  obtain ⟨rfl, rfl⟩ := hnl
                  have e : growTo xss i (k + 1) = orTo (growTo xss i k) (rowAt xss k) 0 := by rw [orTo_zero]; show (if lnk xss i k then _ else _) = _; rw [EL.out]; rfl
                  rw [← e] at hFa
                  simp only [Bool.not_true] at ht1' ht2'
                  clear e EL hj0 Rk gi gk q1 q2 h
                  go_wp2
                  go_roundw
                  case rel => exact ⟨k + 1, by omega, by go_num, hba, hFa⟩
                  case measure => simp [intOf]; omega
                · obtain ⟨b3, off3, y, hA3, Y, q3⟩ := Rk.atI hjt
                  simp only [Option.some.injEq, Addr.mk.injEq, and_true] at hA3
                  obtain ⟨rfl, rfl⟩ := hA3
                  have Q3 := kept_of_below hbw _ _ q3
                  obtain ⟨g, rfl, hB, _, own⟩ := hFa.form (by omega)
                  obtain ⟨z, Z, qz⟩ := ownI_at own hjt
                  have fz := own.frozenAt j
                  obtain ⟨z0, hz0⟩ := get_of_lt HAC.out hjt
                  have hzz := orTo_get HAC.out (b := rowAt xss k) (m := m) (by rw [HRK.out]; exact HLK.out) hz0
                  have hze : z = z0 := by have := Z.out.symm.trans hzz; simpa using this
                  subst hze
                  have hyk : (rowAt xss k)[j]? = some y := by rw [HRK.out]; exact Y.out
                  have hst := orTo_step HAC.out (b := rowAt xss k) (m := m) (by rw [HRK.out]; exact HLK.out) hz0 hyk
                  have HST := Lib.hid hst
                  have hor : ((!t1) || !t2) = true := by cases t1 <;> cases t2 <;> simp_all
                  have hj0' : t1 = true ∧ t2 = true → j + 1 = 0 := fun h => absurd h hnl
                  have hdr : Ext wi wr.drew := hba.drew
                  have hod := own.below (w' := wr.drew) ((Below.refl _ _).drew)
                  clear hst hzz hz0 hyk Y Z hnl hFa hj0 h gi gk q1 q2 q3 Rk EL
                  cases t1
                  · simp only [Bool.not_false] at ht1'
                    go_wp2
                    go_still_tail 15, (by kernel_rfl)
                    change wpList _ _ _ _ _ wr.drew
                    go_wp2
                    go_roundw
                    case rel =>
                      have R := ownI_set (k := j) hod (bits .or .i64 z y)
                      rw [show (orTo (growTo xss i k) (rowAt xss k) j).set j (bits .or .i64 z y) = _ from HST.out] at R
                      exact ⟨j + 1, by omega, by go_num, hj0', Below.setCell hdr (p := ⟨g, j, none⟩) hB _, .inr R⟩
                    case measure => simp [intOf]; omega
                  · cases t2
                    · simp only [Bool.not_false, Bool.not_true] at ht1' ht2'
                      go_wp2
                      go_still_tail 15, (by kernel_rfl)
                      change wpList _ _ _ _ _ wr.drew
                      go_wp2
                      go_roundw
                      case rel =>
                        have R := ownI_set (k := j) hod (bits .or .i64 z y)
                        rw [show (orTo (growTo xss i k) (rowAt xss k) j).set j (bits .or .i64 z y) = _ from HST.out] at R
                        exact ⟨j + 1, by omega, by go_num, hj0', Below.setCell hdr (p := ⟨g, j, none⟩) hB _, .inr R⟩
                      case measure => simp [intOf]; omega
                    · simp at hor
              · have e : orTo (growTo xss i k) (rowAt xss k) j = growTo xss i (k + 1) := by
                  by_cases hnl : t1 = true ∧ t2 = true
                  · obtain rfl := hj0 hnl
                    omega
                  · have hl : lnk xss i k = true := by rw [EL.out]; cases t1 <;> cases t2 <;> simp_all
                    rw [orTo_end HAC.out (by rw [HRK.out]; exact HLK.out) (by omega)]
                    show _ = (if lnk xss i k then _ else _)
                    rw [hl]; rfl
                rw [e] at hFa
                clear e EL hj0 Rk gi gk q1 q2 h
                go_wp2
                go_roundw
                case rel => exact ⟨k + 1, by omega, by go_num, hba, hFa⟩
                case measure => simp [intOf]; omega
          · have e : k = xss.length := by have := HN.out; omega
            rw [e] at hFa
            have hbw := Ext.trans hbx hba
            have hO2 := hO1.below hba
            have hal : Ext wr (wr.alloc (.cells #[.slice Ar m cr] 46)) := (Below.refl _ _).alloc (Nat.le_refl _) _
            have hR2 := hR1.snoc hba hsw hFa
            have hO3 := hO2.below hal
            have hR3 := hR2.below hal
            have hRl : Rd (wr.alloc (.cells #[.slice Ar m cr] 46)) 1 (some ⟨wr.heap.size, 0, none⟩) 1 1 (([(Ar, m, cr)] : List Hd).map hv) := Rd.lit (sz := 1) (n := 1) #[.slice Ar m cr] rfl (by omega)
            have hbs := Nat.le_trans hbw.size hal.size
            have hes : (List.range i).map (fun j => growTo xss j xss.length) ++ [growTo xss i xss.length] = (List.range (i + 1)).map (fun j => growTo xss j xss.length) := by rw [List.range_succ, List.map_append]; rfl
            rw [hes] at hR3
            clear e hes hR2 hO2 hO1 hR1 hFa h hml
            go_wp2_with (at_builtin; refine wpList_append_fr _ rfl _ _ 22 rfl w.heap.size 46 i1 _ 1 24 Try.underlying22 ki kz0 kz1 kz2 rfl (by omega) _ i _ rfl (.inr hO3) _ 1 1 _ rfl hRl (one_hv _) (by unfold maxLen; omega) (by omega) hbs ?_; intro A3 c3 w3 row3 hF4 hg3 hrow3)
            rw [← List.map_append] at hF4
            have hO4 := hF4.row (by omega)
            have hR4 := hR3.asideRow hO3 hg3 (fun k hk => (hrow3 k hk).2.2)
            have hb4 := ext_grown (hbw.trans hal) hg3 (fun k hk => (hrow3 k hk).1)
            clear hF4 hR3 hO3
            go_roundw
            case rel => exact ⟨i + 1, A3, c3, _, by omega, by go_num, rfl, by show (hs ++ [_]).length = i + 1; rw [List.length_append, HH.out]; rfl, hO4, hR4, hb4⟩
            case measure => simp [intOf]; omega
      · have e : i = xss.length := by have := HN.out; omega
        have HN2 := Lib.hid (growG_len xss)
        subst e
        clear h
        go_wp2
        go_ret
        rw [HN2.out]
        exact ⟨_, _, rfl, ⟨hs, .inr hO, HH.out, hR, fun i x g hi hg => (hR.blk hi hg).2⟩, hb⟩
end Go.Proofs.Ytakdefcdhcghiaa
