/-
  The smallest sealed group of a subject, as the reference finds it.
-/
import Derived.Test.YtakdefcdhcghiaaSeB
namespace Go.Proofs.Ytakdefcdhcghiaa
open Go.RowKit

set_option maxHeartbeats 4000000 in
theorem specSealedGroup_any (A : Option Addr) (n c : Nat) (g : List (List Int)) (i : Int) (w : World) (h : RdR w A n c g) :
    Calls Try.prog 16 #[.slice A n c, .int .i64 i] w fun e w' => ∃ A' c', e = .returned (.slice A' (sealedR g i).length c') ∧ Fr w' w.heap.size 4 1 (.slice A' (sealedR g i).length c') (sealedR g i).length (cB (sealedR g i)) ∧ Ext w w' := by
  have hlen := h.lenR
  have hle := h.le
  have htop := h.top
  obtain ⟨ib, hib, hbz0, hbz1, hbz2⟩ := info_parts Try.infoBool
  have new : ∀ w' : World, Ext w w' → Fr (w'.alloc (.cells #[] 4)) w.heap.size 4 1 (.slice (some ⟨w'.heap.size, 0, none⟩) 0 0) 0 (cB []) ∧ Ext w (w'.alloc (.cells #[] 4)) := fun w' he =>
    ⟨.inr (Row.lit (n := 0) #[] (by simp) (by unfold maxLen; omega) he.size), he.alloc he.size _⟩
  have NEW := Lib.hid new
  obtain ⟨t1, ht1⟩ : ∃ t, gValid g = t := ⟨_, rfl⟩
  obtain ⟨t2, ht2⟩ : ∃ t, inB i 0 (n - 1) = t := ⟨_, rfl⟩
  have HT1 := Lib.hid ht1
  have HT2 := Lib.hid ht2
  have eno : (t1 && t2) = false → sealedR g i = [] := fun hh => by unfold sealedR; rw [hlen, ht1, ht2, if_neg (by rw [hh]; exact Bool.false_ne_true)]
  have eyes : (t1 && t2) = true → sealedR g i = (List.range n).map (jac g n i.toNat n) := fun hh => by unfold sealedR; rw [hlen, ht1, ht2, if_pos hh]
  have ENO := Lib.hid eno
  clear new eno
  cases t1
  · have N := Lib.hid (ENO.out rfl)
    clear ht1 ht2 ENO eyes
    go_enter Try.func16, Try.ntmps16
    go_wp2_with fail
    refine (specGraphValid_any _ _ _ _ _ h).mono ?_; rintro e w1 ⟨rfl, hb1⟩; rw [HT1.out]
    have N1 := NEW.out _ hb1
    clear h
    go_wp2
    go_ret
    exact ⟨_, _, by rw [N.out]; rfl, by rw [N.out]; exact N1.1, N1.2⟩
  cases t2
  · have N := Lib.hid (ENO.out rfl)
    clear ht1 ht2 ENO eyes
    go_enter Try.func16, Try.ntmps16
    go_wp2_with fail
    refine (specGraphValid_any _ _ _ _ _ h).mono ?_; rintro e w1 ⟨rfl, hb1⟩; rw [HT1.out]
    have N1 := NEW.out _ hb1
    clear h
    go_wp2_with fail
    refine (l1In_any _ _ _ _).mono ?_; rintro e w' ⟨rfl, rfl⟩; rw [HT2.out]
    go_wp2
    go_ret
    exact ⟨_, _, by rw [N.out]; rfl, by rw [N.out]; exact N1.1, N1.2⟩
  have eR := eyes rfl
  have ia := inB_iff.1 ht2
  obtain ⟨i, rfl⟩ := Int.eq_ofNat_of_zero_le ia.1
  rw [Int.toNat_natCast] at eR
  have hin : i < n := by omega
  obtain ⟨n', m, htab, hnm, h6, hm, _⟩ := tab_of_valid ht1
  have hn' : n' = n := by rw [← htab.len, hlen]
  subst hn'
  have hRl : ((List.range n').map (jac g n' i n')).length = n' := by simp
  have hSB : ∀ s : List Bool, s.length = n' → sealB g s = sealL g s n' := fun s hs => by unfold sealB; rw [ht1, hlen, hs]; simp
  have ER := Lib.hid eR
  have HTAB := Lib.hid htab
  have HRL := Lib.hid hRl
  have HSB := Lib.hid hSB
  clear eR eyes ht1 ht2 ia hlen htab hRl hSB ENO NEW
  go_enter Try.func16, Try.ntmps16
  go_wp2_with fail
  refine (specGraphValid_any _ _ _ _ _ h).mono ?_; rintro e w1 ⟨rfl, hb1⟩; rw [HT1.out]
  go_wp2_with fail
  refine (l1In_any _ _ _ _).mono ?_; rintro e w' ⟨rfl, rfl⟩; rw [HT2.out]
  go_upto_region 4 with (at_make; refine wpList_make_full _ rfl _ _ 23 rfl w1.heap.size 4 ib _ 1 Try.underlying23 hib hbz0 hbz1 .i64 .i64 _ _ n' rfl rfl rfl rfl (by rw [hbz2]; omega) (by unfold maxLen; omega) (Nat.le_refl _) ?_; intro w2 hown hgw)
  have hE2 : Ext w w2 := hb1.trans (ext_grown (Below.refl _ _) hgw (fun k e => by simp at e))
  have hO := (made_bools hown).mono (B' := w.heap.size) hb1.size
  obtain ⟨u0, _, q0⟩ := ownB_at hO hin
  have f0 := hO.frozenAt i
  have hO2 := ownB_set (k := i) hO true
  have hgB : w.heap.size ≤ w1.heap.size := hb1.size
  have hE3 : Ext w (w2.setCell ⟨w1.heap.size, i, none⟩ (.bool true)) := ext_grown hE2 (grown_set (p := ⟨w1.heap.size, i, none⟩) (g := w1.heap.size) (World.grownBy.refl w2 _) rfl _) (fun k e => by cases e; exact hgB)
  obtain ⟨go, hgo⟩ : ∃ go, w1.heap.size = go := ⟨_, rfl⟩
  rw [hgo] at hO2 hE3 hgB q0 f0 ⊢
  have hst := InR.start (g := g) hin
  have START : Hid (((List.replicate n' false).set i true).length = n' ∧ gb ((List.replicate n' false).set i true) i = true ∧ ∀ x, x < n' → gb ((List.replicate n' false).set i true) x = true → jac g n' i n' x = true) :=
    Lib.hid ⟨hst.len, hst.lo i hin (jac_self 0), hst.hi⟩
  have CNT := Lib.hid (cntB_le ((List.replicate n' false).set i true) n')
  clear hown hgw hE2 hO hgo hb1 hst
  go_wp2
  go_loopg [] (n' - cntB ((List.replicate n' false).set i true) n') (fun d wr => ∃ s : List Bool, Hid (s.length = n' ∧ gb s i = true ∧ ∀ x, x < n' → gb s x = true → jac g n' i n' x = true) ∧ Hid (d + cntB s n' = n') ∧ Row wr w.heap.size 4 1 (.slice (some ⟨go, 0, none⟩) n' n') n' (cB s) ∧ Ext w wr)
  case atStart => exact ⟨_, START, by have := CNT.out; show _ + _ = _; omega, hO2, hE3⟩
  case round =>
    clear hO2 hE3 q0 f0 START CNT
    obtain ⟨s, HS, HD, hO, hE⟩ := hrel
    rename World => wo
    have hG := h.below hE
    obtain ⟨t, hts⟩ : ∃ t, sealL g s n' = t := ⟨_, rfl⟩
    have hsb : sealB g s = t := by rw [HSB.out s HS.out.1, hts]
    have HTS := Lib.hid hts
    have HT := Lib.hid hsb
    clear hts hsb
    go_wp2_with fail
    refine (specGroupSealed_any _ _ _ _ _ _ _ _ _ hG (Rd.of_row hO)).mono ?_; rintro e w3 ⟨rfl, hb3⟩; rw [HT.out]
    have hO3 := hO.below hb3
    have hE3 := hE.trans hb3
    clear hO hE hG hb3
    cases t
    · have HST := Lib.hid (SpR.start (g := g) (n := n') (i := i) HS.out.1 HS.out.2.2)
      go_wp2
      go_loopw [6] (fun aa wr => ∃ (a : Nat) (s' : List Bool), a ≤ n' ∧ aa = .int .i64 a ∧ Hid (SpR g n' i s a 0 s') ∧ Row wr w.heap.size 4 1 (.slice (some ⟨go, 0, none⟩) n' n') n' (cB s') ∧ Ext w wr) (fun aa _ => n' - (intOf aa).toNat)
      case atStart => exact ⟨0, s, Nat.zero_le _, rfl, HST, hO3, hE3⟩
      case round =>
        clear hO3 hE3 HST
        obtain ⟨a, s', ha, rfl, HI, hO, hE⟩ := hrel
        by_cases hla : a < n'
        · go_wp2
          go_loopw [7] (fun bb wr => ∃ (b : Nat) (s' : List Bool), b ≤ n' ∧ bb = .int .i64 b ∧ Hid (SpR g n' i s a b s') ∧ Row wr w.heap.size 4 1 (.slice (some ⟨go, 0, none⟩) n' n') n' (cB s') ∧ Ext w wr) (fun bb _ => n' - (intOf bb).toNat)
          case atStart => exact ⟨0, s', Nat.zero_le _, rfl, HI, hO, hE⟩
          case round =>
            clear hO hE HI
            obtain ⟨b, s', hb, rfl, HI, hO, hE⟩ := hrel
            by_cases hlb : b < n'
            · rename World => wi
              obtain ⟨t1, T1, q1⟩ := ownB_at hO hla
              obtain ⟨t2, T2, q2⟩ := ownB_at hO hlb
              have f1 := hO.frozenAt a
              have f2 := hO.frozenAt b
              have g1 := gb_get T1.out
              have g2 := gb_get T2.out
              obtain ⟨bg, off, b1, off1, cc, hAA, r0, hmc, hct, r1⟩ := (h.below hE).atEl HTAB.out hla (j := b) (by omega)
              subst hAA
              obtain ⟨v, hv⟩ : ∃ v, el g a b = v := ⟨_, rfl⟩
              rw [hv] at r1
              obtain ⟨tz, htz⟩ : ∃ t, (v == 0) = t := ⟨_, rfl⟩
              have htz' : (v != 0) = !tz := by rw [← htz]; rfl
              have HSK : Hid (tz = true ∨ (t1 || t2) = false → SpR g n' i s a (b + 1) s') := Lib.hid (fun hh => HI.out.skip (by rw [hv, htz, g1, g2]; exact hh))
              have HPT : Hid (tz = false → (t1 || t2) = true → SpR g n' i s a (b + 1) ((s'.set a true).set b true)) := Lib.hid (fun h1 h2 => HI.out.put hin hla hlb (by rw [hv, htz]; exact h1) (by rw [g1, g2]; exact h2))
              have hkeep := hO
              have hO4 := ownB_set (k := b) (ownB_set (k := a) hO true) true
              have hE4 : Ext w ((wi.setCell ⟨go, a, none⟩ (.bool true)).setCell ⟨go, b, none⟩ (.bool true)) := ext_grown hE (grown_set (p := ⟨go, b, none⟩) (g := go) (grown_set (p := ⟨go, a, none⟩) (g := go) (World.grownBy.refl wi _) rfl _) rfl _) (fun k e => by cases e; exact hgB)
              clear hO HI T1 T2 g1 g2 hv htz
              cases tz
              · by_cases hab : b = a
                · subst hab
                  obtain rfl : t1 = t2 := by have := q1.symm.trans q2; simpa using this
                  clear q2 f2
                  cases t1
                  · have HN := Lib.hid (HSK.out (.inr rfl))
                    clear HSK HPT hO4 hE4 h
                    go_wp2
                    go_roundw
                    case rel => exact ⟨b + 1, s', by omega, by go_num, HN, hkeep, hE⟩
                    case measure => simp [intOf]; omega
                  · have HN := Lib.hid (HPT.out rfl rfl)
                    clear HSK HPT hkeep hE h
                    go_wp2
                    go_roundw
                    case rel => exact ⟨b + 1, _, by omega, by go_num, HN, hO4, hE4⟩
                    case measure => simp [intOf]; omega
                · cases t1
                  · cases t2
                    · have HN := Lib.hid (HSK.out (.inr rfl))
                      clear HSK HPT hO4 hE4 h
                      go_wp2
                      go_roundw
                      case rel => exact ⟨b + 1, s', by omega, by go_num, HN, hkeep, hE⟩
                      case measure => simp [intOf]; omega
                    · have HN := Lib.hid (HPT.out rfl rfl)
                      clear HSK HPT hkeep hE h
                      go_wp2
                      go_roundw
                      case rel => exact ⟨b + 1, _, by omega, by go_num, HN, hO4, hE4⟩
                      case measure => simp [intOf]; omega
                  · have HN := Lib.hid (HPT.out rfl rfl)
                    clear HSK HPT hkeep hE h
                    go_wp2
                    go_roundw
                    case rel => exact ⟨b + 1, _, by omega, by go_num, HN, hO4, hE4⟩
                    case measure => simp [intOf]; omega
              · have HN := Lib.hid (HSK.out (.inl rfl))
                clear HSK HPT hO4 hE4 h
                go_wp2
                go_roundw
                case rel => exact ⟨b + 1, s', by omega, by go_num, HN, hkeep, hE⟩
                case measure => simp [intOf]; omega
            · obtain rfl : b = n' := by omega
              have HN := Lib.hid (HI.out.nextA)
              clear HI
              go_wp2
              go_roundw
              case rel => exact ⟨a + 1, s', by omega, by go_num, HN, hO, hE⟩
              case measure => simp [intOf]; omega
        · obtain rfl : a = n' := by omega
          have hm := HI.out.more HTS.out
          have hc := cntB_le s' a
          have hd := HD.out
          have HN : Hid (s'.length = a ∧ gb s' i = true ∧ ∀ x, x < a → gb s' x = true → jac g a i a x = true) := Lib.hid ⟨HI.out.len, HI.out.up i hin HS.out.2.1, HI.out.hi⟩
          have HD2 : Hid (a - cntB s' a + cntB s' a = a) := Lib.hid (by omega)
          have hlt : a - cntB s' a < gk := by omega
          clear HI hm hc hd
          go_wp2
          go_roundg (a - cntB s' a)
          case rel => exact ⟨s', HN, HD2, hO, hE⟩
          case measure => exact hlt
    · have es := SpR.last (g := g) (i := i) HS.out.1 HS.out.2.1 HS.out.2.2 HTS.out
      subst es
      clear h
      go_wp2
      go_ret
      exact ⟨_, _, by rw [ER.out, HRL.out]; rfl, by rw [ER.out, HRL.out]; exact .inr hO3, hE3⟩
end Go.Proofs.Ytakdefcdhcghiaa
