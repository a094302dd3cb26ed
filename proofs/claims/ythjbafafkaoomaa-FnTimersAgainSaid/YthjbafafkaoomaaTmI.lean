/-
  SetTimer, the program's.
-/
import Derived.Test.YthjbafafkaoomaaTmH
import Derived.Test.YthjbafafkaoomaaInsTm
namespace Go.Proofs.Ythjbafafkaoomaa
open Go.RowKit

set_option maxHeartbeats 2000000 in
theorem SetTimer_any (A : Option Addr) (n c : Nat) (ms : List Tm) (t v : Int) (w : World) (h : Rd w 2 A n c (c2 ms)) :
    Calls Try.prog 40 #[.slice A n c, .int .i64 t, .int .i64 v] w fun e w' => ∃ A' c', e = .returned (.slice A' (setR t v ms).length c') ∧
      Fr w' w.heap.size 39 2 (.slice A' (setR t v ms).length c') (setR t v ms).length (c2 (setR t v ms)) ∧ Ext w w' := by
  have HL := Lib.hid h.len2
  obtain ⟨t1, e1⟩ : ∃ b, tmValid ms = b := ⟨_, rfl⟩
  obtain ⟨t2, e2⟩ : ∃ b, inB t 0 15 = b := ⟨_, rfl⟩
  obtain ⟨t3, e3⟩ : ∃ b, inB v 0 100000 = b := ⟨_, rfl⟩
  have eok : setOk t v ms = (t1 && t2 && t3) := by unfold setOk; rw [e1, e2, e3]
  have E1 := Lib.hid e1
  have E2 := Lib.hid e2
  have E3 := Lib.hid e3
  have no : (t1 && t2 && t3) = false → setR t v ms = [] := fun hh => setR_none (by rw [eok, hh]; exact Bool.false_ne_true)
  have NO := Lib.hid no
  have yes : (t1 && t2 && t3) = true → setR t v ms = insT (t, v) (wot t ms) := fun hh => by rw [setR_eq, if_pos (by rw [eok, hh])]
  have YES := Lib.hid yes
  have hn : t1 = true → n ≤ 16 := fun ht => by have := tmValid_len (e1.trans ht); have := HL.out; omega
  clear e1 e2 e3 eok no yes
  go_enter Try.func40, Try.ntmps40
  go_wp2_with fail
  refine (TimersValid_any _ _ _ _ _ h).mono ?_; rintro e w1 ⟨rfl, hb1⟩; rw [E1.out]
  have h1 := h.below hb1
  clear h
  cases t1
  · have N := Lib.hid (NO.out rfl)
    clear h1 NO YES hn
    go_wp2
    go_ret
    exact ⟨_, _, by rw [N.out]; rfl, by rw [N.out]; exact .inl ⟨_, rfl, rfl, rfl⟩, hb1⟩
  have hn16 := hn rfl
  clear hn
  go_wp2_with fail
  refine (isThread_any _ _).mono ?_; rintro e w' ⟨rfl, rfl⟩; rw [E2.out]
  cases t2
  · have N := Lib.hid (NO.out rfl)
    clear h1 NO YES
    go_wp2
    go_ret
    exact ⟨_, _, by rw [N.out]; rfl, by rw [N.out]; exact .inl ⟨_, rfl, rfl, rfl⟩, hb1⟩
  go_wp2_with fail
  refine (in_any _ _ _ _).mono ?_; rintro e w' ⟨rfl, rfl⟩; rw [E3.out]
  cases t3
  · have N := Lib.hid (NO.out rfl)
    clear h1 NO YES
    go_wp2
    go_ret
    exact ⟨_, _, by rw [N.out]; rfl, by rw [N.out]; exact .inl ⟨_, rfl, rfl, rfl⟩, hb1⟩
  have Y := Lib.hid (YES.out rfl)
  clear NO YES E1 E2 E3
  go_wp2_with fail
  refine (withoutTimer_any _ _ _ _ _ _ h1 (by omega)).mono ?_; rintro e w2 ⟨A2, c2', rfl, f2, hb2⟩
  have hb := hb1.trans hb2
  have hlw := Lib.hid (wot_len t ms)
  obtain ⟨ys, hys⟩ : ∃ ys, wot t ms = ys := ⟨_, rfl⟩
  rw [hys] at f2 hlw Y ⊢
  obtain ⟨m, hm⟩ : ∃ m, ys.length = m := ⟨_, rfl⟩
  rw [hm] at f2 hlw ⊢
  have hm16 : m ≤ 16 := by have := hlw.out; have := HL.out; omega
  have HM := Lib.hid hm
  have HL2 := Lib.hid (insT_len (t, v) ys)
  clear hys hm h1 hlw HL
  have hle := f2.rd'.2.le
  have htop := f2.rd'.2.top
  go_wp2
  go_loopw [8] (fun i wr => ∃ k : Nat, k ≤ m ∧ i = .int .i64 k ∧ Ext w2 wr ∧ Hid (∀ i, i < k → ∃ x, ys[i]? = some x ∧ x.2 ≤ v)) (fun i _ => m - (intOf i).toNat)
  case atStart => exact ⟨0, Nat.zero_le _, rfl, Below.refl _ _, fun i hi => absurd hi (by omega)⟩
  case round =>
    obtain ⟨k, hk, rfl, hbr, H⟩ := hrel
    have fr := f2.below hbr
    by_cases hlt : k < m
    · obtain ⟨b, off, p, q, hA, X, g0, g1⟩ := fr.rd'.2.at2 hlt
      subst hA
      by_cases hp : q ≤ v
      · clear f2 fr HL2
        go_wp2
        go_roundw
        case rel => exact ⟨k + 1, by omega, by go_num, hbr, fun i hi => by
          by_cases hik : i < k
          · exact H.out i hik
          · obtain rfl : i = k := by omega
            exact ⟨_, X.out, hp⟩⟩
        case measure => simp [intOf]; omega
      · have e1 : tAt v ys = k := by rw [tAt_drop v ys k H.out, drop_of_get X.out, tAt, if_neg hp]; omega
        clear X
        have EI := Lib.hid (insT_eq (t, v) ys)
        have EK := Lib.hid e1
        clear f2 H e1
        go_wp2_with fail
        have hal : Ext wr (wr.alloc (.cells #[.int .i64 t, .int .i64 v] 39)) := (Below.refl _ _).alloc (Nat.le_refl _) _
        have fx := fr.below hal
        have hbs := hbr.size
        have hx := hal.size
        have hv : Row (wr.alloc (.cells #[.int .i64 t, .int .i64 v] 39)) wr.heap.size 39 2 (.slice (some ⟨wr.heap.size, 0, none⟩) 1 1) 1 (c2 [(t, v)]) := Row.lit (w := wr) (n := 1) #[.int .i64 t, .int .i64 v] rfl (by unfold maxLen; omega) (Nat.le_refl _)
        have hne : ∀ b' off', some (⟨b, off, none⟩ : Addr) = some ⟨b', off', none⟩ → 0 < m → wr.heap.size ≠ b' := fun b' off' e hp => by
          obtain ⟨g, e2, _, hg, _⟩ := fr.form hp
          rw [e2] at e
          cases e
          omega
        have hs1 := hb1.size
        have hs2 := hb2.size
        refine (InsertTm_any _ _ _ _ _ _ _ _ _ _ (by omega) fx (by omega) (by omega) hv hne (one_c2 _) (one_c2 _)).mono ?_; rintro e w3 ⟨A3, c3, rfl, f3, row, hg3, hr3⟩
        have f3' : Fr w3 w1.heap.size 39 2 (.slice A3 (m + 1) c3) (m + 1) (c2 (insT (t, v) ys)) := by
          rw [← c2_take, ← c2_drop, ← c2_append, ← c2_append, List.append_assoc, ← EK.out, EI.out] at f3
          exact f3
        have hb3 : Ext w1 w3 := ext_grown (hb2.trans (hbr.trans hal)) hg3 hr3
        clear fr fx hv hne hg3 hr3 f3
        go_wp2_with fail
        refine (cloneTm_any _ _ _ _ _ f3'.rd'.2 (one_c2 _) (by omega)).mono ?_; rintro e w4 ⟨A4, c4, rfl, f4, hb4⟩
        go_wp2
        go_ret
        have hs3 := hb3.size
        rw [Y.out, HL2.out, HM.out]
        exact ⟨_, _, rfl, f4.mono (by omega), hb1.trans (hb3.trans hb4)⟩
    · have hd : decide (k < m) = false := by simpa using hlt
      have e0 : ys.drop k = [] := drop_all HM.out (by omega)
      have e1 : tAt v ys = k := by rw [tAt_drop v ys k H.out, e0, tAt]; omega
      clear e0
      have EI := Lib.hid (insT_eq (t, v) ys)
      have EK := Lib.hid e1
      clear f2 H e1
      go_wp2_with fail
      have hal : Ext wr (wr.alloc (.cells #[.int .i64 t, .int .i64 v] 39)) := (Below.refl _ _).alloc (Nat.le_refl _) _
      have fx := fr.below hal
      have hbs := hbr.size
      have hx := hal.size
      have hv : Row (wr.alloc (.cells #[.int .i64 t, .int .i64 v] 39)) wr.heap.size 39 2 (.slice (some ⟨wr.heap.size, 0, none⟩) 1 1) 1 (c2 [(t, v)]) := Row.lit (w := wr) (n := 1) #[.int .i64 t, .int .i64 v] rfl (by unfold maxLen; omega) (Nat.le_refl _)
      have hne : ∀ b' off', A2 = some ⟨b', off', none⟩ → 0 < m → wr.heap.size ≠ b' := fun b' off' e hp => by
        obtain ⟨g, e2, _, hg, _⟩ := fr.form hp
        rw [e2] at e
        cases e
        omega
      have hs1 := hb1.size
      have hs2 := hb2.size
      refine (InsertTm_any _ _ _ _ _ _ _ _ _ _ (by omega) fx (by omega) (by omega) hv hne (one_c2 _) (one_c2 _)).mono ?_; rintro e w3 ⟨A3, c3, rfl, f3, row, hg3, hr3⟩
      have f3' : Fr w3 w1.heap.size 39 2 (.slice A3 (m + 1) c3) (m + 1) (c2 (insT (t, v) ys)) := by
        rw [← c2_take, ← c2_drop, ← c2_append, ← c2_append, List.append_assoc, ← EK.out, EI.out] at f3
        exact f3
      have hb3 : Ext w1 w3 := ext_grown (hb2.trans (hbr.trans hal)) hg3 hr3
      clear fr fx hv hne hg3 hr3 f3
      go_wp2_with fail
      refine (cloneTm_any _ _ _ _ _ f3'.rd'.2 (one_c2 _) (by omega)).mono ?_; rintro e w4 ⟨A4, c4, rfl, f4, hb4⟩
      go_wp2
      go_ret
      have hs3 := hb3.size
      rw [Y.out, HL2.out, HM.out]
      exact ⟨_, _, rfl, f4.mono (by omega), hb1.trans (hb3.trans hb4)⟩
end Go.Proofs.Ythjbafafkaoomaa
