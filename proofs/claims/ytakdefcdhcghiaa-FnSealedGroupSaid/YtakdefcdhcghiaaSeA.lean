/-
  Whether a group is sealed, as the program and as the reference ask it.
-/
import Derived.Test.YtakdefcdhcghiaaClB
import Derived.Test.YtakdefcdhcghiaaBools
namespace Go.Proofs.Ytakdefcdhcghiaa
open Go.RowKit

def gb (s : List Bool) (i : Nat) : Bool := s.getD i false
theorem gb_get {s : List Bool} {i : Nat} {t : Bool} (h : s[i]? = some t) : gb s i = t := by unfold gb; rw [List.getD_eq_getElem?_getD, h]; rfl
/-- One of two subjects has a right over the other one. -/
def lnkd (g : List (List Int)) (i k : Nat) : Bool := !(el g i k == 0) || !(el g k i == 0)
theorem lnkd_symm (g : List (List Int)) (i k : Nat) : lnkd g i k = lnkd g k i := by unfold lnkd; rw [Bool.or_comm]
def badI (g : List (List Int)) (s : List Bool) (i k : Nat) : Bool := gb s i && !gb s k && lnkd g i k
def badS (g : List (List Int)) (s : List Bool) (i k : Nat) : Bool := (gb s i != gb s k) && !(el g i k == 0)
def SealP (g : List (List Int)) (s : List Bool) (n : Nat) : Prop := ∀ i k, i < n → k < n → badI g s i k = false
theorem seal_badS (g : List (List Int)) (s : List Bool) (n : Nat) : SealP g s n ↔ ∀ i k, i < n → k < n → badS g s i k = false := by
  unfold SealP badI badS lnkd
  constructor
  · intro h i k hi hk
    have h1 := h i k hi hk
    have h2 := h k i hk hi
    revert h1 h2
    cases gb s i <;> cases gb s k <;> cases (el g i k == 0) <;> cases (el g k i == 0) <;> simp
  · intro h i k hi hk
    have h1 := h i k hi hk
    have h2 := h k i hk hi
    revert h1 h2
    cases gb s i <;> cases gb s k <;> cases (el g i k == 0) <;> cases (el g k i == 0) <;> simp
def sealL (g : List (List Int)) (s : List Bool) (n : Nat) : Bool := (List.range n).all fun i => (List.range n).all fun k => !badI g s i k
theorem sealL_iff (g : List (List Int)) (s : List Bool) (n : Nat) : sealL g s n = true ↔ SealP g s n := by
  unfold sealL SealP
  simp only [List.all_eq_true, List.mem_range, Bool.not_eq_true']
  exact ⟨fun h i k hi hk => h i hi k hk, fun h i hi k hk => h i k hi hk⟩
def sealB (g : List (List Int)) (s : List Bool) : Bool := gValid g && decide (s.length = g.length) && sealL g s g.length
theorem sealL_not {g : List (List Int)} {s : List Bool} {n i k : Nat} (hi : i < n) (hk : k < n) (h : badI g s i k = true) : sealL g s n = false := by
  rw [← Bool.not_eq_true, sealL_iff]; intro hs; rw [hs i k hi hk] at h; cases h
theorem sealL_notS {g : List (List Int)} {s : List Bool} {n i k : Nat} (hi : i < n) (hk : k < n) (h : badS g s i k = true) : sealL g s n = false := by
  rw [← Bool.not_eq_true, sealL_iff, seal_badS]; intro hs; rw [hs i k hi hk] at h; cases h

set_option maxHeartbeats 400000 in
theorem linked_any (A : Option Addr) (n c m : Nat) (g : List (List Int)) (i k : Nat) (w : World) (h : RdR w A n c g) (ht : Tab n m g) (hnm : n ≤ m) (hi : i < n) (hk : k < n) :
    Calls Try.prog 35 #[.slice A n c, .int .i64 i, .int .i64 k] w fun e w' => e = .returned (.bool (lnkd g i k)) ∧ w = w' := by
  have hle := h.le
  have htop := h.top
  obtain ⟨b, off, b1, o1, c1, rfl, p1, q1, r1, s1⟩ := h.atEl ht hi (show k < m by omega)
  obtain ⟨b', off', b2, o2, c2, hA, p2, q2, r2, s2⟩ := h.atEl ht hk (show i < m by omega)
  simp only [Option.some.injEq, Addr.mk.injEq, and_true] at hA
  obtain ⟨rfl, rfl⟩ := hA
  obtain ⟨t1, e1⟩ : ∃ t, (el g i k == 0) = t := ⟨_, rfl⟩
  obtain ⟨t2, e2⟩ : ∃ t, (el g k i == 0) = t := ⟨_, rfl⟩
  have n1 : (el g i k != 0) = !t1 := by rw [← e1]; rfl
  have n2 : (el g k i != 0) = !t2 := by rw [← e2]; rfl
  have HL : Hid (lnkd g i k = (!t1 || !t2)) := by unfold lnkd; rw [e1, e2]; exact rfl
  obtain ⟨z1, hz1⟩ : ∃ z, z = el g i k := ⟨_, rfl⟩
  obtain ⟨z2, hz2⟩ : ∃ z, z = el g k i := ⟨_, rfl⟩
  rw [← hz1] at s1 n1
  rw [← hz2] at s2 n2
  clear hz1 hz2 e1 e2 h ht
  cases t1 with
  | false =>
    simp only [Bool.not_false] at n1
    go_enter Try.func35, Try.ntmps35
    go_wp2
    go_ret
    exact ⟨ret_bool (by rw [HL.out]; rfl), rfl⟩
  | true =>
    simp only [Bool.not_true] at n1
    go_enter Try.func35, Try.ntmps35
    go_wp2
    go_ret
    exact ⟨ret_bool (by rw [HL.out]; rfl), rfl⟩

set_option maxHeartbeats 2000000 in
theorem GroupSealed_any (A : Option Addr) (n c : Nat) (g : List (List Int)) (A2 : Option Addr) (n2 c2 : Nat) (s : List Bool) (w : World) (h : RdR w A n c g) (h2 : Rd w 1 A2 n2 c2 (cB s)) :
    Calls Try.prog 13 #[.slice A n c, .slice A2 n2 c2] w fun e w' => e = .returned (.bool (sealB g s)) ∧ Ext w w' := by
  have hle := h.le
  have htop := h.top
  have hle2 := h2.le
  have htop2 := h2.top
  have HL := Lib.hid h.lenR
  have HL2 := Lib.hid h2.lenB
  cases hv : gValid g with
  | false =>
    have e : sealB g s = false := by unfold sealB; rw [hv]; rfl
    have E := Lib.hid e
    clear e
    go_enter Try.func13, Try.ntmps13
    go_wp2_with fail
    refine (GraphValid_any _ _ _ _ _ h).mono ?_; rintro e w1 ⟨rfl, hb1⟩; rw [hv]
    go_wp2
    go_ret
    exact ⟨ret_bool E.out.symm, hb1⟩
  | true =>
    obtain ⟨n', m, ht, hnm, h6, hm, _⟩ := tab_of_valid hv
    have hn : n' = n := by rw [← ht.len, HL.out]
    subst hn
    have HT := Lib.hid ht
    have HV := Lib.hid hv
    by_cases hnn : n2 = n'
    · subst hnn
      have e0 : sealB g s = sealL g s n2 := by unfold sealB; rw [hv, HL.out, HL2.out]; simp
      have E0 := Lib.hid e0
      clear e0 hv ht
      go_enter Try.func13, Try.ntmps13
      go_wp2_with fail
      refine (GraphValid_any _ _ _ _ _ h).mono ?_; rintro e w1 ⟨rfl, hb1⟩; rw [HV.out]
      go_wp2
      go_loopw [19] (fun ii wr => ∃ i : Nat, i ≤ n2 ∧ ii = .int .i64 i ∧ Ext w wr ∧ Hid (∀ i' k', i' < i → k' < n2 → badI g s i' k' = false)) (fun ii _ => n2 - (intOf ii).toNat)
      case atStart => exact ⟨0, Nat.zero_le _, rfl, hb1, fun i' k' hi' => absurd hi' (by omega)⟩
      case round =>
        clear hb1
        obtain ⟨i, hi, rfl, hb, HO⟩ := hrel
        by_cases hlt : i < n2
        · go_wp2
          go_loopw [24] (fun kk wr => ∃ k : Nat, k ≤ n2 ∧ kk = .int .i64 k ∧ Ext w wr ∧ Hid (∀ k', k' < k → badI g s i k' = false)) (fun kk _ => n2 - (intOf kk).toNat)
          case atStart => exact ⟨0, Nat.zero_le _, rfl, hb, fun k' hk' => absurd hk' (by omega)⟩
          case round =>
            clear hb
            obtain ⟨k, hk, rfl, hb, HI⟩ := hrel
            by_cases hkt : k < n2
            · obtain ⟨b3, off3, ti, hA3, Zi, gi⟩ := (h2.below hb).atB hlt
              obtain ⟨b4, off4, tk, hA4, Zk, gk⟩ := (h2.below hb).atB hkt
              subst hA3
              simp only [Option.some.injEq, Addr.mk.injEq, and_true] at hA4
              obtain ⟨rfl, rfl⟩ := hA4
              have HBAD : Hid (badI g s i k = (ti && !tk && lnkd g i k)) := by unfold badI; rw [gb_get Zi.out, gb_get Zk.out]; exact rfl
              have hRR := h.below hb
              clear Zi Zk h h2
              obtain ⟨tl, etl⟩ : ∃ t, lnkd g i k = t := ⟨_, rfl⟩
              have ETL := Lib.hid etl
              clear etl
              cases ti <;> cases tk
              case true.false =>
                go_wp2_with fail
                refine (linked_any _ _ _ _ _ _ _ _ hRR HT.out hnm hlt hkt).mono ?_; rintro e w' ⟨rfl, rfl⟩; rw [ETL.out]
                clear hRR
                cases tl with
                | true =>
                  go_wp2
                  go_ret
                  exact ⟨ret_bool (by rw [E0.out, sealL_not hlt hkt (by rw [HBAD.out, ETL.out]; rfl)]), hb⟩
                | false =>
                  go_wp2
                  go_roundw
                  case rel => exact ⟨k + 1, by omega, by go_num, hb, fun k' hk' => by
                    by_cases e : k' = k
                    · rw [e, HBAD.out, ETL.out]; rfl
                    · exact HI.out k' (by omega)⟩
                  case measure => simp [intOf]; omega
              all_goals
                clear hRR
                go_wp2
                go_roundw
                case rel => exact ⟨k + 1, by omega, by go_num, hb, fun k' hk' => by
                  by_cases e : k' = k
                  · rw [e, HBAD.out]; rfl
                  · exact HI.out k' (by omega)⟩
                case measure => simp [intOf]; omega
            · have hall : ∀ i' k', i' < i + 1 → k' < n2 → badI g s i' k' = false := fun i' k' hi' hk' => by
                by_cases e : i' = i
                · rw [e]; exact HI.out k' (by omega)
                · exact HO.out i' k' (by omega) hk'
              have HALL := Lib.hid hall
              clear hall HI HO h h2
              go_wp2
              go_roundw
              case rel => exact ⟨i + 1, by omega, by go_num, hb, HALL⟩
              case measure => simp [intOf]; omega
        · have e : sealL g s n2 = true := by rw [sealL_iff]; intro i' k' hi' hk'; exact HO.out i' k' (by omega) hk'
          have E := Lib.hid e
          clear e HO h h2
          go_wp2
          go_ret
          exact ⟨ret_bool (by rw [E0.out, E.out]), hb⟩
    · have e : sealB g s = false := by unfold sealB; rw [HL.out, HL2.out, decide_eq_false hnn]; simp
      have E := Lib.hid e
      have htt := Nat.le_trans hle htop
      have htt2 := Nat.le_trans hle2 htop2
      have hne : ((n2 : Int) != (n' : Int)) = true := by rw [bne_iff_ne]; omega
      clear e hnn
      go_enter Try.func13, Try.ntmps13
      go_wp2_with fail
      refine (GraphValid_any _ _ _ _ _ h).mono ?_; rintro e w1 ⟨rfl, hb1⟩; rw [HV.out]
      go_wp2
      go_ret
      exact ⟨ret_bool E.out.symm, hb1⟩


set_option maxHeartbeats 2000000 in
theorem specGroupSealed_any (A : Option Addr) (n c : Nat) (g : List (List Int)) (A2 : Option Addr) (n2 c2 : Nat) (s : List Bool) (w : World) (h : RdR w A n c g) (h2 : Rd w 1 A2 n2 c2 (cB s)) :
    Calls Try.prog 10 #[.slice A n c, .slice A2 n2 c2] w fun e w' => e = .returned (.bool (sealB g s)) ∧ Ext w w' := by
  have hle := h.le
  have htop := h.top
  have hle2 := h2.le
  have htop2 := h2.top
  have HL := Lib.hid h.lenR
  have HL2 := Lib.hid h2.lenB
  cases hv : gValid g with
  | false =>
    have e : sealB g s = false := by unfold sealB; rw [hv]; rfl
    have E := Lib.hid e
    clear e
    go_enter Try.func10, Try.ntmps10
    go_wp2_with fail
    refine (specGraphValid_any _ _ _ _ _ h).mono ?_; rintro e w1 ⟨rfl, hb1⟩; rw [hv]
    go_wp2
    go_ret
    exact ⟨ret_bool E.out.symm, hb1⟩
  | true =>
    obtain ⟨n', m, ht, hnm, h6, hm, _⟩ := tab_of_valid hv
    have hn : n' = n := by rw [← ht.len, HL.out]
    subst hn
    have HT := Lib.hid ht
    have HV := Lib.hid hv
    by_cases hnn : n2 = n'
    · subst hnn
      have e0 : sealB g s = sealL g s n2 := by unfold sealB; rw [hv, HL.out, HL2.out]; simp
      have E0 := Lib.hid e0
      clear e0 hv ht
      go_enter Try.func10, Try.ntmps10
      go_wp2_with fail
      refine (specGraphValid_any _ _ _ _ _ h).mono ?_; rintro e w1 ⟨rfl, hb1⟩; rw [HV.out]
      go_wp2
      go_loopw [5] (fun ii wr => ∃ i : Nat, i ≤ n2 ∧ ii = .int .i64 i ∧ Ext w wr ∧ Hid (∀ i' k', i' < i → k' < n2 → badS g s i' k' = false)) (fun ii _ => n2 - (intOf ii).toNat)
      case atStart => exact ⟨0, Nat.zero_le _, rfl, hb1, fun i' k' hi' => absurd hi' (by omega)⟩
      case round =>
        clear hb1
        obtain ⟨i, hi, rfl, hb, HO⟩ := hrel
        by_cases hlt : i < n2
        · go_wp2
          go_loopw [6] (fun kk wr => ∃ k : Nat, k ≤ n2 ∧ kk = .int .i64 k ∧ Ext w wr ∧ Hid (∀ k', k' < k → badS g s i k' = false)) (fun kk _ => n2 - (intOf kk).toNat)
          case atStart => exact ⟨0, Nat.zero_le _, rfl, hb, fun k' hk' => absurd hk' (by omega)⟩
          case round =>
            clear hb
            obtain ⟨k, hk, rfl, hb, HI⟩ := hrel
            by_cases hkt : k < n2
            · obtain ⟨b3, off3, ti, hA3, Zi, gi⟩ := (h2.below hb).atB hlt
              obtain ⟨b4, off4, tk, hA4, Zk, gk⟩ := (h2.below hb).atB hkt
              subst hA3
              simp only [Option.some.injEq, Addr.mk.injEq, and_true] at hA4
              obtain ⟨rfl, rfl⟩ := hA4
              obtain ⟨b1, off1, b2, o2, c2, hA, p1, q1, r1, s1⟩ := (h.below hb).atEl HT.out hlt (show k < m by omega)
              subst hA
              obtain ⟨tz, ez⟩ : ∃ t, (el g i k == 0) = t := ⟨_, rfl⟩
              have nz : (el g i k != 0) = !tz := by rw [← ez]; rfl
              have HBAD : Hid (badS g s i k = ((ti != tk) && !tz)) := by unfold badS; rw [gb_get Zi.out, gb_get Zk.out, ez]; exact rfl
              obtain ⟨z1, hz1⟩ : ∃ z, z = el g i k := ⟨_, rfl⟩
              rw [← hz1] at s1 nz
              have P1 := later_cell p1
              have S1 := later_cell s1
              have Gi := later_cell gi
              have Gk := later_cell gk
              clear hz1 ez Zi Zk gi gk p1 s1 h h2
              cases ti <;> cases tk <;> cases tz
              all_goals (try simp only [Bool.not_false, Bool.not_true] at nz)
              all_goals go_wp2
              all_goals (refine wp_region_later (by kernel_rfl) (by kernel_rfl) ?_; repeat (any_goals (first | (with_reducible refine wpQuiet_nil ?_; intro wq hq) | go_big_quiet_step ((fail)))))
              all_goals go_wp2
              all_goals first
                | (go_ret
                   exact ⟨ret_bool (by rw [E0.out, sealL_notS hlt hkt (by rw [HBAD.out]; rfl)]), hb.trans hq⟩)
                | (go_roundw
                   case rel => exact ⟨k + 1, by omega, by go_num, hb.trans hq, fun k' hk' => by
                     by_cases e : k' = k
                     · rw [e, HBAD.out]; rfl
                     · exact HI.out k' (by omega)⟩
                   case measure => simp [intOf]; omega)
            · have hall : ∀ i' k', i' < i + 1 → k' < n2 → badS g s i' k' = false := fun i' k' hi' hk' => by
                by_cases e : i' = i
                · rw [e]; exact HI.out k' (by omega)
                · exact HO.out i' k' (by omega) hk'
              have HALL := Lib.hid hall
              clear hall HI HO h h2
              go_wp2
              go_roundw
              case rel => exact ⟨i + 1, by omega, by go_num, hb, HALL⟩
              case measure => simp [intOf]; omega
        · have e : sealL g s n2 = true := by rw [sealL_iff, seal_badS]; intro i' k' hi' hk'; exact HO.out i' k' (by omega) hk'
          have E := Lib.hid e
          clear e HO h h2
          go_wp2
          go_ret
          exact ⟨ret_bool (by rw [E0.out, E.out]), hb⟩
    · have e : sealB g s = false := by unfold sealB; rw [HL.out, HL2.out, decide_eq_false hnn]; simp
      have E := Lib.hid e
      have htt := Nat.le_trans hle htop
      have htt2 := Nat.le_trans hle2 htop2
      have hne : ((n2 : Int) != (n' : Int)) = true := by rw [bne_iff_ne]; omega
      clear e hnn
      go_enter Try.func10, Try.ntmps10
      go_wp2_with fail
      refine (specGraphValid_any _ _ _ _ _ h).mono ?_; rintro e w1 ⟨rfl, hb1⟩; rw [HV.out]
      go_wp2
      go_ret
      exact ⟨ret_bool E.out.symm, hb1⟩

end Go.Proofs.Ytakdefcdhcghiaa
