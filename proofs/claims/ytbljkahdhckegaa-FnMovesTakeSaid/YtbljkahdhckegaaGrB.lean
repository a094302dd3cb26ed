/-
  A graph after a round, as the program makes it.
-/
import Derived.Test.YtbljkahdhckegaaGrA
namespace Go.Proofs.Ytbljkahdhckegaa
open Go.RowKit

set_option maxHeartbeats 4000000 in
theorem grow_any (A : Option Addr) (n c : Nat) (xss : List (List Int)) (w : World) (h : RdR w A n c xss) (m : Nat) (hm : ∀ xs ∈ xss, xs.length = m) (hnm : n ≤ m) (hm1 : m ≤ 1048576) :
    Calls Try.prog 58 #[.slice A n c] w fun e w' => ∃ A' c', e = .returned (.slice A' n c') ∧ FrR w' w.heap.size w'.heap.size A' n c' (growG xss) ∧ Ext w w' := by
  have hle := h.le
  have htop := h.top
  have HL := Lib.hid h.lenR
  have HM := Lib.hid hm
  clear hm
  go_enter Try.func58, Try.ntmps58
  go_wp2_with fail
  refine (copyGraph_any _ _ _ _ _ h (by omega) (fun x hx => by rw [HM.out x hx]; exact hm1)).mono ?_; rintro e w1 ⟨A1, c1, rfl, o1, hb1⟩
  obtain ⟨hs, hO, hhl, hR, hE⟩ := o1.ex
  have HH := Lib.hid hhl
  have HE := Lib.hid hE
  have hcc := hO.rd'.2.le
  have hct := hO.rd'.2.top
  clear hhl hE o1
  go_wp2
  go_loopw [12] (fun ii wr => ∃ i : Nat, i ≤ n ∧ ii = .int .i64 i ∧ Ext w wr ∧ w1.heap.size ≤ wr.heap.size ∧ Fr wr w.heap.size 40 1 (.slice A1 n c1) n (hs.map hv) ∧ Rws wr w.heap.size hs (gAt xss i)) (fun ii _ => n - (intOf ii).toNat)
  case atStart => exact ⟨0, Nat.zero_le _, rfl, hb1, Nat.le_refl _, hO, by rw [gAt_zero]; exact hR⟩
  case round =>
    clear hO hR
    obtain ⟨i, hi, rfl, hb, hsz, hO, hR⟩ := hrel
    by_cases hlt : i < n
    · have hig : i < xss.length := by rw [HL.out]; exact hlt
      rw [← gAt_self hig] at hR
      clear hb1 hig
      go_wp2
      go_loopw [17] (fun kk wk => ∃ k : Nat, k ≤ n ∧ kk = .int .i64 k ∧ Ext w wk ∧ w1.heap.size ≤ wk.heap.size ∧ Fr wk w.heap.size 40 1 (.slice A1 n c1) n (hs.map hv) ∧ Rws wk w.heap.size hs ((gAt xss i).set i (growTo xss i k))) (fun kk _ => n - (intOf kk).toNat)
      case atStart => exact ⟨0, Nat.zero_le _, rfl, hb, hsz, hO, hR⟩
      case round =>
        clear hO hR hb hsz
        obtain ⟨k, hk, rfl, hb, hsz, hO, hR⟩ := hrel
        by_cases hkt : k < n
        · obtain ⟨b, off, Ai, mi, ci, xi, hA, Xi, gi, Ri⟩ := h.atR hlt
          obtain ⟨b', off', Ak, mk, ck, xk, hA', Xk, gk, Rk⟩ := h.atR hkt
          rw [hA] at hA'
          simp only [Option.some.injEq, Addr.mk.injEq, and_true] at hA'
          obtain ⟨rfl, rfl⟩ := hA'
          have hmi : m = mi := by rw [← Ri.lenI]; exact (HM.out _ (List.mem_of_getElem? Xi.out)).symm
          have hmk : m = mk := by rw [← Rk.lenI]; exact (HM.out _ (List.mem_of_getElem? Xk.out)).symm
          subst hmi hmk
          obtain ⟨b1, off1, z1, hA1, Z1, q1⟩ := Ri.atI (show k < m by omega)
          obtain ⟨b2, off2, z2, hA2, Z2, q2⟩ := Rk.atI (show i < m by omega)
          subst hA hA1 hA2
          have hci := Ri.le
          have hcit := Ri.top
          have hck := Rk.le
          have hckt := Rk.top
          have el1 := el_get Xi.out Z1.out
          have el2 := el_get Xk.out Z2.out
          have Gi := kept_of_below hb _ _ gi
          have Gk := kept_of_below hb _ _ gk
          have Q1 := kept_of_below hb _ _ q1
          have Q2 := kept_of_below hb _ _ q2
          obtain ⟨t1, ht1⟩ : ∃ t, (bits .and .i64 z1 1 == 0) = t := ⟨_, rfl⟩
          obtain ⟨t2, ht2⟩ : ∃ t, (bits .and .i64 z2 4 == 0) = t := ⟨_, rfl⟩
          have el3 : lnk xss i k = (!t1 || !t2) := by unfold lnk; rw [el1, el2, ht1, ht2]
          have EL := Lib.hid el3
          have hrk := rowAt_get Xk.out
          have HRK := Lib.hid hrk
          have hig : i < xss.length := by rw [HL.out]; exact hlt
          have hac : (growTo xss i k).length = m := growTo_len HM.out hig k (by rw [HL.out]; omega)
          have HAC := Lib.hid hac
          have hset : ∀ X : List Int, ((gAt xss i).set i X)[i]? = some X := fun X => List.getElem?_set_self (by rw [gAt_len (by omega)]; exact hig)
          have HSET := Lib.hid hset
          clear el1 el2 el3 hrk hac hset hig Z1 Z2 gi q1 q2 Ri Xi
          cases t1 <;> cases t2
          iterate 3
            next =>
              (have EL2 : Hid (growTo xss i (k + 1) = orRow (growTo xss i k) (rowAt xss k)) := by show (if lnk xss i k then _ else _) = _; rw [EL.out]; rfl
               clear EL
               go_wp2
               go_loopw [45] (fun jj wj => ∃ j : Nat, j ≤ m ∧ jj = .int .i64 j ∧ Ext w wj ∧ w1.heap.size ≤ wj.heap.size ∧ Fr wj w.heap.size 40 1 (.slice A1 n c1) n (hs.map hv) ∧ Rws wj w.heap.size hs ((gAt xss i).set i (orTo (growTo xss i k) (rowAt xss k) j))) (fun jj _ => m - (intOf jj).toNat)
               case atStart => exact ⟨0, Nat.zero_le _, rfl, hb, hsz, hO, by rw [orTo_zero]; exact hR⟩
               case round =>
                 clear hO hR hb hsz Gi Gk Q1 Q2
                 obtain ⟨j, hj, rfl, hb, hsz, hO, hR⟩ := hrel
                 by_cases hjt : j < m
                 · obtain ⟨b3, off3, y, hA3, Y, q3⟩ := Rk.atI hjt
                   simp only [Option.some.injEq, Addr.mk.injEq, and_true] at hA3
                   obtain ⟨rfl, rfl⟩ := hA3
                   have Gk := kept_of_below hb _ _ gk
                   have Q3 := kept_of_below hb _ _ q3
                   have hol : (orTo (growTo xss i k) (rowAt xss k) j).length = m := orTo_len HAC.out (by rw [HRK.out]; exact HM.out _ (List.mem_of_getElem? Xk.out)) (by omega)
                   obtain ⟨b4, off4, g4, m4, c4, z, hA4, gh, hm4, hmc4, hct4, hhd, Z, qz, fz, hB, hW⟩ := rws_at hO HH.out hR hlt (HSET.out _) (show j < _ by rw [hol]; exact hjt)
                   rw [hol] at hm4
                   subst hm4 hA4
                   obtain ⟨z0, hz0⟩ := get_of_lt HAC.out hjt
                   have hzz := orTo_get HAC.out (b := rowAt xss k) (m := m) (by rw [HRK.out]; exact HM.out _ (List.mem_of_getElem? Xk.out)) hz0
                   have hze : z = z0 := by have := Z.out.symm.trans hzz; simpa using this
                   subst hze
                   have hyk : (rowAt xss k)[j]? = some y := by rw [HRK.out]; exact Y.out
                   obtain ⟨w1', w2', w3'⟩ := hW (bits .or .i64 z y)
                   rw [List.set_set, show (orTo (growTo xss i k) (rowAt xss k) j).set j (bits .or .i64 z y) = _ from orTo_step HAC.out (by rw [HRK.out]; exact HM.out _ (List.mem_of_getElem? Xk.out)) hz0 hyk] at w1'
                   have hb3 := Below.setCell hb (p := ⟨g4, j, none⟩) hB (.int .i64 (bits .or .i64 z y))
                   have hsz3 := Nat.le_trans hsz w3'.size
                   clear hW hzz hz0 hyk Y Z hhd hol hR hO h Rk q3 gk w3'
                   go_wp2
                   go_roundw
                   case rel => exact ⟨j + 1, by omega, by go_num, hb3, hsz3, w2', w1'⟩
                   case measure => simp [intOf]; omega
                 · have e : orTo (growTo xss i k) (rowAt xss k) j = growTo xss i (k + 1) := by rw [EL2.out, orTo_end HAC.out (by rw [HRK.out]; exact HM.out _ (List.mem_of_getElem? Xk.out)) (by omega)]
                   rw [e] at hR
                   clear e EL2 h Rk gk
                   go_wp2
                   go_roundw
                   case rel => exact ⟨k + 1, by omega, by go_num, hb, hsz, hO, hR⟩
                   case measure => simp [intOf]; omega)
          next =>
            have e : growTo xss i (k + 1) = growTo xss i k := by show (if lnk xss i k then _ else _) = _; rw [EL.out]; rfl
            rw [← e] at hR
            clear e EL h Rk gk
            go_wp2
            go_roundw
            case rel => exact ⟨k + 1, by omega, by go_num, hb, hsz, hO, hR⟩
            case measure => simp [intOf]; omega
        · have e : k = n := by omega
          have hig : i < xss.length := by rw [HL.out]; exact hlt
          rw [e, ← HL.out, gAt_step hig] at hR
          clear e hig h
          go_wp2
          go_roundw
          case rel => exact ⟨i + 1, by omega, by go_num, hb, hsz, hO, hR⟩
          case measure => simp [intOf]; omega
    · have e : i = n := by omega
      rw [e, ← HL.out, gAt_end] at hR
      clear h e
      go_wp2
      go_ret
      exact ⟨_, _, rfl, ⟨hs, hO, HH.out, hR, fun j x g hj hg => Nat.lt_of_lt_of_le (HE.out j x g hj hg) hsz⟩, hb⟩
end Go.Proofs.Ytbljkahdhckegaa
