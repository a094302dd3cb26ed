/-
  Callers' lists and lending along calls, as the program and as the reference do it.
-/
import Derived.Test.YtbpkclhpjelelaaTiB2
import Derived.Test.YtbpkclhpjelelaaIxIL
import Derived.Deep.Cut
namespace Go.Proofs.Ytbpkclhpjelelaa
open Go.RowKit

def sameI (v : Int) (z : Int) : Bool := decide (v = z)
theorem sameI_any (v : Int) (zs : List Int) : zs.any (sameI v) = true ↔ v ∈ zs := by
  rw [List.any_eq_true]
  constructor
  · rintro ⟨x, hx, h⟩; simp only [sameI, decide_eq_true_eq] at h; exact h ▸ hx
  · intro h; exact ⟨v, h, by simp [sameI]⟩

set_option maxHeartbeats 400000 in
theorem IndexI_any (A : Option Addr) (n c : Nat) (zs : List Int) (v : Int) (w : World) (h : Rd w 1 A n c (cI zs)) :
    Calls Try.prog 55 #[.slice A n c, .int .i64 v] w fun e w' => e = .returned (.int .i64 (idxOr (sameI v) zs)) ∧ w = w' := by
  have hle := h.le
  have htop := h.top
  have HL := Lib.hid h.lenI
  go_enter Try.func55, Try.ntmps55
  go_wp2
  go_loopw [8] (fun i wr => ∃ k : Nat, k ≤ n ∧ i = .int .i64 k ∧ w = wr ∧ Hid (idxOr (sameI v) zs = shiftIx k (idxOr (sameI v) (zs.drop k)))) (fun i _ => n - (intOf i).toNat)
  case atStart => exact ⟨0, Nat.zero_le _, rfl, rfl, Lib.hid (by rw [shiftIx_zero]; rfl)⟩
  case round =>
    obtain ⟨k, hk, rfl, rfl, H⟩ := hrel
    by_cases hlt : k < n
    · obtain ⟨b, off, z, rfl, X, g0⟩ := h.atI hlt
      have e : idxOr (sameI v) zs = shiftIx k (if sameI v z then 0 else shiftIx 1 (idxOr (sameI v) (zs.drop (k + 1)))) := by rw [H.out, drop_of_get X.out]; rfl
      have E := Lib.hid e
      clear h e H X HL
      by_cases hv : v = z
      · subst hv
        go_wp2
        go_ret
        exact ⟨ret_int (by rw [E.out, if_pos (by simp [sameI])]; simp [shiftIx]), rfl⟩
      · have hv' : (v == z) = false := by rw [beq_eq_false_iff_ne]; exact hv
        go_wp2
        go_roundw
        case rel => exact ⟨k + 1, by omega, by go_num, by first | rfl | trivial, Lib.hid (by rw [E.out, if_neg (by simp [sameI, hv]), shiftIx_add])⟩
        case measure => simp [intOf]; omega
    · have e : idxOr (sameI v) zs = -1 := by rw [H.out, drop_all HL.out (by omega)]; rfl
      have E := Lib.hid e
      clear h e H HL
      go_wp2
      go_ret
      exact ⟨ret_int E.out.symm, rfl⟩
theorem ContainsI_any (A : Option Addr) (n c : Nat) (zs : List Int) (v : Int) (w : World) (h : Rd w 1 A n c (cI zs)) :
    Calls Try.prog 53 #[.slice A n c, .int .i64 v] w fun e w' => e = .returned (.bool (zs.any (sameI v))) ∧ w = w' := by
  have e := idxOr_any (sameI v) zs
  obtain ⟨ix, hix⟩ : ∃ z, idxOr (sameI v) zs = z := ⟨_, rfl⟩
  rw [hix] at e
  have E := Lib.hid e
  have HIX := Lib.hid hix
  clear e hix
  go_enter Try.func53, Try.ntmps53
  go_wp2_with fail
  refine (IndexI_any _ _ _ _ _ _ h).mono ?_; rintro e w2 ⟨rfl, rfl⟩; rw [HIX.out]
  go_wp2
  go_ret
  exact ⟨ret_bool E.out, rfl⟩

/-- Number k of a list is a thread that did not come before. -/
def dAt (cs : List Int) (k : Nat) : Bool := inB (at0 cs k) 0 15 && !((cs.take k).any (sameI (at0 cs k)))
def difL (cs : List Int) : Bool := (List.range cs.length).all (dAt cs)
def cValid (cs : List Int) : Bool := decide (cs.length ≤ 16) && difL cs
theorem range_step {p : Nat → Bool} {k : Nat} (h : (List.range k).all p = true) (hk : p k = true) : (List.range (k + 1)).all p = true := by
  rw [List.range_succ, List.all_append, h]; simp [hk]
theorem range_no {p : Nat → Bool} {k n : Nat} (hk : p k = false) (hlt : k < n) : (List.range n).all p = false := by
  rw [← Bool.not_eq_true]
  intro h
  have := List.all_eq_true.1 h k (List.mem_range.2 hlt)
  rw [hk] at this; cases this

set_option maxHeartbeats 400000 in
theorem different_any (A : Option Addr) (n c : Nat) (cs : List Int) (w : World) (h : Rd w 1 A n c (cI cs)) :
    Calls Try.prog 50 #[.slice A n c] w fun e w' => e = .returned (.bool (difL cs)) ∧ w = w' := by
  have hle := h.le
  have htop := h.top
  have HL := Lib.hid h.lenI
  go_enter Try.func50, Try.ntmps50
  go_wp2
  go_loopw [7] (fun i wr => ∃ k : Nat, k ≤ n ∧ i = .int .i64 k ∧ w = wr ∧ Hid ((List.range k).all (dAt cs) = true)) (fun i _ => n - (intOf i).toNat)
  case atStart => exact ⟨0, Nat.zero_le _, rfl, rfl, rfl⟩
  case round =>
    obtain ⟨k, hk, rfl, rfl, H⟩ := hrel
    by_cases hlt : k < n
    · have hin := h.init (m := k) (by omega)
      rw [← cI_take] at hin
      obtain ⟨b, off, z, rfl, X, g0⟩ := h.atI hlt
      have ed : dAt cs k = (inB z 0 15 && !((cs.take k).any (sameI z))) := by unfold dAt; rw [at0_get X.out]
      obtain ⟨t1, e1⟩ : ∃ t, inB z 0 15 = t := ⟨_, rfl⟩
      obtain ⟨t2, e2⟩ : ∃ t, (cs.take k).any (sameI z) = t := ⟨_, rfl⟩
      rw [e1, e2] at ed
      have ED := Lib.hid ed
      have E1 := Lib.hid e1
      have E2 := Lib.hid e2
      clear ed e1 e2 X h
      go_wp2_with fail
      refine (isThread_any _ _).mono ?_; rintro e w' ⟨rfl, rfl⟩; rw [E1.out]
      cases t1
      · clear hin
        go_wp2
        go_ret
        exact ⟨ret_bool (by unfold difL; rw [HL.out, range_no (by rw [ED.out]; rfl) hlt]), rfl⟩
      · go_wp2_with fail
        refine (ContainsI_any _ _ _ _ _ _ hin).mono ?_; rintro e w' ⟨rfl, rfl⟩; rw [E2.out]
        clear hin
        cases t2
        · go_wp2
          go_roundw
          case rel => exact ⟨k + 1, by omega, by go_num, by first | rfl | trivial, Lib.hid (range_step H.out (by rw [ED.out]; rfl))⟩
          case measure => simp [intOf]; omega
        · go_wp2
          go_ret
          exact ⟨ret_bool (by unfold difL; rw [HL.out, range_no (by rw [ED.out]; rfl) hlt]), rfl⟩
    · have e : difL cs = true := by unfold difL; rw [HL.out, show n = k by omega]; exact H.out
      have E := Lib.hid e
      clear e H h
      go_wp2
      go_ret
      exact ⟨ret_bool E.out.symm, rfl⟩
theorem CallsValid_any (A : Option Addr) (n c : Nat) (cs : List Int) (w : World) (h : Rd w 1 A n c (cI cs)) :
    Calls Try.prog 37 #[.slice A n c] w fun e w' => e = .returned (.bool (cValid cs)) ∧ w = w' := by
  have hl := h.lenI
  have hle := h.le
  have htop := h.top
  by_cases hn : n ≤ 16
  · have e : cValid cs = difL cs := by unfold cValid; rw [decide_eq_true (by omega), Bool.true_and]
    have E := Lib.hid e
    clear e hl
    go_enter Try.func37, Try.ntmps37
    go_wp2_with ((go_at_call 50; refine (different_any _ _ _ _ _ h).mono ?_; rintro e w' ⟨rfl, rfl⟩))
    go_ret
    exact ⟨ret_bool E.out.symm, rfl⟩
  · have e : cValid cs = false := by unfold cValid; rw [decide_eq_false (by omega), Bool.false_and]
    have E := Lib.hid e
    clear e h hl
    go_enter Try.func37, Try.ntmps37
    go_wp2
    go_ret
    exact ⟨ret_bool E.out.symm, rfl⟩
theorem take_any_step {cs : List Int} {v z : Int} {j : Nat} (hz : cs[j]? = some z) : (cs.take (j + 1)).any (sameI v) = ((cs.take j).any (sameI v) || sameI v z) := by
  rw [take_of_get hz, List.any_append]; simp
set_option maxHeartbeats 1000000 in
theorem specCallsValid_any (A : Option Addr) (n c : Nat) (cs : List Int) (w : World) (h : Rd w 1 A n c (cI cs)) :
    Calls Try.prog 36 #[.slice A n c] w fun e w' => e = .returned (.bool (cValid cs)) ∧ Ext w w' := by
  have hle := h.le
  have htop := h.top
  have HL := Lib.hid h.lenI
  go_enter Try.func36, Try.ntmps36
  go_wp2
  go_loopw [3] (fun i wr => ∃ k : Nat, k ≤ n ∧ i = .int .i64 k ∧ Ext w wr ∧ Hid ((List.range k).all (dAt cs) = true)) (fun i _ => n - (intOf i).toNat)
  case atStart => exact ⟨0, Nat.zero_le _, rfl, Below.refl _ _, rfl⟩
  case round =>
    obtain ⟨k, hk, rfl, hE, H⟩ := hrel
    rename World => wo
    have hR := h.below hE
    by_cases hlt : k < n
    · obtain ⟨b, off, z, rfl, X, g0⟩ := hR.atI hlt
      have ed : dAt cs k = (inB z 0 15 && !((cs.take k).any (sameI z))) := by unfold dAt; rw [at0_get X.out]
      obtain ⟨t1, e1⟩ : ∃ t, inB z 0 15 = t := ⟨_, rfl⟩
      rw [e1] at ed
      have ED := Lib.hid ed
      have E1 := Lib.hid e1
      clear ed e1 h
      go_wp2_with fail
      refine (l1In_any _ _ _ _).mono ?_; rintro e w' ⟨rfl, rfl⟩; rw [E1.out]
      cases t1
      · clear hR
        go_wp2
        go_ret
        exact ⟨ret_bool (by unfold cValid difL; rw [HL.out, range_no (by rw [ED.out]; rfl) hlt, Bool.and_false]), hE⟩
      · go_wp2
        go_loopw [4] (fun i wr => ∃ j : Nat, j ≤ k ∧ i = .int .i64 j ∧ Ext wo wr ∧ Hid ((cs.take j).any (sameI z) = false)) (fun i _ => k - (intOf i).toNat)
        case atStart => exact ⟨0, Nat.zero_le _, rfl, Below.refl _ _, Lib.hid (by simp)⟩
        case round =>
          obtain ⟨j, hj, rfl, hE2, H2⟩ := hrel
          by_cases hjk : j < k
          · obtain ⟨b', off', y, hA, Y, g1⟩ := (hR.below hE2).atI (k := j) (by omega)
            simp only [Option.some.injEq, Addr.mk.injEq, and_true] at hA
            obtain ⟨rfl, rfl⟩ := hA
            have g0' := kept_of_below hE2 _ _ g0
            have G0 := later_cell g0'
            have G1 := later_cell g1
            have et := take_any_step (v := z) Y.out
            rw [H2.out, Bool.false_or] at et
            have ET := Lib.hid et
            clear hR et Y X H2 g0 g1 g0'
            by_cases hyz : y = z
            · subst hyz
              have ha : (cs.take k).any (sameI y) = true := by
                rw [List.any_eq_true]
                have h1 : (cs.take (j + 1)).any (sameI y) = true := by rw [ET.out]; simp [sameI]
                obtain ⟨x, hx, hx2⟩ := List.any_eq_true.1 h1
                exact ⟨x, (List.take_subset_take_left cs (by omega)) hx, hx2⟩
              have HA := Lib.hid ha
              clear ha
              go_wp2
              (refine wp_region_later (by kernel_rfl) (by kernel_rfl) ?_; repeat (any_goals (first | (with_reducible refine wpQuiet_nil ?_; intro wq hq) | go_big_quiet_step ((fail)))))
              go_wp2
              go_ret
              exact ⟨ret_bool (by unfold cValid difL; rw [HL.out, range_no (by rw [ED.out, HA.out]; rfl) hlt, Bool.and_false]), hE.trans (hE2.trans hq)⟩
            · have hyz' : (y == z) = false := by rw [beq_eq_false_iff_ne]; exact hyz
              go_wp2
              (refine wp_region_later (by kernel_rfl) (by kernel_rfl) ?_; repeat (any_goals (first | (with_reducible refine wpQuiet_nil ?_; intro wq hq) | go_big_quiet_step ((fail)))))
              go_wp2
              go_roundw
              case rel => exact ⟨j + 1, by omega, by go_num, hE2.trans hq, Lib.hid (by rw [ET.out]; simp [sameI, Ne.symm hyz])⟩
              case measure => simp [intOf]; omega
          · obtain rfl : j = k := by omega
            have hd : dAt cs j = true := by rw [ED.out, H2.out]; rfl
            have HD := Lib.hid hd
            clear hd hR g0 X H2
            go_wp2
            go_roundw
            case rel => exact ⟨j + 1, by omega, by go_num, hE.trans hE2, Lib.hid (range_step H.out HD.out)⟩
            case measure => simp [intOf]; omega
    · have e : cValid cs = decide (n ≤ 16) := by unfold cValid difL; rw [HL.out, show n = k by omega, H.out, Bool.and_true]
      have E := Lib.hid e
      clear e H h hR
      go_wp2
      go_ret
      exact ⟨ret_bool (by rw [E.out]; exact decide_eq_decide.2 (by omega)), hE⟩
end Go.Proofs.Ytbpkclhpjelelaa
