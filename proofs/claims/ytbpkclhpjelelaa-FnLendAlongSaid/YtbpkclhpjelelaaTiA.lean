/-
  Whether amounts of time are valid, as the program and as the reference ask it.
-/
import Derived.Test.YtbpkclhpjelelaaInts
import Derived.Test.YtbpkclhpjelelaaIxIV
namespace Go.Proofs.Ytbpkclhpjelelaa
open Go.RowKit

def tOk (z : Int) : Bool := inB z 0 10000
def tValid (zs : List Int) : Bool := zs.all tOk && decide (zs.length ≤ 16)

theorem TimesValidFn_any (z : Int) (w : World) :
    Calls Try.prog 31 #[.int .i64 z] w fun e w' => e = .returned (.bool (!tOk z)) ∧ w = w' := by
  go_enter Try.func31, Try.ntmps31
  go_wp2_with ((go_at_call 32; refine (in_any _ _ _ _).mono ?_; rintro e w' ⟨rfl, rfl⟩))
  go_ret
  exact ⟨rfl, rfl⟩

set_option maxHeartbeats 400000 in
theorem ContainsFuncT_any (A : Option Addr) (n c : Nat) (zs : List Int) (w : World) (h : Rd w 1 A n c (cI zs)) :
    Calls Try.prog 30 #[.slice A n c, .func (.func 31) #[] #[]] w fun e w' => e = .returned (.bool (zs.any fun z => !tOk z)) ∧ Ext w w' := by
  have e := idxOr_any (fun z => !tOk z) zs
  obtain ⟨ix, hix⟩ : ∃ z, idxOr (fun z => !tOk z) zs = z := ⟨_, rfl⟩
  rw [hix] at e
  have E := Lib.hid e
  have HIX := Lib.hid hix
  clear e hix
  go_enter Try.func30, Try.ntmps30
  go_wp2_with fail
  refine (IndexIV_any (fun z => !tOk z) _ _ _ _ _ h (fun z w1 _ => (TimesValidFn_any z w1).mono fun e w2 ⟨he, hw⟩ => ⟨he, hw ▸ Below.refl _ _⟩)).mono ?_; rintro e w2 ⟨rfl, hb2⟩; rw [HIX.out]
  go_wp2
  go_ret
  exact ⟨ret_bool E.out, hb2⟩

set_option maxHeartbeats 400000 in
theorem TimesValid_any (A : Option Addr) (n c : Nat) (zs : List Int) (w : World) (h : Rd w 1 A n c (cI zs)) :
    Calls Try.prog 10 #[.slice A n c] w fun e w' => e = .returned (.bool (tValid zs)) ∧ Ext w w' := by
  have hl := h.lenI
  by_cases hn : n ≤ 16
  · have e : tValid zs = !(zs.any fun z => !tOk z) := by unfold tValid; rw [decide_eq_true (by omega), Bool.and_true, List.not_any_eq_all_not]; simp
    have E := Lib.hid e
    clear e
    go_enter Try.func10, Try.ntmps10
    go_wp2_with ((go_at_call 30; refine (ContainsFuncT_any _ _ _ _ _ h).mono ?_; rintro e w' ⟨rfl, hb⟩))
    go_ret
    exact ⟨ret_bool E.out.symm, hb⟩
  · have e : tValid zs = false := by unfold tValid; rw [decide_eq_false (by omega), Bool.and_false]
    have E := Lib.hid e
    clear e h
    go_enter Try.func10, Try.ntmps10
    go_wp2
    go_ret
    exact ⟨ret_bool E.out.symm, Below.refl _ _⟩

set_option maxHeartbeats 400000 in
theorem specTimesValid_any (A : Option Addr) (n c : Nat) (zs : List Int) (w : World) (h : Rd w 1 A n c (cI zs)) :
    Calls Try.prog 11 #[.slice A n c] w fun e w' => e = .returned (.bool (tValid zs)) ∧ w = w' := by
  have hl := h.lenI
  have hle := h.le
  have htop := h.top
  have HL := Lib.hid hl
  clear hl
  go_enter Try.func11, Try.ntmps11
  go_wp2
  go_loopw [3] (fun i wr => ∃ k : Nat, k ≤ n ∧ i = .int .i64 k ∧ w = wr ∧ Hid (zs.all tOk = (zs.drop k).all tOk)) (fun i _ => n - (intOf i).toNat)
  case atStart => exact ⟨0, Nat.zero_le _, rfl, rfl, rfl⟩
  case round =>
    obtain ⟨k, hk, rfl, rfl, H⟩ := hrel
    by_cases hlt : k < n
    · obtain ⟨b, off, z, rfl, X, g0⟩ := h.atI hlt
      have hd : zs.all tOk = (tOk z && (zs.drop (k + 1)).all tOk) := by rw [H.out, drop_of_get X.out, List.all_cons]
      have HD := Lib.hid hd
      obtain ⟨t, ht⟩ : ∃ t, tOk z = t := ⟨_, rfl⟩
      have hti : inB z 0 10000 = t := ht
      clear hd H X h
      go_wp2_with fail
      refine (l1In_any _ _ _ _).mono ?_; rintro e w' ⟨rfl, rfl⟩; rw [hti]
      cases t
      · go_wp2
        go_ret
        exact ⟨ret_bool (by unfold tValid; rw [HD.out, ht]; rfl), rfl⟩
      · go_wp2
        go_roundw
        case rel => exact ⟨k + 1, by omega, by go_num, by first | rfl | trivial, Lib.hid (by rw [HD.out, ht]; exact Bool.true_and _)⟩
        case measure => simp [intOf]; omega
    · have e : zs.all tOk = true := by rw [H.out, drop_all HL.out (by omega)]; rfl
      have E := Lib.hid e
      clear e h
      go_wp2
      go_ret
      exact ⟨ret_bool (by unfold tValid; rw [E.out, Bool.true_and, HL.out]; exact decide_eq_decide.2 (by omega)), rfl⟩
end Go.Proofs.Ytbpkclhpjelelaa
