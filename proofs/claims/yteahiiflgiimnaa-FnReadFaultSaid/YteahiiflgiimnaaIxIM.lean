/-
  The library's IndexFunc at slices of int, with the closure impl.MessageValid$1.
-/
import Derived.Test.YteahiiflgiimnaaSmall
import Derived.Test.YteahiiflgiimnaaIdx
namespace Go.Proofs.Yteahiiflgiimnaa
open Go.RowKit

set_option maxHeartbeats 400000 in
theorem IndexIM_any (q : Int → Bool)  (A : Option Addr) (n c : Nat) (ms : List (Int)) (w : World) (h : Rd w 1 A n c (cI ms)) (hq : ∀ z (w1 : World), Ext w w1 → Calls Try.prog 85 #[.int .i64 z] w1 fun e w2 => e = .returned (.bool (q z)) ∧ Ext w1 w2) :
    Calls Try.prog 101 #[.slice A n c, .func (.func 85) #[] #[]] w fun e w' => e = .returned (.int .i64 (idxOr q ms)) ∧ Ext w w' := by
  have hle := h.le
  have htop := h.top
  have HL := Lib.hid h.lenI
  go_enter Try.func101, Try.ntmps101
  go_wp2
  go_loopw [8] (fun i wr => ∃ k : Nat, k ≤ n ∧ i = .int .i64 k ∧ Ext w wr ∧ Hid (idxOr q ms = shiftIx k (idxOr q (ms.drop k)))) (fun i _ => n - (intOf i).toNat)
  case atStart => exact ⟨0, Nat.zero_le _, rfl, Below.refl _ _, Lib.hid (by rw [shiftIx_zero]; rfl)⟩
  case round =>
    obtain ⟨k, hk, rfl, hb, H⟩ := hrel
    by_cases hlt : k < n
    · obtain ⟨b, off, z, rfl, X, g0⟩ := (h.below hb).atI hlt
      have e : idxOr q ms = shiftIx k (if q z then 0 else shiftIx 1 (idxOr q (ms.drop (k + 1)))) := by rw [H.out, drop_of_get X.out]; rfl
      have E := Lib.hid e
      clear h e H X HL
      cases t : q z with
      | true =>
        go_wp2_with (go_at_call 85; refine (hq _ _ hb).mono ?_; rintro e w2 ⟨rfl, hb2⟩; rw [t])
        go_ret
        exact ⟨ret_int (by rw [E.out, if_pos t]; simp [shiftIx]), hb.trans hb2⟩
      | false =>
        go_wp2_with (go_at_call 85; refine (hq _ _ hb).mono ?_; rintro e w2 ⟨rfl, hb2⟩; rw [t])
        go_roundw
        case rel => exact ⟨k + 1, by omega, by go_num, hb.trans hb2, Lib.hid (by rw [E.out, if_neg (by rw [t]; exact Bool.false_ne_true), shiftIx_add])⟩
        case measure => simp [intOf]; omega
    · have e : idxOr q ms = -1 := by rw [H.out, drop_all HL.out (by omega)]; rfl
      have E := Lib.hid e
      clear h e H HL
      go_wp2
      go_ret
      exact ⟨ret_int E.out.symm, hb⟩
end Go.Proofs.Yteahiiflgiimnaa
