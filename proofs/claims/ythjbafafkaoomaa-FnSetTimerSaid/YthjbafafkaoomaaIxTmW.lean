/-
  The library's IndexFunc at slices of impl.Timer, with the closure impl.withoutTimer$1.
-/
import Derived.Test.YthjbafafkaoomaaSmall
import Derived.Test.YthjbafafkaoomaaAg2
import Derived.Test.YthjbafafkaoomaaIdx
namespace Go.Proofs.Ythjbafafkaoomaa
open Go.RowKit

set_option maxHeartbeats 400000 in
theorem IndexTmW_any (q : Int × Int → Bool) (pa : Addr) (A : Option Addr) (n c : Nat) (ms : List (Int × Int)) (w : World) (h : Rd w 2 A n c (c2 ms)) (hq : ∀ x0 x1 (w1 : World), Ext w w1 → Calls Try.prog 70 #[.agg #[.int .i64 x0, .int .i64 x1], .pointer (some pa)] w1 fun e w2 => e = .returned (.bool (q (x0, x1))) ∧ Ext w1 w2) :
    Calls Try.prog 61 #[.slice A n c, .func (.func 70) #[] #[.pointer (some pa)]] w fun e w' => e = .returned (.int .i64 (idxOr q ms)) ∧ Ext w w' := by
  have hle := h.le
  have htop := h.top
  have HL := Lib.hid h.len2
  go_enter Try.func61, Try.ntmps61
  go_wp2
  go_loopw [8] (fun i wr => ∃ k : Nat, k ≤ n ∧ i = .int .i64 k ∧ Ext w wr ∧ Hid (idxOr q ms = shiftIx k (idxOr q (ms.drop k)))) (fun i _ => n - (intOf i).toNat)
  case atStart => exact ⟨0, Nat.zero_le _, rfl, Below.refl _ _, Lib.hid (by rw [shiftIx_zero]; rfl)⟩
  case round =>
    obtain ⟨k, hk, rfl, hb, H⟩ := hrel
    by_cases hlt : k < n
    · obtain ⟨b, off, x0, x1, rfl, X, g0, g1⟩ := (h.below hb).at2 hlt
      have e : idxOr q ms = shiftIx k (if q (x0, x1) then 0 else shiftIx 1 (idxOr q (ms.drop (k + 1)))) := by rw [H.out, drop_of_get X.out]; rfl
      have E := Lib.hid e
      clear h e H X HL
      cases t : q (x0, x1) with
      | true =>
        go_wp2_with (go_at_call 70; refine (hq _ _ _ hb).mono ?_; rintro e w2 ⟨rfl, hb2⟩; rw [t])
        go_ret
        exact ⟨ret_int (by rw [E.out, if_pos t]; simp [shiftIx]), hb.trans hb2⟩
      | false =>
        go_wp2_with (go_at_call 70; refine (hq _ _ _ hb).mono ?_; rintro e w2 ⟨rfl, hb2⟩; rw [t])
        go_roundw
        case rel => exact ⟨k + 1, by omega, by go_num, hb.trans hb2, Lib.hid (by rw [E.out, if_neg (by rw [t]; exact Bool.false_ne_true), shiftIx_add])⟩
        case measure => simp [intOf]; omega
    · have e : idxOr q ms = -1 := by rw [H.out, drop_all HL.out (by omega)]; rfl
      have E := Lib.hid e
      clear h e H HL
      go_wp2
      go_ret
      exact ⟨ret_int E.out.symm, hb⟩
end Go.Proofs.Ythjbafafkaoomaa
