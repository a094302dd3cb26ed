/-
  Address spaces alike, as the laws ask it.
-/
import Derived.Test.YteahiiflgiimnaaMpA
import Derived.Test.YteahiiflgiimnaaDraw
import Derived.OpenShut
namespace Go.Proofs.Yteahiiflgiimnaa
open Go.RowKit

theorem bytes_of {zs : List Int} (h : ∀ z ∈ zs, (Lit.int .u8 z).wf = true) : ∃ bs : List UInt8, zs.map (Value.int .u8) = cU bs := by
  refine ⟨zs.map fun z => UInt8.ofNat z.toNat, ?_⟩
  unfold cU
  rw [List.map_map]
  refine List.map_congr_left fun z hz => ?_
  have h2 := bounds_u8 (h z hz)
  show Value.int .u8 z = Value.int .u8 ((UInt8.ofNat z.toNat).toNat : Int)
  rw [UInt8.toNat_ofNat']
  congr 1
  omega

set_option maxHeartbeats 400000 in
theorem sameSpace_any (A A' : Option Addr) (n c n' c' : Nat) (ms ms' : List (Int × Int × Int)) (w : World) (h : Rd w 3 A n c (c3 ms)) (h' : Rd w 3 A' n' c' (c3 ms')) :
    Calls Try.prog 37 #[.slice A n c, .slice A' n' c'] w fun e w' => e = .returned (.bool (eqMs ms ms')) ∧ Ext w w' := by
  have hl := h.len3
  have hl' := h'.len3
  have hle := h.le
  have htop := h.top
  by_cases hnn : n = n'
  · have HL := Lib.hid hl
    have HL' := Lib.hid hl'
    clear hl hl'
    subst hnn
    go_enter Try.func37, Try.ntmps37
    go_wp2
    go_loopw [5] (fun i wr => ∃ k : Nat, k ≤ n ∧ i = .int .i64 k ∧ Ext w wr ∧ Hid (eqMs ms ms' = eqMs (ms.drop k) (ms'.drop k))) (fun i _ => n - (intOf i).toNat)
    case atStart => exact ⟨0, Nat.zero_le _, rfl, Below.refl _ _, rfl⟩
    case round =>
      obtain ⟨k, hk, rfl, hb, H⟩ := hrel
      by_cases hlt : k < n
      · obtain ⟨b, off, x0, x1, x2, rfl, X, g0, g1, g2⟩ := (h.below hb).at3 hlt
        obtain ⟨b', off', y0, y1, y2, rfl, X', g0', g1', g2'⟩ := (h'.below hb).at3 hlt
        clear h h'
        have G0 := later_cell g0
        have G1 := later_cell g1
        have G2 := later_cell g2
        have G0' := later_cell g0'
        have G1' := later_cell g1'
        have G2' := later_cell g2'
        have hd : eqMs ms ms' = (eqM (x0, x1, x2) (y0, y1, y2) && eqMs (ms.drop (k + 1)) (ms'.drop (k + 1))) := by rw [H.out, drop_of_get X.out, drop_of_get X'.out]; rfl
        have HD := Lib.hid hd
        clear hd H X X' HL HL'
        by_cases h0 : x0 = y0
        · subst h0
          by_cases h1 : x1 = y1
          · subst h1
            by_cases h2 : x2 = y2
            · subst h2
              have ht : eqM (x0, x1, x2) (x0, x1, x2) = true := (eqM_iff _ _).2 rfl
              go_wp2
              (refine wp_region_later (by kernel_rfl) (by kernel_rfl) ?_; repeat (any_goals (first | (with_reducible refine wpQuiet_nil ?_; intro wq hq) | go_big_quiet_step ((fail)))))
              go_wp2
              go_roundw
              case rel => exact ⟨k + 1, by omega, by go_num, hb.trans hq, by rw [HD.out, ht]; exact Bool.true_and _⟩
              case measure => simp [intOf]; omega
            · have e2 : (x2 == y2) = false := by rw [beq_eq_false_iff_ne]; exact h2
              have ht : eqM (x0, x1, x2) (x0, x1, y2) = false := by unfold eqM; simp [h2]
              go_wp2
              (refine wp_region_later (by kernel_rfl) (by kernel_rfl) ?_; repeat (any_goals (first | (with_reducible refine wpQuiet_nil ?_; intro wq hq) | go_big_quiet_step ((fail)))))
              go_wp2
              go_ret
              exact ⟨ret_bool (by rw [HD.out, ht]; rfl), hb.trans hq⟩
          · have e1 : (x1 == y1) = false := by rw [beq_eq_false_iff_ne]; exact h1
            have ht : eqM (x0, x1, x2) (x0, y1, y2) = false := by unfold eqM; simp [h1]
            go_wp2
            (refine wp_region_later (by kernel_rfl) (by kernel_rfl) ?_; repeat (any_goals (first | (with_reducible refine wpQuiet_nil ?_; intro wq hq) | go_big_quiet_step ((fail)))))
            go_wp2
            go_ret
            exact ⟨ret_bool (by rw [HD.out, ht]; rfl), hb.trans hq⟩
        · have e0 : (x0 == y0) = false := by rw [beq_eq_false_iff_ne]; exact h0
          have ht : eqM (x0, x1, x2) (y0, y1, y2) = false := by unfold eqM; simp [h0]
          go_wp2
          (refine wp_region_later (by kernel_rfl) (by kernel_rfl) ?_; repeat (any_goals (first | (with_reducible refine wpQuiet_nil ?_; intro wq hq) | go_big_quiet_step ((fail)))))
          go_wp2
          go_ret
          exact ⟨ret_bool (by rw [HD.out, ht]; rfl), hb.trans hq⟩
      · have e : eqMs ms ms' = true := by rw [H.out, drop_all HL.out (by omega), drop_all HL'.out (by omega)]; rfl
        have E := Lib.hid e
        clear e h h'
        go_wp2
        go_ret
        exact ⟨ret_bool E.out.symm, hb⟩
  · have e := eqMs_len (a := ms) (b := ms') (by omega)
    have E := Lib.hid e
    clear e hl hl'
    go_enter Try.func37, Try.ntmps37
    go_wp2
    go_ret
    exact ⟨ret_bool E.out.symm, Below.refl _ _⟩
end Go.Proofs.Yteahiiflgiimnaa
