/-
  The law FnTimersValid returns true at every input, and leaves all that was there as it was: the walk.
-/
import Derived.Test.YthjbafafkaoomaaTmG
import Derived.Test.YthjbafafkaoomaaAlive
import Derived.Deep.Cut
namespace Go.Proofs.Ythjbafafkaoomaa
open Go.RowKit

set_option maxHeartbeats 2000000 in
theorem FnTimersValid_walk (A : Option Addr) (n0 c : Nat) (code : List Int) (w : World) (h0 : Rd w 1 A n0 c (code.map (Value.int .u8))) (F0 : ∀ z ∈ code, (Lit.int .u8 z).wf = true) :
    Calls Try.prog 5 #[.slice A n0 c] w fun e w' => e = .returned (.bool true) ∧ Ext w w' := by
  obtain ⟨bs, hbs⟩ := bytes_of F0
  rw [hbs] at h0
  have hle := h0.le
  have htop := h0.top
  by_cases hn : 1048576 < n0
  · go_enter Try.func5, Try.ntmps5
    go_wp2
    go_ret
    exact ⟨rfl, Below.refl _ _⟩
  obtain ⟨i1, ki, kz0, kz1, kz2⟩ := info_parts Try.infoTm
  go_enter Try.func5, Try.ntmps5
  go_wp2_with fail
  refine (DrawTimersValid_any _ _ _ _ _ h0).mono ?_; rintro e w1 ⟨A1, n, c1, ms, rfl, hg, h19, hb1⟩
  go_wp2_with fail
  refine (TimersValid_any _ _ _ _ _ hg).mono ?_; rintro e w2 ⟨rfl, hb2⟩
  obtain ⟨t, ht⟩ : ∃ t, tmValid ms = t := ⟨_, rfl⟩
  have HT := Lib.hid ht
  rw [ht]
  have hg2 := hg.below hb2
  go_wp2_with fail
  refine (specTimersValid_any _ _ _ _ _ hg2).mono ?_; rintro e w3 ⟨rfl, hb3⟩; rw [HT.out]
  have htt : (t != t) = false := by cases t <;> rfl
  have hg3 := hg2.below hb3
  have hb := (hb1.trans hb2).trans hb3
  have hgle := hg3.le
  have hgtop := hg3.top
  have LT := Lib.hid (tmValid_bad ms)
  have hq : (n : Int).tdiv 2 = ((n / 2 : Nat) : Int) := by rw [Int.tdiv_eq_ediv_of_nonneg (by omega)]; omega
  clear hb1 hb2 hb3 hg hg2 h0 ht
  have hal1 : Ext w3 (w3.alloc (.cells #[] 39)) := (Below.refl _ _).alloc (Nat.le_refl _) _
  have hF1 : Fr (w3.alloc (.cells #[] 39)) w3.heap.size 39 2 (.slice (some ⟨w3.heap.size, 0, none⟩) 0 0) 0 [] := .inr (Row.lit (n := 0) #[] (by simp) (by unfold maxLen; omega) (Nat.le_refl _))
  have hR1 := hg3.below hal1
  have hl1 := hal1.size
  have hkk : ∀ (Ax : Option Addr) (cx : Nat) (wx : World) (row : Option Nat), Fr wx w3.heap.size 39 2 (.slice Ax (0 + n) cx) (0 + n) ([] ++ c2 ms) → (w3.alloc (.cells #[] 39)).grownBy wx row → (∀ k, row = some k → w3.heap.size ≤ k) →
      Fr (wx.alloc (.cells #[.int .i64 14, .int .i64 9, .int .i64 15, .int .i64 8] 39)) w3.heap.size 39 2 (.slice Ax n cx) n (c2 ms) ∧ Rd (wx.alloc (.cells #[.int .i64 14, .int .i64 9, .int .i64 15, .int .i64 8] 39)) 2 (some ⟨wx.heap.size, 0, none⟩) 2 2 (c2 [(14, 9), (15, 8)]) ∧ w3.heap.size ≤ (wx.alloc (.cells #[.int .i64 14, .int .i64 9, .int .i64 15, .int .i64 8] 39)).heap.size ∧ Ext w3 (wx.alloc (.cells #[.int .i64 14, .int .i64 9, .int .i64 15, .int .i64 8] 39)) := fun Ax cx wx row hF hg hr => by
    rw [Nat.zero_add, List.nil_append] at hF
    have hx : Ext w3 wx := ext_grown hal1 hg hr
    have ha : Ext wx (wx.alloc (.cells #[.int .i64 14, .int .i64 9, .int .i64 15, .int .i64 8] 39)) := (Below.refl _ _).alloc (Nat.le_refl _) _
    exact ⟨hF.below ha, Rd.lit (sz := 2) (n := 2) #[.int .i64 14, .int .i64 9, .int .i64 15, .int .i64 8] rfl (by omega), Nat.le_trans hx.size ha.size, hx.trans ha⟩
  clear hal1
  go_upto_region 8 with (first | (at_builtin; refine wpList_append_fr _ rfl _ _ 25 rfl w3.heap.size 39 i1 _ 2 16 Try.underlying25 ki kz0 kz1 kz2 rfl (by omega) _ 0 [] rfl hF1 _ n c1 _ rfl hR1 (one_c2 _) (by unfold maxLen; omega) (by omega) hl1 ?_; intro Ax cx wx rowx hFx hgx hrowx; obtain ⟨K1, K2, K3, K4⟩ := hkk _ _ _ _ hFx hgx (fun k hk => (hrowx k hk).1); clear hFx hgx hrowx) | (at_builtin; refine wpList_append_fr _ rfl _ _ 25 rfl w3.heap.size 39 i1 _ 2 16 Try.underlying25 ki kz0 kz1 kz2 rfl (by omega) _ n _ rfl K1 _ 2 2 _ rfl K2 (one_c2 _) (by unfold maxLen; omega) (by omega) K3 ?_; intro Ay cy wy rowy hFy hgy hrowy))
  have hwy : Ext w3 wy := ext_grown K4 hgy (fun k hk => (hrowy k hk).1)
  rw [← c2_append] at hFy
  have hRy := hFy.rd'.2
  have hgy2 := hg3.below hwy
  have hbb := hb.trans hwy
  clear K1 K2 K3 K4 hgy hrowy hFy hkk hF1 hR1 hl1 hg3 hwy hb
  cases t
  · clear hq hgy2
    go_wp2_with fail
    refine (TimersValid_any _ _ _ _ _ hRy).mono ?_; rintro e wz ⟨rfl, hbz⟩; rw [LT.out]
    clear hRy
    go_wp2_with ((go_at_call 25; refine (alive_any _).mono ?_; rintro e w9 ⟨rfl, hb9⟩))
    go_ret
    exact ⟨rfl, hbb.trans (hbz.trans hb9)⟩
  · have hin := hgy2.init (m := n / 2) (by omega)
    rw [← c2_take] at hin
    have HTA := Lib.hid (tmValid_take HT.out (n / 2))
    obtain ⟨nh, hnh⟩ : ∃ k, n / 2 = k := ⟨_, rfl⟩
    have hnn : nh ≤ n := by omega
    rw [hnh] at hin HTA hq
    clear hnh hgy2
    go_wp2_with fail
    refine (TimersValid_any _ _ _ _ _ hin).mono ?_; rintro e w5 ⟨rfl, hb5⟩; rw [HTA.out]
    have hRy5 := hRy.below hb5
    clear hin hRy
    go_wp2_with fail
    refine (TimersValid_any _ _ _ _ _ hRy5).mono ?_; rintro e wz ⟨rfl, hbz⟩; rw [LT.out]
    clear hRy5
    go_wp2_with ((go_at_call 25; refine (alive_any _).mono ?_; rintro e w9 ⟨rfl, hb9⟩))
    go_ret
    exact ⟨rfl, hbb.trans (hb5.trans (hbz.trans hb9))⟩
end Go.Proofs.Ythjbafafkaoomaa
