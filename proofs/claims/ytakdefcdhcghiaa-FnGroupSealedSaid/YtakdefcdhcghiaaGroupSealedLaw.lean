/-
  The law FnGroupSealed returns true at every input, and leaves all that was there as it was: the walk.
-/
import Derived.Test.YtakdefcdhcghiaaDrS
namespace Go.Proofs.Ytakdefcdhcghiaa
open Go.RowKit

set_option maxHeartbeats 2000000 in
theorem FnGroupSealed_walk (A : Option Addr) (n0 c : Nat) (code : List Int) (w : World) (h0 : Rd w 1 A n0 c (code.map (Value.int .u8))) (F0 : ∀ z ∈ code, (Lit.int .u8 z).wf = true) :
    Calls Try.prog 7 #[.slice A n0 c] w fun e w' => e = .returned (.bool true) ∧ Ext w w' := by
  obtain ⟨bs, hbs⟩ := bytes_of F0
  rw [hbs] at h0
  have hle := h0.le
  have htop := h0.top
  by_cases hn : 1048576 < n0
  · go_enter Try.func7, Try.ntmps7
    go_wp2
    go_ret
    exact ⟨rfl, Below.refl _ _⟩
  obtain ⟨ib, hib, hbz0, hbz1, hbz2⟩ := info_parts Try.infoBool
  go_enter Try.func7, Try.ntmps7
  go_wp2_with fail
  refine (DrawGroupSealed_any _ _ _ _ _ h0).mono ?_; rintro e w1 ⟨A1, n, c1, g, B1, m, d1, s, rfl, hg, hsR, hm, hb1⟩
  obtain ⟨t, ht⟩ : ∃ t, sealB g s = t := ⟨_, rfl⟩
  have HT := Lib.hid ht
  go_wp2_with fail
  refine (GroupSealed_any _ _ _ _ _ _ _ _ _ hg hsR).mono ?_; rintro e w2 ⟨rfl, hb2⟩; rw [HT.out]
  have hg2 := hg.below hb2
  have hs2 := hsR.below hb2
  go_wp2_with fail
  refine (specGroupSealed_any _ _ _ _ _ _ _ _ _ hg2 hs2).mono ?_; rintro e w3 ⟨rfl, hb3⟩; rw [HT.out]
  have htt : (t != t) = false := by cases t <;> rfl
  have hg3 := hg2.below hb3
  have hs3 := hs2.below hb3
  have hbb := (hb1.trans hb2).trans hb3
  have hsl := hs3.lenB
  have HO : Hid (sealB g (s.map (!·)) = t) := Lib.hid (by rw [seal_others, ht])
  have HC : Hid (t = true → sealB (closeR g) s = true) := Lib.hid (fun h => seal_close (by rw [ht, h]))
  have HSL := Lib.hid hsl
  clear hg hg2 hsR hs2 hb1 hb2 hb3 h0 hbs F0 ht hsl HT
  have hal0 : Ext w3 (w3.alloc (.cells #[] 4)) := (Below.refl _ _).alloc (Nat.le_refl _) _
  have hF0 : Fr (w3.alloc (.cells #[] 4)) w3.heap.size 4 1 (.slice (some ⟨w3.heap.size, 0, none⟩) 0 0) 0 (cB []) := .inr (Row.lit (n := 0) #[] (by simp) (by unfold maxLen; omega) (Nat.le_refl _))
  go_wp2
  go_loopw [6, 7] (fun out kk wr => ∃ (k : Nat) (Ao : Option Addr) (co : Nat), k ≤ m ∧ kk = .int .i64 k ∧ out = .slice Ao k co ∧ Fr wr w3.heap.size 4 1 (.slice Ao k co) k (cB ((s.take k).map (!·))) ∧ Ext w3 wr) (fun _ kk _ => m - (intOf kk).toNat)
  case atStart => exact ⟨0, _, _, Nat.zero_le _, rfl, rfl, hF0, hal0⟩
  case round =>
    clear hF0 hal0
    obtain ⟨k, Ao, co, hk, rfl, rfl, hG, hE⟩ := hrel
    rename World => wo
    by_cases hlt : k < m
    · obtain ⟨b, off, x, hAA, X, g0⟩ := (hs3.below hE).atB hlt
      subst hAA
      have est : (s.take (k + 1)).map (!·) = (s.take k).map (!·) ++ [!x] := by rw [take_of_get X.out, List.map_append]; rfl
      have EST := Lib.hid est
      have hal : Ext wo (wo.alloc (.cells #[.bool (!x)] 4)) := (Below.refl _ _).alloc (Nat.le_refl _) _
      have hRl : Rd (wo.alloc (.cells #[.bool (!x)] 4)) 1 (some ⟨wo.heap.size, 0, none⟩) 1 1 (cB [!x]) := Rd.lit (sz := 1) (n := 1) #[.bool (!x)] rfl (by omega)
      have hG2 := hG.below hal
      have hE2 := hE.trans hal
      have hz2 := hE2.size
      clear hG hE hal est X hg3 hs3
      go_wp2_with (at_builtin; refine wpList_append_fr _ rfl _ _ 23 rfl w3.heap.size 4 ib _ 1 1 Try.underlying23 hib hbz0 hbz1 hbz2 rfl (by omega) _ k _ rfl hG2 _ 1 1 _ rfl hRl (one_cB _) (by unfold maxLen; omega) (by omega) hz2 ?_; intro Ab cb wb rowb hFb hgb hrowb)
      rw [← cB_append, ← EST.out] at hFb
      go_roundw
      case rel => exact ⟨k + 1, Ab, cb, by omega, by go_num, rfl, hFb, ext_grown hE2 hgb (fun k hk => (hrowb k hk).1)⟩
      case measure => simp [intOf]; omega
    · obtain rfl : k = m := by omega
      rw [List.take_of_length_le (by rw [HSL.out]; exact Nat.le_refl _)] at hG
      have hgo := hg3.below hE
      have hso := hs3.below hE
      have hRo := hG.rd'.2
      have hbE := hbb.trans hE
      clear hG hg3 hs3 hbb
      go_wp2_with fail
      refine (GroupSealed_any _ _ _ _ _ _ _ _ _ hgo hRo).mono ?_; rintro e w5 ⟨rfl, hb5⟩; rw [HO.out]
      have hg5 := hgo.below hb5
      have hs5 := hso.below hb5
      have hb5' := hbE.trans hb5
      clear hgo hso hRo hbE hb5
      cases t
      · clear hg5 hs5
        go_wp2_with ((go_at_call 22; refine (alive_any _).mono ?_; rintro e w9 ⟨rfl, hb9⟩))
        go_ret
        exact ⟨rfl, hb5'.trans hb9⟩
      · have HC2 := Lib.hid (HC.out rfl)
        clear HC
        go_wp2_with fail
        refine (CloseGraph_any _ _ _ _ _ hg5).mono ?_; rintro e w6 ⟨A6, c6, rfl, hF6, hb6⟩
        have hs6 := hs5.below hb6
        have hR6 := hF6.rdR
        clear hg5 hs5 hF6
        go_wp2_with fail
        refine (GroupSealed_any _ _ _ _ _ _ _ _ _ hR6 hs6).mono ?_; rintro e w7 ⟨rfl, hb7⟩; rw [HC2.out]
        clear hs6 hR6
        go_wp2_with ((go_at_call 22; refine (alive_any _).mono ?_; rintro e w9 ⟨rfl, hb9⟩))
        go_ret
        exact ⟨rfl, ((hb5'.trans hb6).trans hb7).trans hb9⟩
end Go.Proofs.Ytakdefcdhcghiaa
