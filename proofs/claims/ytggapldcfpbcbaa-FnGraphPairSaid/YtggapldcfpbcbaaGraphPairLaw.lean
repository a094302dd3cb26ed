/-
  The law FnGraphPair returns true at every input, and leaves all that was there as it was: the walk.
-/
import Derived.Test.YtggapldcfpbcbaaDrX
import Derived.Test.YtggapldcfpbcbaaClA
import Derived.Test.YtggapldcfpbcbaaAlive
namespace Go.Proofs.Ytggapldcfpbcbaa
open Go.RowKit

theorem pair_rows {n m : Nat} {x : List (List Int)} (ht : Tab n m x) (hf : growG x = x) {i k : Nat} {xs ys : List Int} (hx : x[i]? = some xs) (hy : x[k]? = some ys) (h1 : lnk x i k = true) (h2 : lnk x k i = true) : xs = ys := by
  have hi : i < n := by rw [← ht.len]; exact (List.getElem?_eq_some_iff.1 hx).1
  have hk : k < n := by rw [← ht.len]; exact (List.getElem?_eq_some_iff.1 hy).1
  have hxl := ht.row xs (List.mem_of_getElem? hx)
  have hyl := ht.row ys (List.mem_of_getElem? hy)
  apply List.ext_getElem?
  intro j
  by_cases hj : j < m
  · obtain ⟨a, ha⟩ := get_of_lt hxl hj
    obtain ⟨b, hb⟩ := get_of_lt hyl hj
    have e1 := grow_gets ht hi hj hk h1
    have e2 := grow_gets ht hk hj hi h2
    rw [hf, el_get hx ha, el_get hy hb] at e1
    rw [hf, el_get hx ha, el_get hy hb] at e2
    have ra := ht.rg xs (List.mem_of_getElem? hx) a (List.mem_of_getElem? ha)
    have rb := ht.rg ys (List.mem_of_getElem? hy) b (List.mem_of_getElem? hb)
    rw [ha, hb, cv_anti ra rb e2 e1]
  · rw [List.getElem?_eq_none (by omega), List.getElem?_eq_none (by omega)]
theorem close_none {g : List (List Int)} (h : gValid g = false) : closeR g = [] := by unfold closeR; rw [if_neg (by rw [h]; exact Bool.false_ne_true)]

set_option maxHeartbeats 1000000 in
theorem FnGraphPair_walk (A : Option Addr) (n0 c : Nat) (code : List Int) (w : World) (h0 : Rd w 1 A n0 c (code.map (Value.int .u8))) (F0 : ∀ z ∈ code, (Lit.int .u8 z).wf = true) :
    Calls Try.prog 13 #[.slice A n0 c] w fun e w' => e = .returned (.bool true) ∧ Ext w w' := by
  obtain ⟨bs, hbs⟩ := bytes_of F0
  rw [hbs] at h0
  have hle := h0.le
  have htop := h0.top
  by_cases hn : 1048576 < n0
  · go_enter Try.func13, Try.ntmps13
    go_wp2
    go_ret
    exact ⟨rfl, Below.refl _ _⟩
  go_enter Try.func13, Try.ntmps13
  go_wp2_with fail
  refine (DrawCloseGraph_any _ _ _ _ _ h0).mono ?_; rintro e w1 ⟨A1, n1, c1, g, rfl, hg, hb1⟩
  go_wp2_with fail
  refine (CloseGraph_any _ _ _ _ _ hg).mono ?_; rintro e w2 ⟨A2, c2, rfl, o2, hb2⟩
  go_wp2_with fail
  refine (specCloseGraph_any _ _ _ _ _ (hg.below hb2)).mono ?_; rintro e w3 ⟨A3, c3, rfl, o3, hb3⟩
  go_wp2_with fail
  refine (sameRows_any _ _ _ _ _ _ _ _ _ (o2.rdR.below hb3) o3.rdR).mono ?_; rintro e w4 ⟨rfl, hb4⟩; rw [(eqRs_iff _ _).2 rfl]
  have hx := o2.rdR.below (hb3.trans hb4)
  have hb := hb1.trans (hb2.trans (hb3.trans hb4))
  obtain ⟨n, m, ht, hnm, hf, hn⟩ : ∃ n m, Tab n m (closeR g) ∧ (0 < n → n ≤ m) ∧ (growG (closeR g) = closeR g) ∧ (closeR g).length = n := by
    cases hgv : gValid g with
    | false => rw [close_none hgv]; exact ⟨0, 0, ⟨rfl, by simp, by simp⟩, fun h => by omega, rfl, rfl⟩
    | true =>
      obtain ⟨n, m, ht, hnm, _, _, _⟩ := tab_of_valid hgv
      have e2 : closeR g = closeG g := by unfold closeR; rw [if_pos hgv]
      rw [e2]
      exact ⟨n, m, close_tab ht, fun _ => hnm, close_fix ht, (close_tab ht).len⟩
  obtain ⟨x, hxe⟩ : ∃ x, closeR g = x := ⟨_, rfl⟩
  rw [hxe] at ht hf hx hn
  rw [hn] at hx
  rw [hxe, hn]
  have hxle := hx.le
  have hxtop := hx.top
  have HF := Lib.hid hf
  have HT := Lib.hid ht
  clear hb1 hb2 hb3 hb4 o2 o3 hg h0 hxe hn hf ht
  go_wp2
  go_loopw [5] (fun ii wr => ∃ i : Nat, i ≤ n ∧ ii = .int .i64 i ∧ Ext w4 wr) (fun ii _ => n - (intOf ii).toNat)
  case atStart => exact ⟨0, Nat.zero_le _, rfl, Below.refl _ _⟩
  case round =>
    obtain ⟨i, hi, rfl, hbi⟩ := hrel
    by_cases hlt : i < n
    · go_wp2
      go_loopw [6] (fun kk wr => ∃ k : Nat, k ≤ n ∧ kk = .int .i64 k ∧ Ext w4 wr) (fun kk _ => n - (intOf kk).toNat)
      case atStart => exact ⟨0, Nat.zero_le _, rfl, hbi⟩
      case round =>
        clear hbi
        obtain ⟨k, hk, rfl, hbk⟩ := hrel
        by_cases hkt : k < n
        · obtain ⟨b, off, Ai, mi, ci, xi, hA, Xi, gi, Ri⟩ := (hx.below hbk).atR hlt
          obtain ⟨b', off', Ak, mk, ck, xk, hA', Xk, gk, Rk⟩ := (hx.below hbk).atR hkt
          rw [hA] at hA'
          simp only [Option.some.injEq, Addr.mk.injEq, and_true] at hA'
          obtain ⟨rfl, rfl⟩ := hA'
          obtain rfl : mi = m := by rw [← Ri.lenI]; exact HT.out.row _ (List.mem_of_getElem? Xi.out)
          obtain rfl : mk = mi := by rw [← Rk.lenI]; exact HT.out.row _ (List.mem_of_getElem? Xk.out)
          have hnm' := hnm (by omega)
          obtain ⟨b1, off1, z1, hA1, Z1, q1⟩ := Ri.atI (show k < mk by omega)
          obtain ⟨b2, off2, z2, hA2, Z2, q2⟩ := Rk.atI (show i < mk by omega)
          subst hA hA1 hA2
          have hci := Ri.le
          have hcit := Ri.top
          have hck := Rk.le
          have hckt := Rk.top
          have Gi := later_cell gi
          have Gk := later_cell gk
          have Q1 := later_cell q1
          have Q2 := later_cell q2
          obtain ⟨t1, ht1⟩ : ∃ t, (bits .and .i64 z1 1 == 0) = t := ⟨_, rfl⟩
          obtain ⟨t2, ht2⟩ : ∃ t, (bits .and .i64 z2 1 == 0) = t := ⟨_, rfl⟩
          have ht1' : (bits .and .i64 z1 1 != 0) = !t1 := by rw [← ht1]; rfl
          have ht2' : (bits .and .i64 z2 1 != 0) = !t2 := by rw [← ht2]; rfl
          have hsame : t1 = false → t2 = false → eqIs xi xk = true := fun h1 h2 => by
            have e1 : lnk x i k = true := by unfold lnk; rw [el_get Xi.out Z1.out, ht1, h1]; rfl
            have e2 : lnk x k i = true := by unfold lnk; rw [el_get Xk.out Z2.out, ht2, h2]; rfl
            rw [pair_rows HT.out HF.out Xi.out Xk.out e1 e2]
            unfold eqIs; simp
          have hi0 : (0 : Int) ≤ (i : Int) := by omega
          have hk0 : (0 : Int) ≤ (k : Int) := by omega
          clear ht1 ht2 Z1 Z2 Xi Xk hx gi gk q1 q2
          cases t1
          · cases t2
            · simp only [Bool.not_false] at ht1' ht2'
              have hs := hsame rfl rfl
              have hcall : ∀ nw : Later wr, Calls Try.prog 38 #[.slice (some ⟨b1, off1, none⟩) mk ci, .slice (some ⟨b2, off2, none⟩) mk ck] nw.out fun e w' => e = .returned (.bool true) ∧ Ext nw.out w' := fun nw => by
                have := sameInts_any _ _ _ _ _ _ _ _ _ (Ri.below nw.ext) (Rk.below nw.ext)
                rw [hs] at this
                exact this
              clear hsame hs Ri Rk
              go_wp2
              (refine wp_region_later (by kernel_rfl) (by kernel_rfl) ?_; repeat (any_goals (first | (with_reducible refine wpQuiet_nil ?_; intro wq hq) | go_big_quiet_step (((go_at_call 38; exact later_of _ (hcall _)))))))
              go_wp2
              go_roundw
              case rel => exact ⟨k + 1, by omega, by go_num, hbk.trans hq⟩
              case measure => simp [intOf]; omega
            · simp only [Bool.not_false, Bool.not_true] at ht1' ht2'
              clear hsame Ri Rk
              go_wp2
              (refine wp_region_later (by kernel_rfl) (by kernel_rfl) ?_; repeat (any_goals (first | (with_reducible refine wpQuiet_nil ?_; intro wq hq) | go_big_quiet_step ((fail)))))
              go_wp2
              go_roundw
              case rel => exact ⟨k + 1, by omega, by go_num, hbk.trans hq⟩
              case measure => simp [intOf]; omega
          · simp only [Bool.not_true] at ht1'
            clear hsame Ri Rk
            go_wp2
            (refine wp_region_later (by kernel_rfl) (by kernel_rfl) ?_; repeat (any_goals (first | (with_reducible refine wpQuiet_nil ?_; intro wq hq) | go_big_quiet_step ((fail)))))
            go_wp2
            go_roundw
            case rel => exact ⟨k + 1, by omega, by go_num, hbk.trans hq⟩
            case measure => simp [intOf]; omega
        · go_wp2
          go_roundw
          case rel => exact ⟨i + 1, by omega, by go_num, hbk⟩
          case measure => simp [intOf]; omega
    · go_wp2_with ((go_at_call 23; refine (alive_any _).mono ?_; rintro e w6 ⟨rfl, hb6⟩))
      go_ret
      exact ⟨rfl, hb.trans (hbi.trans hb6)⟩
end Go.Proofs.Ytggapldcfpbcbaa
