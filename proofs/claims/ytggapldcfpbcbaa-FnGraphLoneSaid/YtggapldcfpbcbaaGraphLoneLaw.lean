/-
  The law FnGraphLone returns true at every input, and leaves all that was there as it was: the walk.
-/
import Derived.Test.YtggapldcfpbcbaaDrX
import Derived.Test.YtggapldcfpbcbaaClA
import Derived.Test.YtggapldcfpbcbaaAlive
namespace Go.Proofs.Ytggapldcfpbcbaa
open Go.RowKit

/-- No right over others, and no other one has a right over it. -/
def aloneTo (g : List (List Int)) (i k : Nat) : Bool := (List.range k).all fun q => q == i || (el g i q == 0 && el g q i == 0)
theorem alone_step (g : List (List Int)) (i k : Nat) : aloneTo g i (k + 1) = (aloneTo g i k && (k == i || (el g i k == 0 && el g k i == 0))) := by
  unfold aloneTo; rw [List.range_succ, List.all_append]; simp
theorem cv_zero {y : Int} (hy : Rg y) : cvB 0 y = true := lift1 (fun y => cvB 0 y) (by decide +kernel) hy
theorem rg_zero : Rg 0 := ⟨by omega, by omega⟩
theorem lnk_zero {g : List (List Int)} {q p : Nat} (h1 : el g q p = 0) (h2 : el g p q = 0) : lnk g q p = false := by
  unfold lnk; rw [h1, h2]; rfl
theorem lone_iter {n m : Nat} {g : List (List Int)} (ht : Tab n m g) (hnm : n ≤ m) {i : Nat} (hi : i < n) (h : ∀ q, q < n → q ≠ i → el g i q = 0 ∧ el g q i = 0) :
    ∀ k, (∀ j, j < m → el (iterG k g) i j = el g i j) ∧ ∀ q, q < n → q ≠ i → el (iterG k g) q i = 0
  | 0 => ⟨fun _ _ => rfl, fun q hq hne => (h q hq hne).2⟩
  | k + 1 => by
    obtain ⟨h1, h2⟩ := lone_iter ht hnm hi h k
    have ta := iterG_tab ht k
    have hno : ∀ q, q < n → q ≠ i → lnk (iterG k g) i q = false ∧ lnk (iterG k g) q i = false := fun q hq hne => by
      have e1 : el (iterG k g) i q = 0 := by rw [h1 q (by omega)]; exact (h q hq hne).1
      exact ⟨lnk_zero e1 (h2 q hq hne), lnk_zero (h2 q hq hne) e1⟩
    refine ⟨fun j hj => ?_, fun q hq hne => ?_⟩
    · have ra := ta.el_rg i j
      have up : cvB (el (growG (iterG k g)) i j) (el (iterG k g) i j) = true := grow_least ta hi hj ra (cv_refl ra) fun q hq hl => by
        by_cases hqi : q = i
        · subst hqi; exact cv_refl ra
        · rw [(hno q hq hqi).1] at hl; cases hl
      have e := cv_anti ((growG_tab ta).el_rg i j) ra up (grow_keep ta hi hj)
      show el (growG (iterG k g)) i j = _
      rw [e, h1 j hj]
    · have up : cvB (el (growG (iterG k g)) q i) 0 = true := grow_least ta hq (by omega) rg_zero (by rw [h2 q hq hne]; exact cv_refl rg_zero) fun p hp hl => by
        by_cases hpi : p = i
        · subst hpi; rw [(hno q hq hne).2] at hl; cases hl
        · rw [h2 p hp hpi]; exact cv_refl rg_zero
      show el (growG (iterG k g)) q i = 0
      exact cv_anti ((growG_tab ta).el_rg q i) rg_zero up (cv_zero ((growG_tab ta).el_rg q i))
theorem alone_all {n : Nat} {g : List (List Int)} {i : Nat} (h : aloneTo g i n = true) : ∀ q, q < n → q ≠ i → el g i q = 0 ∧ el g q i = 0 := fun q hq hne => by
  unfold aloneTo at h
  have := List.all_eq_true.1 h q (List.mem_range.2 hq)
  simp only [Bool.or_eq_true, beq_iff_eq, Bool.and_eq_true] at this
  rcases this with e | e
  · exact absurd e hne
  · exact e
theorem lone_rows {n m : Nat} {g : List (List Int)} (ht : Tab n m g) (hnm : n ≤ m) {i : Nat} {xs ys : List Int} (h : aloneTo g i n = true) (hx : (closeG g)[i]? = some xs) (hy : g[i]? = some ys) : xs = ys := by
  have hi : i < n := by rw [← ht.len]; exact (List.getElem?_eq_some_iff.1 hy).1
  have hxl := (close_tab ht).row xs (List.mem_of_getElem? hx)
  have hyl := ht.row ys (List.mem_of_getElem? hy)
  apply List.ext_getElem?
  intro j
  by_cases hj : j < m
  · obtain ⟨a, ha⟩ := get_of_lt hxl hj
    obtain ⟨b, hb⟩ := get_of_lt hyl hj
    have e := (lone_iter ht hnm hi (alone_all h) (defi g)).1 j hj
    have e' : el (closeG g) i j = el g i j := e
    rw [el_get hx ha, el_get hy hb] at e'
    rw [ha, hb, e']
  · rw [List.getElem?_eq_none (by omega), List.getElem?_eq_none (by omega)]
theorem close_none {g : List (List Int)} (h : gValid g = false) : closeR g = [] := by unfold closeR; rw [if_neg (by rw [h]; exact Bool.false_ne_true)]

set_option maxHeartbeats 2000000 in
theorem FnGraphLone_walk (A : Option Addr) (n0 c : Nat) (code : List Int) (w : World) (h0 : Rd w 1 A n0 c (code.map (Value.int .u8))) (F0 : ∀ z ∈ code, (Lit.int .u8 z).wf = true) :
    Calls Try.prog 12 #[.slice A n0 c] w fun e w' => e = .returned (.bool true) ∧ Ext w w' := by
  obtain ⟨bs, hbs⟩ := bytes_of F0
  rw [hbs] at h0
  have hle := h0.le
  have htop := h0.top
  by_cases hn : 1048576 < n0
  · go_enter Try.func12, Try.ntmps12
    go_wp2
    go_ret
    exact ⟨rfl, Below.refl _ _⟩
  go_enter Try.func12, Try.ntmps12
  go_wp2_with fail
  refine (DrawCloseGraph_any _ _ _ _ _ h0).mono ?_; rintro e w1 ⟨A1, n, c1, g, rfl, hg, hb1⟩
  go_wp2_with fail
  refine (CloseGraph_any _ _ _ _ _ hg).mono ?_; rintro e w2 ⟨A2, c2, rfl, o2, hb2⟩
  go_wp2_with fail
  refine (specCloseGraph_any _ _ _ _ _ (hg.below hb2)).mono ?_; rintro e w3 ⟨A3, c3, rfl, o3, hb3⟩
  go_wp2_with fail
  refine (sameRows_any _ _ _ _ _ _ _ _ _ (o2.rdR.below hb3) o3.rdR).mono ?_; rintro e w4 ⟨rfl, hb4⟩; rw [(eqRs_iff _ _).2 rfl]
  have hx := o2.rdR.below (hb3.trans hb4)
  have hg4 := hg.below (hb2.trans (hb3.trans hb4))
  have hb := hb1.trans (hb2.trans (hb3.trans hb4))
  have hgle := hg4.le
  have hgtop := hg4.top
  obtain ⟨nx, hnx⟩ : ∃ k, (closeR g).length = k := ⟨_, rfl⟩
  rw [hnx] at hx
  rw [hnx]
  have HNX := Lib.hid hnx
  have hxle := hx.le
  have hxtop := hx.top
  clear hb1 hb2 hb3 hb4 o2 o3 hg h0 hnx
  go_wp2
  go_loopw [5] (fun ii wr => ∃ i : Nat, i ≤ n ∧ ii = .int .i64 i ∧ Ext w4 wr) (fun ii _ => n - (intOf ii).toNat)
  case atStart => exact ⟨0, Nat.zero_le _, rfl, Below.refl _ _⟩
  case round =>
    obtain ⟨i, hi, rfl, hbi⟩ := hrel
    by_cases hlt : i < n
    · go_wp2_with fail
      refine (specGraphValid_any _ _ _ _ _ (hg4.below hbi)).mono ?_; rintro e w5 ⟨rfl, hb5⟩
      cases hgv : gValid g with
      | false =>
        clear hgv
        go_wp2_with ((go_at_call 23; refine (alive_any _).mono ?_; rintro e w6 ⟨rfl, hb6⟩))
        go_ret
        exact ⟨rfl, hb.trans (hbi.trans (hb5.trans hb6))⟩
      | true =>
        obtain ⟨nn, m, ht, hnm, _, _, _⟩ := tab_of_valid hgv
        obtain rfl : nn = n := by rw [← ht.len, hg4.lenR]
        have e2 : closeR g = closeG g := by unfold closeR; rw [if_pos hgv]
        have hnn : nx = nn := by rw [← HNX.out, e2]; exact (close_tab ht).len
        subst hnn
        have E2 := Lib.hid e2
        have HT := Lib.hid ht
        have hb6 := hbi.trans hb5
        clear ht e2 hgv hbi hb5
        go_wp2
        go_loopw [6, 7] (fun al kk wr => ∃ (k : Nat) (t : Bool), k ≤ nx ∧ kk = .int .i64 k ∧ al = .bool t ∧ Hid (t = aloneTo g i k) ∧ Ext w4 wr) (fun _ kk _ => nx - (intOf kk).toNat)
        case atStart => exact ⟨0, true, Nat.zero_le _, rfl, rfl, rfl, hb6⟩
        case round =>
          clear hb6
          obtain ⟨k, t, hk, rfl, rfl, HA, hbk⟩ := hrel
          by_cases hkt : k < nx
          · obtain ⟨b, off, Ai, mi, ci, xi, hA, Xi, gi, Ri⟩ := (hg4.below hbk).atR hlt
            obtain ⟨b', off', Ak, mk, ck, xk, hA', Xk, gk, Rk⟩ := (hg4.below hbk).atR hkt
            rw [hA] at hA'
            simp only [Option.some.injEq, Addr.mk.injEq, and_true] at hA'
            obtain ⟨rfl, rfl⟩ := hA'
            obtain rfl : mi = m := by rw [← Ri.lenI]; exact HT.out.row _ (List.mem_of_getElem? Xi.out)
            obtain rfl : mk = mi := by rw [← Rk.lenI]; exact HT.out.row _ (List.mem_of_getElem? Xk.out)
            obtain ⟨b1, off1, z1, hA1, Z1, q1⟩ := Ri.atI (show k < mk by omega)
            obtain ⟨b2, off2, z2, hA2, Z2, q2⟩ := Rk.atI (show i < mk by omega)
            subst hA hA1 hA2
            have hci := Ri.le
            have hcit := Ri.top
            have hck := Rk.le
            have hckt := Rk.top
            have hst := alone_step g i k
            rw [← HA.out, el_get Xi.out Z1.out, el_get Xk.out Z2.out] at hst
            have HS := Lib.hid hst
            have hki : ((k : Int) == (i : Int)) = (k == i) := by
              by_cases e : k = i
              · subst e; simp
              · rw [beq_eq_false_iff_ne.2 e, beq_eq_false_iff_ne]; omega
            obtain ⟨s1, hs1⟩ : ∃ s, (k == i) = s := ⟨_, rfl⟩
            obtain ⟨s2, hs2⟩ : ∃ s, (z1 == 0) = s := ⟨_, rfl⟩
            obtain ⟨s3, hs3⟩ : ∃ s, (z2 == 0) = s := ⟨_, rfl⟩
            rw [hs1] at hki
            have HH := Lib.hid (show aloneTo g i (k + 1) = (t && (s1 || (s2 && s3))) by rw [HS.out, hs1, hs2, hs3])
            clear hst HS HA Z1 Z2 Xi Xk Ri Rk hx hs1
            cases t
            · go_wp2
              go_roundw
              case rel => exact ⟨k + 1, false, by omega, by go_num, rfl, Lib.hid (by rw [HH.out]; rfl), hbk⟩
              case measure => simp [intOf]; omega
            · cases s1
              · cases s2
                · go_wp2
                  go_roundw
                  case rel => exact ⟨k + 1, false, by omega, by go_num, rfl, Lib.hid (by rw [HH.out]; rfl), hbk⟩
                  case measure => simp [intOf]; omega
                · go_wp2
                  go_roundw
                  case rel => exact ⟨k + 1, s3, by omega, by go_num, rfl, Lib.hid (by rw [HH.out]; simp), hbk⟩
                  case measure => simp [intOf]; omega
              · go_wp2
                go_roundw
                case rel => exact ⟨k + 1, true, by omega, by go_num, rfl, Lib.hid (by rw [HH.out]; rfl), hbk⟩
                case measure => simp [intOf]; omega
          · have e : k = nx := by omega
            subst e
            cases t
            · clear HA
              go_wp2
              (refine wp_region_later (by kernel_rfl) (by kernel_rfl) ?_; repeat (any_goals (first | (with_reducible refine wpQuiet_nil ?_; intro wq hq) | go_big_quiet_step ((fail)))))
              go_wp2
              go_roundw
              case rel => exact ⟨i + 1, by omega, by go_num, hbk.trans hq⟩
              case measure => simp [intOf]; omega
            · obtain ⟨b, off, Ai, mi, ci, xi, hA, Xi, gi, Ri⟩ := (hg4.below hbk).atR hlt
              obtain ⟨b', off', Ak, mk, ck, xk, hA', Xk, gk, Rk⟩ := (hx.below hbk).atR hlt
              subst hA hA'
              have heq : xk = xi := lone_rows HT.out hnm HA.out.symm (by rw [← E2.out]; exact Xk.out) Xi.out
              subst heq
              have Gi := later_cell gi
              have Gk := later_cell gk
              have hcall : ∀ nw : Later wr, Calls Try.prog 38 #[.slice Ak mk ck, .slice Ai mi ci] nw.out fun e w' => e = .returned (.bool true) ∧ Ext nw.out w' := fun nw => by
                have := sameInts_any _ _ _ _ _ _ _ _ _ (Rk.below nw.ext) (Ri.below nw.ext)
                rw [show eqIs xk xk = true from by unfold eqIs; simp] at this
                exact this
              clear HA Xi Xk gi gk hx
              go_wp2
              (refine wp_region_later (by kernel_rfl) (by kernel_rfl) ?_; repeat (any_goals (first | (with_reducible refine wpQuiet_nil ?_; intro wq hq) | go_big_quiet_step (((go_at_call 38; exact later_of _ (hcall _)))))))
              go_wp2
              go_roundw
              case rel => exact ⟨i + 1, by omega, by go_num, hbk.trans hq⟩
              case measure => simp [intOf]; omega
    · go_wp2_with ((go_at_call 23; refine (alive_any _).mono ?_; rintro e w6 ⟨rfl, hb6⟩))
      go_ret
      exact ⟨rfl, hb.trans (hbi.trans hb6)⟩
end Go.Proofs.Ytggapldcfpbcbaa
