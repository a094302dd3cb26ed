/-
  What the reference draws for the laws on sealed groups; what is true of these.
-/
import Derived.Test.YtakdefcdhcghiaaSeC
import Derived.Test.YtakdefcdhcghiaaDrG
import Derived.Test.YtakdefcdhcghiaaAlive
import Derived.OpenShut
import Derived.Deep.Cut
namespace Go.Proofs.Ytakdefcdhcghiaa
open Go.RowKit

theorem bytes_of {zs : List Int} (h : ∀ z ∈ zs, (Lit.int .u8 z).wf = true) : ∃ bs : List UInt8, zs.map (Value.int .u8) = cU bs := by
  refine ⟨zs.map fun z => UInt8.ofNat z.toNat, ?_⟩
  unfold cU
  rw [List.map_map]
  refine List.map_congr_left fun z hz => ?_
  have h2 := bounds_u8 (h z hz)
  show Value.int .u8 z = Value.int .u8 ((UInt8.ofNat z.toNat).toNat : Int)
  rw [UInt8.toNat_ofNat']
  congr 1
  omega

section
variable {g : List (List Int)} {n i k : Nat}
theorem seal_jac (hi : i < n) : SealP g ((List.range n).map (jac g n i n)) n := fun a b ha hb => by
  unfold badI
  rw [gb_map ha, gb_map hb]
  cases h1 : jac g n i n a
  · rfl
  · cases h2 : lnkd g a b
    · simp
    · rw [jac_closed hi hb ha h1 (by rw [lnkd_symm]; exact h2)]; rfl
theorem seal_not (hi : i < n) : SealP g ((List.range n).map fun x => !jac g n i n x) n := fun a b ha hb => by
  unfold badI
  rw [gb_map ha, gb_map hb]
  cases h1 : jac g n i n b
  · simp
  · cases h2 : lnkd g a b
    · simp
    · rw [jac_closed hi ha hb h1 h2]; rfl
theorem jac_eq (hi : i < n) (hk : k < n) (h : jac g n i n k = true) : ∀ j, j < n → jac g n k n j = jac g n i n j := by
  have h1 : jac g n k n i = true := by
    cases hh : jac g n k n i
    · exfalso
      have := jac_least (g := g) (n := n) (i := i) (s := (List.range n).map fun x => !jac g n k n x) (by rw [gb_map hi, hh]; rfl) (seal_not hk) n k hk h
      rw [gb_map hk, jac_self] at this
      cases this
    · rfl
  intro j hj
  rw [Bool.eq_iff_iff]
  constructor
  · intro hh
    have := jac_least (g := g) (n := n) (i := k) (s := (List.range n).map (jac g n i n)) (by rw [gb_map hk]; exact h) (seal_jac hi) n j hj hh
    rwa [gb_map hj] at this
  · intro hh
    have := jac_least (g := g) (n := n) (i := i) (s := (List.range n).map (jac g n k n)) (by rw [gb_map hi]; exact h1) (seal_jac hk) n j hj hh
    rwa [gb_map hj] at this
theorem jac_apart (hi : i < n) (hk : k < n) (h : jac g n i n k = false) : ∀ j, j < n → jac g n k n j = true → jac g n i n j = false := fun j hj hh => by
  cases h2 : jac g n i n j
  · rfl
  · have e1 := jac_eq hi hj h2 k hk
    have e2 := jac_eq hk hj hh k hk
    rw [jac_self] at e2
    rw [e2, h] at e1; cases e1
end

theorem gb_not {s : List Bool} {x : Nat} (hx : x < s.length) : gb (s.map (!·)) x = !gb s x := by
  unfold gb
  rw [List.getD_eq_getElem?_getD, List.getD_eq_getElem?_getD, List.getElem?_map, List.getElem?_eq_getElem hx]; rfl
theorem seal_others (g : List (List Int)) (s : List Bool) : sealB g (s.map (!·)) = sealB g s := by
  unfold sealB
  rw [List.length_map]
  by_cases hl : s.length = g.length
  · have : sealL g (s.map (!·)) g.length = sealL g s g.length := by
      rw [Bool.eq_iff_iff, sealL_iff, sealL_iff, seal_badS, seal_badS]
      have e : ∀ i k, i < g.length → k < g.length → badS g (s.map (!·)) i k = badS g s i k := fun i k hi hk => by
        unfold badS
        rw [gb_not (by omega), gb_not (by omega)]
        cases gb s i <;> cases gb s k <;> rfl
      exact ⟨fun h i k hi hk => by rw [← e i k hi hk]; exact h i k hi hk, fun h i k hi hk => by rw [e i k hi hk]; exact h i k hi hk⟩
    rw [this]
  · rw [decide_eq_false hl, Bool.and_false]; rfl
theorem cv_zero' {y : Int} (hy : Rg y) : cvB 0 y = true := lift1 (fun y => cvB 0 y) (by decide +kernel) hy
theorem seal_grow {n m : Nat} {g : List (List Int)} (ht : Tab n m g) (hnm : n ≤ m) {s : List Bool} (hS : SealP g s n) : SealP (growG g) s n := by
  rw [seal_badS] at hS ⊢
  have z : ∀ i k, i < n → k < n → gb s i ≠ gb s k → el g i k = 0 := fun i k hi hk hne => by
    have := hS i k hi hk
    unfold badS at this
    have hb : (gb s i != gb s k) = true := by simpa using hne
    rw [hb, Bool.true_and] at this
    simpa using this
  have r0 : Rg 0 := ⟨by omega, by omega⟩
  intro i k hi hk
  unfold badS
  cases hb : gb s i != gb s k
  · rfl
  · have hne : gb s i ≠ gb s k := by simpa using hb
    have h1 := grow_least ht hi (show k < m by omega) r0 (by rw [z i k hi hk hne]; exact cv_zero' r0) (fun q hq hl => by
      by_cases hq2 : gb s q = gb s i
      · rw [z q k hq hk (by rw [hq2]; exact hne)]; exact cv_zero' r0
      · exfalso
        have e1 := z i q hi hq (fun h => hq2 h.symm)
        have e2 := z q i hq hi hq2
        unfold lnk at hl
        rw [e1, e2] at hl
        exact absurd hl (by decide))
    have hr := (growG_tab ht).el_rg i k
    have := cv_le hr r0 h1
    have e : el (growG g) i k = 0 := by obtain ⟨h2, _⟩ := hr; omega
    rw [e]; rfl
theorem seal_close {g : List (List Int)} {s : List Bool} (h : sealB g s = true) : sealB (closeR g) s = true := by
  unfold sealB at h
  simp only [Bool.and_eq_true, decide_eq_true_eq] at h
  obtain ⟨⟨hv, hl⟩, hS⟩ := h
  obtain ⟨n, m, ht, hnm, h6, hm, _⟩ := tab_of_valid hv
  have e : closeR g = closeG g := by unfold closeR; rw [if_pos hv]
  rw [e]
  have hc := close_tab ht
  unfold sealB
  rw [valid_of_tab hc hnm h6 hm, hc.len, hl, ht.len, decide_eq_true rfl]
  rw [ht.len, sealL_iff] at hS
  have key : ∀ k, SealP (iterG k g) s n := by
    intro k
    induction k with
    | zero => exact hS
    | succ k ih => exact seal_grow (iterG_tab ht k) hnm ih
  rw [Bool.true_and, Bool.true_and, sealL_iff]
  exact key _

set_option maxHeartbeats 400000 in
theorem DrawSealedGroup_any (A : Option Addr) (n c : Nat) (bs : List UInt8) (w : World) (h : Rd w 1 A n c (cU bs)) :
    Calls Try.prog 21 #[.slice A n c] w fun e w' => ∃ A' n' c' xss i, e = .returned (.tuple #[.slice A' n' c', .int .i64 i]) ∧ RdR w' A' n' c' xss ∧ (-1 ≤ i ∧ i ≤ 8) ∧ n' ≤ 8 ∧ Ext w w' := by
  go_enter Try.func21, Try.ntmps21
  go_wp2_with fail
  refine (l20Open_any _ _ _ _ _ h).mono ?_; rintro e w1 ⟨rfl, hr, hb⟩
  have hs := hr.lt
  go_wp2_with fail
  refine (l20Graph_bd _ _ _ _ _ hr (by omega) (by omega) (by omega) (by omega)).mono ?_; rintro e w2 ⟨A', n', c', xss, rfl, hA, hr2, ht, h1, h8, _⟩
  have hb2 := ext_tch hb ht (fun k e => by subst e; exact Nat.le_refl _)
  go_wp2_with fail
  refine (pickT _ _ _ _ _ hr2 (by omega) (by omega) (by omega)).mono ?_; rintro e w3 ⟨a, ha, rfl, hr3, ht3⟩
  go_wp2_with fail
  refine (pickT _ _ _ _ _ hr3 (by omega) (by omega) (by omega)).mono ?_; rintro e w4 ⟨a2, ha2, rfl, hr4, ht4⟩
  have hT := ht3.trans ht4
  go_wp2
  go_ret2
  exact ⟨_, _, _, _, _, rfl, (hA.only hT (fun k e => by omega)).rdR, ⟨by omega, by omega⟩, h8, ext_tch hb2 hT (fun k e => by subst e; exact Nat.le_refl _)⟩

set_option maxHeartbeats 2000000 in
theorem DrawGroupSealed_any (A : Option Addr) (n c : Nat) (bs : List UInt8) (w : World) (h : Rd w 1 A n c (cU bs)) :
    Calls Try.prog 25 #[.slice A n c] w fun e w' => ∃ A' n' c' xss B m d s, e = .returned (.tuple #[.slice A' n' c', .slice B m d]) ∧ RdR w' A' n' c' xss ∧ Rd w' 1 B m d (cB s) ∧ m ≤ 100 ∧ Ext w w' := by
  obtain ⟨ib, hib, hbz0, hbz1, hbz2⟩ := info_parts Try.infoBool
  go_enter Try.func25, Try.ntmps25
  go_wp2_with fail
  refine (l20Open_any _ _ _ _ _ h).mono ?_; rintro e w1 ⟨rfl, hr, hb⟩
  have hs := hr.lt
  go_wp2_with fail
  refine (l20Graph_bd _ _ _ _ _ hr (by omega) (by omega) (by omega) (by omega)).mono ?_; rintro e w2 ⟨A', n', c', xss, rfl, hA, hr2, ht, h1, h8, _⟩
  have hb2 := ext_tch hb ht (fun k e => by subst e; exact Nat.le_refl _)
  have hs2 := ht.size
  obtain ⟨g, hg⟩ : ∃ g, w.heap.size = g := ⟨_, rfl⟩
  rw [hg] at hr hr2 ht hs ⊢
  have hA1 := hA.mono (B' := g + 1) hs
  clear hr ht hb hA
  go_wp2_with fail
  refine (pickT _ _ _ _ _ hr2 (by omega) (by omega) (by omega)).mono ?_; rintro e w3 ⟨a, ha, rfl, hr3, ht3⟩
  have hA3 := hA1.only ht3 (fun k e => by omega)
  have hb3 := ext_tch hb2 ht3 (fun k e => by subst e; omega)
  have hs3 := ht3.size
  clear hr2 hA1 hb2 ht3
  go_wp2_with fail
  refine (specSealedGroup_any _ _ _ _ _ _ hA3.rdR).mono ?_; rintro e w4 ⟨A4, c4, rfl, hF4, hb4⟩
  have hl4 := sealedR_len xss a
  obtain ⟨s4, hs4⟩ : ∃ s, sealedR xss a = s := ⟨_, rfl⟩
  rw [hs4] at hF4 hl4 ⊢
  have hl4' : s4.length ≤ 6 := by
    rw [← hs4]; unfold sealedR; split
    · rename_i hh
      rw [Bool.and_eq_true] at hh
      have := (gValid_rows hh.1).1
      simp; omega
    · simp
  obtain ⟨m4, hm4⟩ : ∃ m, s4.length = m := ⟨_, rfl⟩
  rw [hm4] at hF4 hl4' ⊢
  have hA4 := hA3.below hb4
  have hr4 := hr3.keep hb4
  have hE4 := hb3.trans hb4
  have hsz4 := hb4.size
  have hF4' := hF4.mono (B' := g + 1) (show g + 1 ≤ w3.heap.size by omega)
  clear hA3 hr3 hb3 hb4 hF4 hs4 hm4 hl4
  go_wp2_with fail
  refine (oddT _ _ _ _ _ hr4 (by omega) (by omega) (by omega)).mono ?_; rintro e w5 ⟨t, rfl, _, hr5, ht5⟩
  have hA5 := hA4.only ht5 (fun k e => by omega)
  have hF5 := hF4'.pastT ht5 (fun k e => by omega)
  have hE5 := ext_tch hE4 ht5 (fun k e => by subst e; omega)
  have hsz5 := ht5.size
  clear hA4 hF4' hE4 ht5 hr4
  cases t
  · go_wp2
    go_ret2
    exact ⟨_, _, _, _, _, _, _, _, rfl, hA5.rdR, hF5.rd'.2, by omega, hE5⟩
  clear hF5
  have hal0 : Ext w5 (w5.alloc (.cells #[] 4)) := (Below.refl _ _).alloc (Nat.le_refl _) _
  have hF0 : Fr (w5.alloc (.cells #[] 4)) w5.heap.size 4 1 (.slice (some ⟨w5.heap.size, 0, none⟩) 0 0) 0 (cB []) := .inr (Row.lit (n := 0) #[] (by simp) (by unfold maxLen; omega) (Nat.le_refl _))
  have hr0 := hr5.keep hal0
  have hT0 : Tch w5 (w5.alloc (.cells #[] 4)) (· = g) := Tch.ext hal0
  have hg5 : g + 1 ≤ w5.heap.size := by omega
  clear hr5 hal0
  go_wp2
  go_loopw [6, 7] (fun out kk wr => ∃ (k : Nat) (Ao : Option Addr) (co : Nat) (s : List Bool), k ≤ n' + 1 ∧ kk = .int .i64 k ∧ out = .slice Ao k co ∧ Fr wr w5.heap.size 4 1 (.slice Ao k co) k (cB s) ∧ Tch w5 wr (· = g) ∧ Rdr wr (g + 1) g (102 + 2 * k)) (fun _ kk _ => 30 - (intOf kk).toNat)
  case atStart => exact ⟨0, _, _, [], by omega, rfl, rfl, hF0, hT0, hr0.more (by omega)⟩
  case round =>
    clear hF0 hT0 hr0
    obtain ⟨k, Ao, co, s, hkn, rfl, rfl, hG, hT, hr⟩ := hrel
    rename World => wo
    go_wp2_with fail
    refine (pickT _ _ _ _ _ hr (by omega) (by omega) (by omega)).mono ?_; rintro e w6 ⟨z0, hz0', rfl, hR6, hT6'⟩
    have hG6 := hG.pastT hT6' (fun k e => by omega)
    have hT6 := hT.trans hT6'
    clear hG hT hr hT6'
    obtain ⟨d, hd⟩ : ∃ d : Nat, (z0 : Int) / 8 = (d : Int) := ⟨z0 / 8, by omega⟩
    have hd1 : d ≤ 1 := by omega
    by_cases hlt : k < n' + d
    · have hlt' : ((k : Int) < (n' : Int) + (d : Int)) := by omega
      go_wp2_with fail
      refine (pickT _ _ _ _ _ hR6 (by omega) (by omega) (by omega)).mono ?_; rintro e w7 ⟨z1, hz1', rfl, hR7, hT7'⟩
      have hG7 := hG6.pastT hT7' (fun k e => by omega)
      have hT7 := hT6.trans hT7'
      clear hG6 hT6 hR6 hT7'
      obtain ⟨v, hv⟩ : ∃ v, ((z1 : Int) == 0) = v := ⟨_, rfl⟩
      have hal : Ext w7 (w7.alloc (.cells #[.bool v] 4)) := (Below.refl _ _).alloc (Nat.le_refl _) _
      have hRl : Rd (w7.alloc (.cells #[.bool v] 4)) 1 (some ⟨w7.heap.size, 0, none⟩) 1 1 (cB [v]) := Rd.lit (sz := 1) (n := 1) #[.bool v] rfl (by omega)
      have hG8 := hG7.below hal
      have hT8 := hT7.trans (Tch.ext (S := (· = g)) hal)
      have hR8 := hR7.keep hal
      have hz8 := hT8.size
      clear hG7 hT7 hR7 hal
      go_wp2_with (at_builtin; refine wpList_append_fr _ rfl _ _ 23 rfl w5.heap.size 4 ib _ 1 1 Try.underlying23 hib hbz0 hbz1 hbz2 rfl (by omega) _ k _ rfl hG8 _ 1 1 _ rfl hRl (one_cB _) (by unfold maxLen; omega) (by omega) hz8 ?_; intro Ab cb wb rowb hFb hgb hrowb)
      rw [← cB_append] at hFb
      go_roundw
      case rel => exact ⟨k + 1, Ab, cb, s ++ [v], by omega, by go_num, rfl, hFb, hT8.new hgb (fun k hk => (hrowb k hk).1), (hR8.past hgb (fun k hk => Nat.le_trans hg5 (hrowb k hk).1)).more (by omega)⟩
      case measure => simp [intOf]; omega
    · have hlt' : ¬ ((k : Int) < (n' : Int) + (d : Int)) := by omega
      go_wp2
      go_ret2
      exact ⟨_, _, _, _, _, _, _, _, rfl, (hA5.only hT6 (fun k e => by omega)).rdR, hG6.rd'.2, by omega, ext_tch hE5 hT6 (fun k e => by subst e; omega)⟩
end Go.Proofs.Ytakdefcdhcghiaa
