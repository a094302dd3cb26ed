/-
  The law FnLeakRounds returns true at every input, and leaves all that was there as it was: the walk.
-/
import Derived.Test.YtakdefcdhcghiaaDrL
import Derived.Test.YtakdefcdhcghiaaLkA
import Derived.Test.YtakdefcdhcghiaaRw
import Derived.Test.YtakdefcdhcghiaaAlive
import Derived.OpenShut
namespace Go.Proofs.Ytakdefcdhcghiaa
open Go.RowKit

theorem bytes_of {zs : List Int} (h : ∀ z ∈ zs, (Lit.int .u8 z).wf = true) : ∃ bs : List UInt8, zs.map (Value.int .u8) = cU bs := by
  refine ⟨zs.map fun z => UInt8.ofNat z.toNat, ?_⟩
  unfold cU
  rw [List.map_map]
  refine List.map_congr_left fun z hz => ?_
  have h2 := bounds_u8 (h z hz)
  show Value.int .u8 z = Value.int .u8 ((UInt8.ofNat z.toNat).toNat : Int)
  rw [UInt8.toNat_ofNat']
  congr 1
  omega
theorem rwB_not {a b : Int} (h : inB a 0 15 = false ∨ cvB a b = false) : rwB a b = false := by
  unfold rwB
  rcases h with h | h <;> rw [h] <;> simp
/-- What a leak that does not come means. -/
theorem leak_neg {g : List (List Int)} {i j r : Int} (h : leakR g i j r < 0) : leakR g i j r = -1 ∧ (0 ≤ everR g i j → rwB r (everR g i j) = false) := by
  unfold leakR at h ⊢
  by_cases hok : leakOk g i j r = true
  · rw [if_pos hok] at h ⊢
    cases hf : leakF g i.toNat j.toNat r with
    | some k => rw [hf] at h; simp only at h; omega
    | none =>
      refine ⟨rfl, fun _ => rwB_not (.inr ?_)⟩
      have he : everR g i j = el (closeG g) i.toNat j.toNat := by
        unfold everR
        unfold leakOk at hok
        rw [Bool.and_eq_true] at hok
        rw [if_pos hok.1]
      rw [he]
      unfold leakF at hf
      rw [List.find?_eq_none] at hf
      have := hf (defi g) (List.mem_range.2 (by omega))
      show cvB r (el (iterG (defi g) g) i.toNat j.toNat) = false
      simpa using this
  · rw [if_neg hok] at h ⊢
    refine ⟨rfl, fun h0 => rwB_not (.inl ?_)⟩
    cases hr : inB r 0 15
    · rfl
    · exfalso
      unfold everR at h0
      by_cases hs : (gValid g && inB i 0 (g.length - 1) && inB j 0 (len0 g - 1)) = true
      · apply hok
        unfold leakOk
        rw [hs, hr]; rfl
      · rw [if_neg hs] at h0; omega
theorem leak_pos {g : List (List Int)} {i j r : Int} (h : 0 ≤ leakR g i j r) : ∃ k : Nat, leakR g i j r = k ∧ leakOk g i j r = true ∧ cvB r (el (iterG k g) i.toNat j.toNat) = true ∧ ∀ k', k' < k → cvB r (el (iterG k' g) i.toNat j.toNat) = false := by
  unfold leakR at h ⊢
  by_cases hok : leakOk g i j r = true
  · rw [if_pos hok] at h ⊢
    cases hf : leakF g i.toNat j.toNat r with
    | none => rw [hf] at h; simp only at h; omega
    | some k =>
      refine ⟨k, rfl, hok, ?_⟩
      unfold leakF at hf
      rw [List.find?_range_eq_some] at hf
      exact ⟨hf.1, fun k' hk' => by have := hf.2.2 k' hk'; simpa using this⟩
  · rw [if_neg hok] at h; omega

set_option maxHeartbeats 1000000 in
theorem FnLeakRounds_walk (A : Option Addr) (n0 c : Nat) (code : List Int) (w : World) (h0 : Rd w 1 A n0 c (code.map (Value.int .u8))) (F0 : ∀ z ∈ code, (Lit.int .u8 z).wf = true) :
    Calls Try.prog 8 #[.slice A n0 c] w fun e w' => e = .returned (.bool true) ∧ Ext w w' := by
  obtain ⟨bs, hbs⟩ := bytes_of F0
  rw [hbs] at h0
  have hle := h0.le
  have htop := h0.top
  by_cases hn : 1048576 < n0
  · go_enter Try.func8, Try.ntmps8
    go_wp2
    go_ret
    exact ⟨rfl, Below.refl _ _⟩
  go_enter Try.func8, Try.ntmps8
  go_wp2_with fail
  refine (DrawLeakRounds_any _ _ _ _ _ h0).mono ?_; rintro e w1 ⟨A1, n, c1, g, i, j, r, rfl, hg, h1, h8, hi, hj, hr, hb1⟩
  go_wp2_with fail
  refine (LeakRounds_any _ _ _ _ _ _ _ _ hg).mono ?_; rintro e w2 ⟨rfl, hb2⟩
  have hg2 := hg.below hb2
  obtain ⟨z, hz⟩ : ∃ z, leakR g i j r = z := ⟨_, rfl⟩
  have HZ := Lib.hid hz
  rw [hz]
  go_wp2_with fail
  refine (specLeakRounds_any _ _ _ _ _ _ _ _ hg2).mono ?_; rintro e w3 ⟨rfl, hb3⟩; rw [HZ.out]
  have hg3 := hg2.below hb3
  have hbb := (hb1.trans hb2).trans hb3
  have hlen := hg3.lenR
  clear hg hg2 hb1 hb2 hb3 h0 hbs F0
  by_cases hneg : z < 0
  · obtain ⟨e1, e2⟩ := leak_neg (g := g) (i := i) (j := j) (r := r) (by rw [hz]; exact hneg)
    obtain rfl : z = -1 := by rw [← hz]; exact e1
    obtain ⟨ev, hev⟩ : ∃ v, everR g i j = v := ⟨_, rfl⟩
    have HEV := Lib.hid hev
    rw [hev] at e2
    have E2 := Lib.hid e2
    clear hz HZ e1 e2 hev hlen
    go_wp2_with fail
    refine (EverRights_any _ _ _ _ _ _ _ hg3).mono ?_; rintro e w4 ⟨rfl, hb4⟩; rw [HEV.out]
    clear hg3
    by_cases h0 : ev < 0
    · go_wp2_with ((go_at_call 22; refine (alive_any _).mono ?_; rintro e w9 ⟨rfl, hb9⟩))
      go_ret
      exact ⟨rfl, (hbb.trans hb4).trans hb9⟩
    · have HR := Lib.hid (E2.out (by omega))
      go_wp2_with fail
      refine (RightsWithin_any _ _ _).mono ?_; rintro e w6 ⟨rfl, rfl⟩; rw [HR.out]
      go_wp2_with ((go_at_call 22; refine (alive_any _).mono ?_; rintro e w9 ⟨rfl, hb9⟩))
      go_ret
      exact ⟨rfl, (hbb.trans hb4).trans hb9⟩
  obtain ⟨k0, e1, hok, e2, e3⟩ := leak_pos (g := g) (i := i) (j := j) (r := r) (by rw [hz]; omega)
  obtain rfl : z = (k0 : Int) := by rw [← hz]; exact e1
  unfold leakOk at hok
  simp only [Bool.and_eq_true] at hok
  obtain ⟨⟨⟨hv, hi2⟩, hj2⟩, hr2⟩ := hok
  obtain ⟨nn, m, ht, hnm, h6, hm, hl0⟩ := tab_of_valid hv
  have hnn : nn = n := by rw [← hlen]; exact ht.len.symm
  subst hnn
  have el0 := hl0 (by omega)
  have ia := inB_iff.1 hi2
  have ja := inB_iff.1 hj2
  rw [hlen] at ia
  rw [el0] at ja
  obtain ⟨i, rfl⟩ := Int.eq_ofNat_of_zero_le ia.1
  obtain ⟨j, rfl⟩ := Int.eq_ofNat_of_zero_le ja.1
  rw [Int.toNat_natCast, Int.toNat_natCast] at e2 e3
  have hin : i < nn := by omega
  have hjm : j < m := by omega
  have hRr : Rg r := inB_iff.1 hr2
  have HIT : Hid (∀ k, Tab nn m (iterG k g)) := Lib.hid (iterG_tab ht)
  have HVK : Hid (∀ k, growR (iterG k g) = iterG (k + 1) g) := Lib.hid (fun k => by
    unfold growR
    rw [if_pos (valid_of_tab (iterG_tab ht k) hnm h6 hm)]; rfl)
  have HNO : Hid (∀ k', k' < k0 → rwB r (el (iterG k' g) i j) = false) := Lib.hid (fun k' hk' => rwB_not (.inr (e3 k' hk')))
  have HYES := Lib.hid (rwB_of hRr ((iterG_tab ht k0).el_rg i j) e2)
  have hk9 : k0 ≤ 9223372036854775807 := by
    have hd := tab_defi ht h6 hm
    have : leakF g i j r = some k0 := leak_some ht e2 e3
    unfold leakF at this
    rw [List.find?_range_eq_some] at this
    have := List.mem_range.1 this.2.1
    omega
  clear hz HZ e1 e2 e3 hv hi2 hj2 hr2 ht hl0 el0 ia ja hlen hi hj hneg hRr hr
  go_wp2
  go_loopw [3, 9] (fun gs kk wr => ∃ (k : Nat) (Ag : Option Addr) (cg : Nat), k ≤ k0 ∧ kk = .int .i64 k ∧ gs = .slice Ag nn cg ∧ RdR wr Ag nn cg (iterG k g) ∧ Ext w3 wr) (fun _ kk _ => k0 - (intOf kk).toNat)
  case atStart => exact ⟨0, _, _, Nat.zero_le _, rfl, rfl, hg3, Below.refl _ _⟩
  case round =>
    clear hg3
    obtain ⟨k, Ag, cg, hk, rfl, rfl, hG, hE⟩ := hrel
    have hbE := hbb.trans hE
    have hgle := hG.le
    have hgtop := hG.top
    obtain ⟨b, off, b1, off1, cc, hAA, r0, hmc, hct, r1⟩ := hG.atEl (HIT.out k) hin hjm
    by_cases hlt : k < k0
    · have hno := HNO.out k hlt
      obtain ⟨v, hv⟩ : ∃ v, el (iterG k g) i j = v := ⟨_, rfl⟩
      rw [hv] at r1 hno
      have HN := Lib.hid hno
      subst hAA
      clear hv hno HNO HYES
      go_wp2_with fail
      refine (RightsWithin_any _ _ _).mono ?_; rintro e w6 ⟨rfl, rfl⟩; rw [HN.out]
      go_wp2_with fail
      refine (GrowGraph_any _ _ _ _ _ hG).mono ?_; rintro e w7 ⟨A7, c7, rfl, hF7, hb7⟩
      rw [HVK.out k] at hF7 ⊢
      have hl7 : (iterG (k + 1) g).length = nn := (HIT.out (k + 1)).len
      rw [hl7] at hF7 ⊢
      have hR7 := hF7.rdR
      obtain ⟨b7, off7, b8, off8, c8, hAA7, s0, hmc7, hct7, s1⟩ := hR7.atEl (HIT.out (k + 1)) hin hjm
      have h7le := hR7.le
      have h7top := hR7.top
      subst hAA7
      clear hG hF7 HN hl7 r0 r1
      go_wp2
      go_roundw
      case rel => exact ⟨k + 1, _, _, by omega, by go_num, rfl, hR7, hE.trans hb7⟩
      case measure => simp [intOf]; omega
    · obtain rfl : k = k0 := by omega
      obtain ⟨v, hv⟩ : ∃ v, el (iterG k g) i j = v := ⟨_, rfl⟩
      rw [hv] at r1 HYES
      subst hAA
      clear hv HNO hG
      go_wp2_with fail
      refine (RightsWithin_any _ _ _).mono ?_; rintro e w6 ⟨rfl, rfl⟩; rw [HYES.out]
      go_wp2
      go_ret
      exact ⟨rfl, hbE⟩
end Go.Proofs.Ytakdefcdhcghiaa
