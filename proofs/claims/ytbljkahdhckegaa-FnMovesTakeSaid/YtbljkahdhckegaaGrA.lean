/-
  A copy of a graph; a graph after a round, as the program makes it.
-/
import Derived.Test.YtbljkahdhckegaaGrP
import Derived.Test.YtbljkahdhckegaaSlI
namespace Go.Proofs.Ytbljkahdhckegaa
open Go.RowKit

theorem FrR.monoE {w : World} {B E E' : Nat} {A : Option Addr} {n c : Nat} {xss : List (List Int)} (h : FrR w B E A n c xss) (hE : E ≤ E') : FrR w B E' A n c xss := by
  obtain ⟨hs, h1, h2, h3, h4⟩ := h.ex
  exact ⟨hs, h1, h2, h3, fun i x g hi hg => Nat.lt_of_lt_of_le (h4 i x g hi hg) hE⟩

set_option maxHeartbeats 400000 in
theorem copyGraph_any (A : Option Addr) (n c : Nat) (xss : List (List Int)) (w : World) (h : RdR w A n c xss) (hn : n ≤ 1048576) (ht : ∀ xs ∈ xss, xs.length ≤ 1048576) :
    Calls Try.prog 45 #[.slice A n c] w fun e w' => ∃ A' c', e = .returned (.slice A' n c') ∧ FrR w' w.heap.size w'.heap.size A' n c' xss ∧ Ext w w' := by
  obtain ⟨i0, hi, hz0, hz1, hz2⟩ := info_parts Try.infoRow
  have hle := h.le
  have htop := h.top
  have HL := Lib.hid h.lenR
  have HT := Lib.hid ht
  clear ht
  go_enter Try.func45, Try.ntmps45
  go_wp2_with (at_make; refine wpList_make_full _ rfl _ _ 22 rfl w.heap.size 40 i0 _ 1 Try.underlying22 hi hz0 hz1 .i64 .i64 _ _ n rfl rfl rfl rfl (by rw [hz2]; omega) (by unfold maxLen; omega) (Nat.le_refl _) ?_; intro w1 hown hg)
  have hb1 : Ext w w1 := (Below.refl _ _).grown hg (Nat.le_refl _) (by simp)
  have hs1 : w.heap.size + 1 ≤ w1.heap.size := (Row.of_own hown).lt _ rfl |>.2
  have e0 : (madeCells (Value.slice none 0 0).cells (n * 1)).toList = List.replicate n (.slice none 0 0) := by
    rw [Nat.mul_one]
    unfold madeCells
    apply List.ext_getElem?
    intro j
    simp only [Array.toList_map, Array.toList_range, List.getElem?_map, List.getElem?_replicate]
    by_cases hj : j < n
    · rw [List.getElem?_range hj, if_pos hj]; simp [Value.cells, Nat.mod_one]
    · rw [List.getElem?_eq_none (by simpa using hj), if_neg hj]; rfl
  rw [e0] at hown
  replace hown := Row.of_own hown
  clear hg e0
  go_loopw [11] (fun i wr => ∃ (k : Nat) (hs : List Hd), k ≤ n ∧ i = .int .i64 k ∧ Hid (hs.length = k) ∧ Row wr w.heap.size 40 1 (.slice (some ⟨w.heap.size, 0, none⟩) n n) n (hs.map hv ++ List.replicate (n - k) (.slice none 0 0)) ∧ Rws wr (w.heap.size + 1) hs (xss.take k) ∧ Ext w wr ∧ w.heap.size + 1 ≤ wr.heap.size) (fun i _ => n - (intOf i).toNat)
  case atStart => exact ⟨0, [], Nat.zero_le _, rfl, rfl, hown, by rw [List.take_zero]; exact Rws.nil, hb1, hs1⟩
  case round =>
    obtain ⟨k, hs, hk, rfl, HK, hown, hrws, hb, hsz⟩ := hrel
    by_cases hlt : k < n
    · obtain ⟨b, off, A', m, c', xs, rfl, X, g0, R⟩ := (h.below hb).atR hlt
      have hm : m ≤ 1048576 := by rw [← R.lenI]; exact HT.out _ (List.mem_of_getElem? X.out)
      clear h
      go_wp2_with fail
      refine (cloneI_any _ _ _ _ _ R (one_cI _) hm).mono ?_; rintro e w2 ⟨A2, c2, rfl, r2, hb2⟩
      have own2 := hown.below hb2
      have q0 := own2.cellAt k (by omega)
      rw [List.getElem?_append_right (by rw [List.length_map, HK.out]; exact Nat.le_refl _), List.length_map, HK.out, Nat.sub_self, List.getElem?_replicate, if_pos (by omega)] at q0
      have f0 := own2.frozenAt k
      have own3 := own2.stored k (hv (A2, m, c2))
      rw [hv_fill HK.out hlt] at own3
      have rws2 := hrws.snoc hb2 hsz r2
      rw [← take_of_get X.out] at rws2
      have rws3 := rws2.keep (w' := w2.setCell ⟨w.heap.size, k, none⟩ (hv (A2, m, c2))) (fun i x g hi hg _ => Below.heap_setCell w2 ⟨w.heap.size, k, none⟩ _ g (by have := (rws2.blk hi hg).1; show g ≠ w.heap.size; omega))
      have hb3 := (hb.trans hb2).setCell (p := ⟨w.heap.size, k, none⟩) (by exact Nat.le_refl _) (hv (A2, m, c2))
      have hsz3 := Nat.le_trans hsz hb2.size
      clear hown own2 hrws rws2 hb hb2 r2 R X
      go_wp2
      go_roundw
      case rel => exact ⟨k + 1, _, by omega, by go_num, by show (hs ++ [(A2, m, c2)]).length = k + 1; rw [List.length_append, HK.out]; rfl, own3, rws3, hb3, by simpa using hsz3⟩
      case measure => simp [intOf]; omega
    · obtain rfl : k = n := by omega
      rw [Nat.sub_self, List.replicate_zero, List.append_nil] at hown
      rw [take_all HL.out (Nat.le_refl _)] at hrws
      clear h
      go_wp2
      go_ret
      exact ⟨_, _, rfl, ⟨hs, .inr hown, HK.out, hrws.mono (by omega), fun i x g hi hg => (hrws.blk hi hg).2⟩, hb⟩

/-- A row of a graph of the call's own: its header lies in the outer row; the number at a place of it. -/
theorem rws_at {w : World} {B i j n c : Nat} {A : Option Addr} {hs : List Hd} {xss : List (List Int)} {xs : List Int} (hO : Fr w B 40 1 (.slice A n c) n (hs.map hv)) (hl : hs.length = n) (hR : Rws w B hs xss) (hi : i < n) (hx : xss[i]? = some xs) (hj : j < xs.length) :
    ∃ b off g m c' z, A = some ⟨b, off, none⟩ ∧ w.cell? ⟨b, off + i, none⟩ = some (.slice (some ⟨g, 0, none⟩) m c') ∧ xs.length = m ∧ m ≤ c' ∧ c' ≤ 9223372036854775807 ∧ hs[i]? = some (some ⟨g, 0, none⟩, m, c') ∧ Hid (xs[j]? = some z) ∧ w.cell? ⟨g, j, none⟩ = some (.int .i64 z) ∧ w.frozen? ⟨g, j, none⟩ = false ∧ B ≤ g ∧
      ∀ u, Rws (w.setCell ⟨g, j, none⟩ (.int .i64 u)) B hs (xss.set i (xs.set j u)) ∧ Fr (w.setCell ⟨g, j, none⟩ (.int .i64 u)) B 40 1 (.slice A n c) n (hs.map hv) ∧ w.grownBy (w.setCell ⟨g, j, none⟩ (.int .i64 u)) (some g) := by
  obtain ⟨⟨A', m, c'⟩, hhd⟩ := get_of_lt hl hi
  have hF := hR.fr i _ xs hhd hx
  have hF' : Fr w B 3 1 (.slice A' m c') m (cI xs) := hF
  have hm : xs.length = m := hF'.rd'.2.lenI
  have hmc := hF'.rd'.2.le
  have hmt := hF'.rd'.2.top
  obtain ⟨b, off, rfl, hcell⟩ := hO.rd'.2.cells (by omega)
  have g0 := hcell i (hv (A', m, c')) (by rw [List.getElem?_map, hhd]; rfl)
  obtain ⟨g, rfl, hB, _, own⟩ := hF'.form (by omega)
  obtain ⟨z, hz, q0⟩ := ownI_at own (show j < m by omega)
  refine ⟨b, off, g, m, c', z, rfl, g0, hm, hmc, hmt, hhd, hz, q0, own.frozenAt j, hB, fun u => ?_⟩
  have hg := grown_set (p := ⟨g, j, none⟩) (World.grownBy.refl w (some g)) rfl (.int .i64 u)
  have hbk : ∀ k, some g = some k → blkC (some ⟨g, 0, none⟩, m, c') = some k := fun k hk => by
    cases hk; unfold blkC; rw [if_neg (by show ¬ c' = 0; omega)]; rfl
  refine ⟨hR.write hhd hg hbk (.inr (ownI_set own u)), hO.aside hF' (by decide) ?_, hg⟩
  rw [ownB_pos (by omega)]; exact hg
end Go.Proofs.Ytbljkahdhckegaa
