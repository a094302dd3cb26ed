/-
  The library's Delete of one element, at slices of impl.Mapping that the call itself made.
-/
import Derived.Test.YteahiiflgiimnaaRunB
import Derived.Test.YteahiiflgiimnaaTypes
import Derived.Deep.RegionLaw
namespace Go.Proofs.Yteahiiflgiimnaa
open Go.RowKit

theorem Try.zeroMp (w : World) : (zeroValue 76).run Try.prog w = .ok (.agg #[.int .i64 0, .int .i64 0, .int .i64 0]) w := by kernel_rfl

set_option maxHeartbeats 8000000 in
theorem DeleteMp_any (g c B i k : Nat) (xs : List Value) (w : World) (h : Row w B 76 3 (.slice (some ⟨g, 0, none⟩) (i + 1 + k) c) (i + 1 + k) xs) (h1 : ∀ u ∈ xs, u.oneCell' = true) :
    Calls Try.prog 93 #[.slice (some ⟨g, 0, none⟩) (i + 1 + k) c, .int .i64 i, .int .i64 (i + 1)] w fun e w' => e = .returned (.slice (some ⟨g, 0, none⟩) (i + k) c) ∧
      Row w' B 76 3 (.slice (some ⟨g, 0, none⟩) (i + k) c) (i + k) (xs.take (i * 3) ++ xs.drop ((i + 1) * 3)) ∧ w.grownBy w' (some g) := by
  obtain ⟨i0, hi, hz0, hz1, hz2⟩ := info_parts Try.infoMp
  obtain ⟨hB, hn, hc, _⟩ := h.inv
  unfold maxLen at hc
  have hl := h.len
  have hd : Row w.drew B 76 3 (.slice (some ⟨g, 0, none⟩) (i + 1 + k) c) (i + 1 + k) xs := ⟨h.len, h.blk⟩
  have hinit : Row w.drew B 76 i0.size (.slice (some ⟨g, 0, none⟩) i c) i (xs.take (i * 3)) := by rw [hz1]; exact hd.init (by omega)
  have happ : ∀ (ad : Addr) (c' ty : Nat), (k = 0 ∨ ad = ⟨g, (i + 1) * 3, none⟩) → (Builtin.append_ #[28, 28] ty #[.slice (some ⟨g, 0, none⟩) i c, .slice (some ad) k c']).run Try.prog w.drew = .ok (.slice (some ⟨g, 0, none⟩) (i + k) c) (w.drew.setCells g (i * 3) (xs.drop ((i + 1) * 3))) := by
    intro ad c' ty had
    have := run_append_row (P := Try.prog) w.drew 28 ty 76 i0 Try.underlying28 hi hinit ad k c' (xs.drop ((i + 1) * 3)) (by rw [List.length_drop, hl, hz1]; omega)
      (fun j u hu => by
        rcases had with h0 | h0
        · have hj := (List.getElem?_eq_some_iff.1 hu).1
          rw [List.length_drop, hl] at hj
          omega
        · subst h0
          rw [List.getElem?_drop] at hu
          have hj := (List.getElem?_eq_some_iff.1 hu).1
          rw [Addr.add_lit, hd.cellAt _ (by omega)]
          exact hu) (fun u hu => h1 u (List.mem_of_mem_drop hu)) (by omega)
    rw [hz1] at this
    exact this
  obtain ⟨W, hW⟩ : ∃ W, W = w.drew.setCells g (i * 3) (xs.drop ((i + 1) * 3)) := ⟨_, rfl⟩
  have hW1 : Row W B 76 3 (.slice (some ⟨g, 0, none⟩) (i + 1 + k) c) (i + 1 + k) (xs.take (i * 3) ++ xs.drop ((i + 1) * 3) ++ xs.drop (i * 3 + (xs.drop ((i + 1) * 3)).length)) := by
    rw [hW]; exact hd.splice (i * 3) (by rw [List.length_drop, hl]; omega)
  have hgW : w.grownBy W (some g) := by
    have := setCells_grown g (xs.drop ((i + 1) * 3)) (i * 3) w.drew
    rw [hW]; exact ⟨this.os, this.tape, this.output, this.size, this.block⟩
  rw [← hW] at happ
  obtain ⟨_, _, _, cur, hh, hs, _⟩ := hW1.inv
  have hsz : (i + 1 + k) * 3 ≤ cur.size := by have := Nat.mul_le_mul_right 3 hn; omega
  have hclr : ∀ c' ty : Nat, (Builtin.clear_ #[28] ty #[.slice (some ⟨g, (i + k) * 3, none⟩) 1 c']).run Try.prog W = .ok (.tuple #[]) (W.setCells g ((i + k) * 3) (Builtin.zeroCells (.agg #[.int .i64 0, .int .i64 0, .int .i64 0] : Value).cells 1).toList) := by
    intro c' ty
    refine run_clearN W 28 76 ty _ Try.underlying28 Try.zeroMp (by intro v hv; simp [Value.cells] at hv; subst hv; rfl) g ((i + k) * 3) 1 c' (by omega) (fun j hj => ?_) (fun j _ => hW1.frozenAt _)
    have hj' : j < 3 := by simpa [Value.cells] using hj
    rw [cell_of_row W g _ cur _ _ hh, Array.getElem?_eq_getElem (by omega)]; rfl
  have hz : (Builtin.zeroCells (.agg #[.int .i64 0, .int .i64 0, .int .i64 0] : Value).cells 1).toList.length = 3 := by rw [zeroCells_len]; rfl
  have hend : Row (W.setCells g ((i + k) * 3) (Builtin.zeroCells (.agg #[.int .i64 0, .int .i64 0, .int .i64 0] : Value).cells 1).toList) B 76 3 (.slice (some ⟨g, 0, none⟩) (i + k) c) (i + k) (xs.take (i * 3) ++ xs.drop ((i + 1) * 3)) ∧
      w.grownBy (W.setCells g ((i + k) * 3) (Builtin.zeroCells (.agg #[.int .i64 0, .int .i64 0, .int .i64 0] : Value).cells 1).toList) (some g) := by
    constructor
    · have h3 := (hW1.splice (vs := (Builtin.zeroCells (.agg #[.int .i64 0, .int .i64 0, .int .i64 0] : Value).cells 1).toList) ((i + k) * 3) (by rw [hz]; omega)).init (m := i + k) (by omega)
      have e1 : (xs.take (i * 3) ++ xs.drop ((i + 1) * 3)).length = (i + k) * 3 := by rw [List.length_append, List.length_take, List.length_drop, hl]; omega
      rw [List.append_assoc, List.take_append_of_le_length (by rw [List.length_take, List.length_append, e1]; omega), List.take_take, Nat.min_self, List.take_append_of_le_length (by omega), List.take_of_length_le (by omega)] at h3
      exact h3
    · have := setCells_grown g (Builtin.zeroCells (.agg #[.int .i64 0, .int .i64 0, .int .i64 0] : Value).cells 1).toList ((i + k) * 3) W
      exact ⟨this.os.trans hgW.os, this.tape.trans hgW.tape, this.output.trans hgW.output, Nat.le_trans hgW.size this.size, fun b hb hne => (this.block b (Nat.lt_of_lt_of_le hb hgW.size) hne).trans (hgW.block b hb hne)⟩
  have HE := Lib.hid hend
  have hsub : i + 1 + k - (i + 1) = k := by omega
  have hsub2 : i + 1 + k - (i + k) = 1 := by omega
  have hic : i ≤ c := by omega
  have hi1 : i + 1 ≤ i + 1 + k := by omega
  have hI1 : (0 : Int) ≤ (i : Int) + 1 := by omega
  have hI2 : (i : Int) + 1 ≤ (i : Int) + 1 + (k : Int) := by omega
  clear h hd hinit hW1 hgW hend hh hs hsz hz hl hi hz0 hz1 hz2 hW
  by_cases hci : c = i + 1
  · obtain rfl : k = 0 := by omega
    subst hci
    have hap := fun c' ty => happ ⟨g, 0, none⟩ c' ty (Or.inl rfl)
    have hI3 : (i : Int) ≤ (i : Int) + 1 := by omega
    simp only [Nat.add_zero] at hclr
    clear happ
    go_enter Try.func93, Try.ntmps93
    go_wp2
    go_region_law (refine step_app_run _ rfl _ _ _ _ rfl _ _ rfl rfl (hap _ _) ?_)
    go_wp2
    go_ret
    exact ⟨rfl, HE.out⟩
  · have hap := fun c' ty => happ ⟨g, (i + 1) * 3, none⟩ c' ty (Or.inr rfl)
    clear happ
    go_enter Try.func93, Try.ntmps93
    go_wp2
    go_region_law (refine step_app_run _ rfl _ _ _ _ rfl _ _ rfl rfl (hap _ _) ?_)
    go_wp2
    go_ret
    exact ⟨rfl, HE.out⟩
end Go.Proofs.Yteahiiflgiimnaa
