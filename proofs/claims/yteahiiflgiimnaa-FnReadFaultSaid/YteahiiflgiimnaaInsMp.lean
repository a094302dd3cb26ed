/-
  The library's Insert, at slices of impl.Mapping that the call itself made.
-/
import Derived.Test.YteahiiflgiimnaaRunB
import Derived.Test.YteahiiflgiimnaaTypes
import Derived.Deep.RegionLaw
import Derived.Laws.Externs
import Derived.Laws.NewBlocks
namespace Go.Proofs.Yteahiiflgiimnaa
open Go.RowKit

theorem isSome_put (b : Nat) (vs : List Value) (o : Nat) (w : World) (h : ∀ j, j < vs.length → (w.cell? ⟨b, o + j, none⟩).isSome = true) (k : Nat) (hk : (w.cell? ⟨b, k, none⟩).isSome = true) : ((w.setCells b o vs).cell? ⟨b, k, none⟩).isSome = true := by
  by_cases hin : o ≤ k ∧ k < o + vs.length
  · have := World.cell?_setCells_in b vs o w h (k - o) (by omega)
    rw [show o + (k - o) = k by omega] at this
    rw [this]; rfl
  · rw [World.cell?_setCells_out b vs o w ⟨b, k, none⟩ (fun _ _ => by show k < o ∨ o + vs.length ≤ k; omega)]
    exact hk
/-- What lay ahead, what is put in, what lay behind: first the part behind moves, then the new cells come. -/
theorem row_shift {w w2 : World} {B e sz n m i c g : Nat} {xs vs : List Value} (h : Row w B e sz (.slice (some ⟨g, 0, none⟩) n c) n xs) (hi : i ≤ n) (hvl : vs.length = m * sz) (hroom : n + m ≤ c)
    (hw : w2.heap = ((w.setCells g ((i + m) * sz) (xs.drop (i * sz))).setCells g (i * sz) vs).heap) : Row w2 B e sz (.slice (some ⟨g, 0, none⟩) (n + m) c) (n + m) (xs.take (i * sz) ++ vs ++ xs.drop (i * sz)) := by
  obtain ⟨hB, hn, hcm, cur, hh, hs, ht⟩ := h.inv
  have hl := h.len
  have k1 : i * sz ≤ n * sz := Nat.mul_le_mul_right _ hi
  have k2 : (n + m) * sz ≤ c * sz := Nat.mul_le_mul_right _ hroom
  have k3 : (i + m) * sz = i * sz + m * sz := Nat.add_mul _ _ _
  have k4 : (n + m) * sz = n * sz + m * sz := Nat.add_mul _ _ _
  have hD : (xs.drop (i * sz)).length = n * sz - i * sz := by rw [List.length_drop, hl]
  obtain ⟨c1, h1, s1, l1⟩ := setCells_blk (xs.drop (i * sz)) ((i + m) * sz) w cur hh (by omega)
  obtain ⟨c2, h2, s2, l2⟩ := setCells_blk vs (i * sz) _ c1 h1 (by omega)
  have hcl : cur.toList.length = cur.size := Array.length_toList
  refine Row.mk_ (by simp only [List.length_append, List.length_take, List.length_drop]; omega) hB (by rw [hw]; exact h2) hroom hcm (by omega) ?_
  have a1 : (cur.toList.take ((i + m) * sz)).length = (i + m) * sz := by rw [List.length_take]; omega
  have e1 : c1.toList.take (i * sz) = xs.take (i * sz) := by
    rw [l1, List.append_assoc, List.take_append_of_le_length (by omega), List.take_take, Nat.min_eq_left (by omega), ← ht, List.take_take, Nat.min_eq_left k1]
  have e2 : c1.toList.drop (i * sz + vs.length) = xs.drop (i * sz) ++ cur.toList.drop ((i + m) * sz + (xs.drop (i * sz)).length) := by
    rw [l1, List.append_assoc, hvl, ← k3]
    exact List.drop_left' a1
  rw [l2, e1, e2, ← List.append_assoc]
  exact List.take_left' (by simp only [List.length_append, List.length_take, List.length_drop]; omega)
/-- The same in a new block: the new cells come first. -/
theorem row_fill {w w1 w2 : World} {B e sz n m i G g : Nat} {xs vs : List Value} {cur : Array Value} (hh : w.heap[g]? = some (.cells cur e (0, 0))) (hB : B ≤ g) (hl : xs.length = n * sz) (hi : i ≤ n) (hvl : vs.length = m * sz) (hroom : n + m ≤ G) (hG : G ≤ maxLen) (hs : G * sz ≤ cur.size)
    (ht : cur.toList.take (i * sz) = xs.take (i * sz)) (hw1 : w1.heap = (w.setCells g (i * sz) vs).heap) (hw : w2.heap = (w1.setCells g ((i + m) * sz) (xs.drop (i * sz))).heap) :
    Row w2 B e sz (.slice (some ⟨g, 0, none⟩) (n + m) G) (n + m) (xs.take (i * sz) ++ vs ++ xs.drop (i * sz)) := by
  have k1 : i * sz ≤ n * sz := Nat.mul_le_mul_right _ hi
  have k2 : (n + m) * sz ≤ G * sz := Nat.mul_le_mul_right _ hroom
  have k3 : (i + m) * sz = i * sz + m * sz := Nat.add_mul _ _ _
  have k4 : (n + m) * sz = n * sz + m * sz := Nat.add_mul _ _ _
  have hD : (xs.drop (i * sz)).length = n * sz - i * sz := by rw [List.length_drop, hl]
  obtain ⟨c1, h1, s1, l1⟩ := setCells_blk vs (i * sz) w cur hh (by omega)
  obtain ⟨c2, h2, s2, l2⟩ := setCells_blk (xs.drop (i * sz)) ((i + m) * sz) w1 c1 (by rw [hw1]; exact h1) (by omega)
  have hcl : cur.toList.length = cur.size := Array.length_toList
  refine Row.mk_ (by simp only [List.length_append, List.length_take, List.length_drop]; omega) hB (by rw [hw]; exact h2) hroom hG (by omega) ?_
  have a1 : (xs.take (i * sz) ++ vs).length = (i + m) * sz := by rw [List.length_append, List.length_take]; omega
  have e1 : c1.toList.take ((i + m) * sz) = xs.take (i * sz) ++ vs := by
    rw [l1, ht]
    exact List.take_left' a1
  rw [l2, e1]
  exact List.take_left' (by simp only [List.length_append, List.length_take, List.length_drop]; omega)
theorem grown_two {w w1 w2 w3 : World} {g : Nat} {o1 o2 : Nat} {us vs : List Value} (h0 : w.grownBy w1 (some g)) (h2 : w2.os = (w1.setCells g o1 us).os ∧ w2.tape = (w1.setCells g o1 us).tape ∧ w2.output = (w1.setCells g o1 us).output ∧ w2.heap = (w1.setCells g o1 us).heap)
    (h3 : w3 = w2.setCells g o2 vs) : w.grownBy w3 (some g) := by
  have a := setCells_grown g us o1 w1
  have b := setCells_grown g vs o2 w2
  subst h3
  refine ⟨b.os.trans (h2.1.trans (a.os.trans h0.os)), b.tape.trans (h2.2.1.trans (a.tape.trans h0.tape)), b.output.trans (h2.2.2.1.trans (a.output.trans h0.output)), ?_, fun k hk hne => ?_⟩
  · have := h0.size; have := a.size; have := b.size; rw [h2.2.2.2] at this; omega
  · have k1 : k < w1.heap.size := Nat.lt_of_lt_of_le hk h0.size
    have k2 : k < w2.heap.size := by rw [h2.2.2.2]; exact Nat.lt_of_lt_of_le k1 a.size
    rw [b.block k k2 hne, h2.2.2.2, a.block k k1 hne, h0.block k hk hne]

set_option maxHeartbeats 4000000 in
set_option maxRecDepth 100000 in
theorem InsertMp_shift (g c B B' n i m vb vc : Nat) (xs vs : List Value) (w : World) (hi : i < n) (hm : 0 < m) (hroom : n + m ≤ c) (h : Row w B 76 3 (.slice (some ⟨g, 0, none⟩) n c) n xs)
    (hv : Row w B' 76 3 (.slice (some ⟨vb, 0, none⟩) m vc) m vs) (hne : vb ≠ g) (h1c : ∀ u ∈ xs, u.oneCell' = true) (h1v : ∀ u ∈ vs, u.oneCell' = true) :
    Calls Try.prog 94 #[.slice (some ⟨g, 0, none⟩) n c, .int .i64 i, .slice (some ⟨vb, 0, none⟩) m vc] w fun e w' => e = .returned (.slice (some ⟨g, 0, none⟩) (n + m) c) ∧
      w' = (w.drew.setCells g ((i + m) * 3) (xs.drop (i * 3))).setCells g (i * 3) vs := by
  obtain ⟨i0, hi0, hz0, hz1, hz2⟩ := info_parts Try.infoMp
  obtain ⟨_, _, hcm, cur, hh, hs, ht⟩ := h.inv
  obtain ⟨_, hmv, hvm, vcur, vh, vs', vt⟩ := hv.inv
  unfold maxLen at hcm hvm
  have hcl := h.len
  have hvl := hv.len
  have hmz1 : ¬ ((m : Int) = 0) := by omega
  have hmz2 : ¬ ((i : Int) = (n : Int)) := by omega
  have hsh : ∀ lb cb, (callFunc 103 #[.slice (some ⟨vb, 0, none⟩) m vc, .slice (some ⟨g, (i + m) * 3, none⟩) lb cb]).run Try.prog w = .ok (.value (.bool false)) w := fun lb cb => by
    rw [run_callFunc_extern Try.func103 (by kernel_rfl) (by kernel_rfl) (by kernel_rfl) (e := Extern.SlicesOverlaps.overlaps #[28, 28] #[4]) (by kernel_rfl),
      Lib.run_overlaps_apart w 28 4 76 Try.underlying28 3 (fun w => by kernel_rfl) ⟨vb, 0, none⟩ ⟨g, (i + m) * 3, none⟩ m vc lb cb hne 76 76 vcur.size cur.size
        (by unfold World.shape?; rw [vh]) (by unfold World.shape?; rw [hh]) (by have : n * 3 ≤ c * 3 := Nat.mul_le_mul_right _ (by omega); omega) (frozen_of_row w vb 0 _ _ vh) (frozen_of_row w vb _ _ _ vh)]
    rfl
  have hdl : (xs.drop (i * 3)).length = (n - i) * 3 := by rw [List.length_drop, hcl, Nat.sub_mul]
  have hw1 : IntKind.i64.wrap ((i : Int) + (m : Int)) = (i : Int) + (m : Int) := by rw [IntKind.wrap_i64]; omega
  have hb1 : (0 : Int) ≤ (i : Int) + (m : Int) := by omega
  have hin : i ≤ n := by omega
  have htn : ((i : Int) + (m : Int)).toNat = i + m := by omega
  have hb2 : ¬ (c = i + m) := by omega
  have hb3 : (i : Int) ≤ (n : Int) + (m : Int) := by omega
  have hb4 : ¬ (c = i) := by omega
  have hsp : ∀ j, j < (n + m) * 3 → (w.cell? ⟨g, j, none⟩).isSome = true := fun j hj => by
    have : (n + m) * 3 ≤ c * 3 := Nat.mul_le_mul_right _ hroom
    rw [cell_of_row w g _ cur _ _ hh, Array.getElem?_eq_getElem (by omega)]; rfl
  have hfz : ∀ j, w.frozen? ⟨g, j, none⟩ = false := fun j => frozen_of_row w g j _ _ hh
  have hcp1 : ∀ ty dc sc, (Builtin.copy_ #[28, 28] ty #[.slice (some ⟨g, (i + m) * 3, none⟩) (n + m - (i + m)) dc, .slice (some ⟨g, i * 3, none⟩) (n + m - i) sc]).run Try.prog w.drew = .ok (goInt (Nat.min (n + m - i) (n + m - (i + m)))) (w.drew.setCells g ((i + m) * 3) (xs.drop (i * 3))) := fun ty dc sc =>
    run_copyN w.drew _ _ ty 76 i0 3 g ((i + m) * 3) (n + m - (i + m)) dc ⟨g, i * 3, none⟩ (n + m - i) sc (xs.drop (i * 3)) Try.underlying28 hi0 hz1 (by rw [hdl, show Nat.min (n + m - i) (n + m - (i + m)) = n - i by simp only [Nat.min_def]; split <;> omega])
      (fun j v hj => by
        rw [List.getElem?_drop] at hj
        have hj' := (List.getElem?_eq_some_iff.1 hj).1
        rw [Addr.add_lit]
        have : w.cell? ⟨g, i * 3 + j, none⟩ = some v := by rw [h.cellAt _ (by omega)]; exact hj
        exact this)
      (fun j hj => hsp _ (by omega)) (fun j hj => hfz _) (fun v hv => h1c v (List.mem_of_mem_drop hv))
  obtain ⟨W1, hW1⟩ : ∃ W1, W1 = w.drew.setCells g ((i + m) * 3) (xs.drop (i * 3)) := ⟨_, rfl⟩
  have hsp1 : ∀ k, k < (n + m) * 3 → (W1.cell? ⟨g, k, none⟩).isSome = true := fun k hk => by
    rw [hW1]
    exact isSome_put g (xs.drop (i * 3)) ((i + m) * 3) w.drew (fun j hj => hsp _ (by rw [hdl] at hj; omega)) k (hsp k hk)
  have hcp2 : ∀ (W : World), (∀ x, W.cell? x = W1.cell? x) → (∀ x, W.frozen? x = W1.frozen? x) → ∀ ty dc, (Builtin.copy_ #[28, 28] ty #[.slice (some ⟨g, i * 3, none⟩) (n + m - i) dc, .slice (some ⟨vb, 0, none⟩) m vc]).run Try.prog W = .ok (goInt (Nat.min m (n + m - i))) (W.setCells g (i * 3) vs) := fun W hWc hWf ty dc =>
    run_copyN W _ _ ty 76 i0 3 g (i * 3) (n + m - i) dc ⟨vb, 0, none⟩ m vc vs Try.underlying28 hi0 hz1 (by rw [hvl, show Nat.min m (n + m - i) = m by simp only [Nat.min_def]; split <;> omega])
      (fun j v hj => by
        have hj' := (List.getElem?_eq_some_iff.1 hj).1
        rw [Addr.add_lit, hWc, hW1, World.cell?_setCells_out g _ _ _ _ (fun h _ => absurd h hne)]
        have : w.cell? ⟨vb, 0 + j, none⟩ = some v := by rw [Nat.zero_add, hv.cellAt _ (by omega)]; exact hj
        exact this)
      (fun j hj => by rw [hWc]; exact hsp1 _ (by omega)) (fun j hj => by rw [hWf, hW1, World.frozen?_setCells]; exact hfz _) h1v
  rw [← hW1] at hcp1
  clear hsp hfz hsp1 hdl hh vh hs ht vs' vt hcl hvl h hv
  go_enter Try.func94, Try.ntmps94
  go_wp2_with (simp only [hsh])
  go_region_law (refine step_cpy_run _ rfl _ _ 28 28 rfl _ _ (by simp [Act.eval, Act.put]) (by simp [Act.eval, Act.put]) (hcp1 _ _ _) ?_)
  go_wp2_with (at_builtin; refine wpList_cpy_run _ rfl _ _ 28 28 rfl _ _ rfl rfl (hcp2 _ (fun _ => rfl) (fun _ => rfl) _ _) ?_)
  go_ret
  first | exact ⟨rfl, rfl⟩ | exact ⟨rfl, by rw [hW1]⟩

set_option maxHeartbeats 4000000 in
set_option maxRecDepth 100000 in
theorem InsertMp_grow (g c B B' n i m vb vc : Nat) (xs vs : List Value) (w : World) (hi : i < n) (hm : 0 < m) (hroom : c < n + m) (hbig : n + m ≤ 1048576) (h : Row w B 76 3 (.slice (some ⟨g, 0, none⟩) n c) n xs)
    (hv : Row w B' 76 3 (.slice (some ⟨vb, 0, none⟩) m vc) m vs) (h1c : ∀ u ∈ xs, u.oneCell' = true) (h1v : ∀ u ∈ vs, u.oneCell' = true) :
    Calls Try.prog 94 #[.slice (some ⟨g, 0, none⟩) n c, .int .i64 i, .slice (some ⟨vb, 0, none⟩) m vc] w fun e w' => ∃ G, e = .returned (.slice (some ⟨w.heap.size, 0, none⟩) (n + m) G) ∧
      Row w' w.heap.size 76 3 (.slice (some ⟨w.heap.size, 0, none⟩) (n + m) G) (n + m) (xs.take (i * 3) ++ vs ++ xs.drop (i * 3)) ∧ Ext w w' := by
  obtain ⟨i0, hi0, hz0, hz1, hz2⟩ := info_parts Try.infoMp
  have hnc : n ≤ c := h.inv.2.1
  have hcm := h.inv.2.2.1
  have hvm := hv.inv.2.2.1
  have hmv := hv.inv.2.1
  unfold maxLen at hcm hvm
  have hcl := h.len
  have hvl := hv.len
  have hbw : g < w.heap.size := (h.lt g rfl).2
  have hvw : vb < w.heap.size := (hv.lt vb rfl).2
  have hmz1 : ¬ ((m : Int) = 0) := by omega
  have hmz2 : ¬ ((i : Int) = (n : Int)) := by omega
  have hmz3 : (c : Int) < (n : Int) + (m : Int) := by omega
  have hkk : (n : Int) + (m : Int) - (i : Int) = ((n + m - i : Nat) : Int) := by omega
  have hik : i + (n + m - i) = n + m := by omega
  have hiz : i * 3 ≤ n * 3 := Nat.mul_le_mul_right _ (by omega)
  have hold : (Builtin.firstCells i0.size i (.slice (some ⟨g, 0, none⟩) i c)).run Try.prog w.drew = .ok (xs.take (i * 3)).toArray w.drew := by
    rw [hz1]
    exact run_firstCells_some w.drew 3 i ⟨g, 0, none⟩ i c (xs.take (i * 3)) (by rw [List.length_take]; omega) (fun j v hj => by
      rw [Addr.add_lit, Nat.zero_add]
      rw [List.getElem?_take] at hj
      split at hj
      · have : w.cell? ⟨g, j, none⟩ = some v := by rw [h.cellAt j (by omega)]; exact hj
        exact this
      · cases hj)
  have hrz : ∀ ty, (Builtin.append_ #[28, 3] ty #[.slice (some ⟨g, 0, none⟩) i c, .int .i64 ((n : Int) + (m : Int) - (i : Int))]).run Try.prog w =
      .ok (.slice (some ⟨w.heap.size, 0, none⟩) (n + m) (grownCap w (n + m) c 76)) (w.drew.alloc (.cells ((xs.take (i * 3)).toArray ++ Builtin.zeroCells (.agg #[.int .i64 0, .int .i64 0, .int .i64 0] : Value).cells (n + m - i) ++ Builtin.zeroCells (.agg #[.int .i64 0, .int .i64 0, .int .i64 0] : Value).cells (grownCap w (n + m) c 76 - (n + m))) 76)) := fun ty => by
    have h := Lib.run_append_grow_zeros w 28 3 ty 76 i0 _ .i64 .i64 Try.underlying28 Try.underlying3 hi0 hz0 (some ⟨g, 0, none⟩) i c (xs.take (i * 3)) hold (n + m - i) (by omega) (by omega) (by omega) (by omega) (by rw [hz2]; omega) (by rw [hz2, hik]; exact growslice_fits hroom (by omega))
    rw [hik] at h
    rw [hkk]
    exact h
  obtain ⟨G, hG⟩ : ∃ G, G = grownCap w (n + m) c 76 := ⟨_, rfl⟩
  obtain ⟨ROW, hROW⟩ : ∃ ROW : Array Value, ROW = (xs.take (i * 3)).toArray ++ Builtin.zeroCells (.agg #[.int .i64 0, .int .i64 0, .int .i64 0] : Value).cells (n + m - i) ++ Builtin.zeroCells (.agg #[.int .i64 0, .int .i64 0, .int .i64 0] : Value).cells (G - (n + m)) := ⟨_, rfl⟩
  rw [← hG] at hrz
  rw [← hROW] at hrz
  have hGn : n + m ≤ G := by rw [hG]; exact grownCap_ge w _ _ _
  have hRs : G * 3 ≤ ROW.size := by
    rw [hROW]
    simp [Builtin.zeroCells, Value.cells]
    omega
  have hRt : ROW.toList.take (i * 3) = xs.take (i * 3) := by
    rw [hROW, Array.toList_append, Array.toList_append, List.append_assoc]
    exact List.take_left' (by simp; omega)
  obtain ⟨W1, hW1⟩ : ∃ W1, W1 = w.drew.alloc (.cells ROW 76) := ⟨_, rfl⟩
  rw [← hW1] at hrz
  have hN : ∀ j, j < (n + m) * 3 → (W1.cell? ⟨w.heap.size, j, none⟩).isSome = true := fun j hj => by
    have : (n + m) * 3 ≤ G * 3 := Nat.mul_le_mul_right _ hGn
    rw [hW1, World.cell?_alloc_at (w := w.drew) ROW _ w.heap.size j rfl, Array.getElem?_eq_getElem (by omega)]; rfl
  have hNf : ∀ j, W1.frozen? ⟨w.heap.size, j, none⟩ = false := fun j => by rw [hW1]; exact World.frozen?_alloc_at (w := w.drew) ROW _ w.heap.size j rfl
  have hOb : ∀ j v, w.cell? ⟨g, j, none⟩ = some v → W1.cell? ⟨g, j, none⟩ = some v := fun j v h => by rw [hW1, World.cell?_alloc_past (w := w.drew) _ g j hbw]; exact h
  have hOv : ∀ j v, w.cell? ⟨vb, j, none⟩ = some v → W1.cell? ⟨vb, j, none⟩ = some v := fun j v h => by rw [hW1, World.cell?_alloc_past (w := w.drew) _ vb j hvw]; exact h
  have hcpA : ∀ (W : World), (∀ x, W.cell? x = W1.cell? x) → (∀ x, W.frozen? x = W1.frozen? x) → ∀ ty dc, (Builtin.copy_ #[28, 28] ty #[.slice (some ⟨w.heap.size, i * 3, none⟩) (n + m - i) dc, .slice (some ⟨vb, 0, none⟩) m vc]).run Try.prog W = .ok (goInt (Nat.min m (n + m - i))) (W.setCells w.heap.size (i * 3) vs) := fun W hWc hWf ty dc =>
    run_copyN W _ _ ty 76 i0 3 w.heap.size (i * 3) (n + m - i) dc ⟨vb, 0, none⟩ m vc vs Try.underlying28 hi0 hz1 (by rw [hvl, show Nat.min m (n + m - i) = m by simp only [Nat.min_def]; split <;> omega])
      (fun j v hj => by
        have hj' := (List.getElem?_eq_some_iff.1 hj).1
        rw [Addr.add_lit, hWc, Nat.zero_add]
        exact hOv _ v (by rw [hv.cellAt _ (by omega)]; exact hj))
      (fun j hj => by rw [hWc]; exact hN _ (by omega)) (fun j hj => by rw [hWf]; exact hNf _) h1v
  have hG63' : G ≤ maxLen := by
    rw [hG]; exact grownCap_le_maxLen w (n + m) c 76 (by unfold maxLen; omega)
  have hG63 : G ≤ 9223372036854775807 := by unfold maxLen at hG63'; exact hG63'
  have hGi : ¬ (G = i) := by omega
  have hGim : ¬ (G = i + m) := by omega
  have hci : ¬ (c = i) := by omega
  have hbN : g ≠ w.heap.size := by omega
  have hdl : (xs.drop (i * 3)).length = (n - i) * 3 := by rw [List.length_drop, hcl, Nat.sub_mul]
  have hcpB : ∀ (W : World), (∀ x, W.cell? x = (W1.setCells w.heap.size (i * 3) vs).cell? x) → (∀ x, W.frozen? x = (W1.setCells w.heap.size (i * 3) vs).frozen? x) → ∀ ty dc sc, (Builtin.copy_ #[28, 28] ty #[.slice (some ⟨w.heap.size, (i + m) * 3, none⟩) (n + m - (i + m)) dc, .slice (some ⟨g, i * 3, none⟩) (n - i) sc]).run Try.prog W = .ok (goInt (Nat.min (n - i) (n + m - (i + m)))) (W.setCells w.heap.size ((i + m) * 3) (xs.drop (i * 3))) := fun W hWc hWf ty dc sc =>
    run_copyN W _ _ ty 76 i0 3 w.heap.size ((i + m) * 3) (n + m - (i + m)) dc ⟨g, i * 3, none⟩ (n - i) sc (xs.drop (i * 3)) Try.underlying28 hi0 hz1 (by rw [hdl, show Nat.min (n - i) (n + m - (i + m)) = n - i by simp only [Nat.min_def]; split <;> omega])
      (fun j v hj => by
        rw [List.getElem?_drop] at hj
        have hj' := (List.getElem?_eq_some_iff.1 hj).1
        rw [Addr.add_lit, hWc, World.cell?_setCells_out _ _ _ _ _ (fun h _ => absurd h hbN)]
        exact hOb _ v (by rw [h.cellAt _ (by omega)]; exact hj))
      (fun j hj => by rw [hWc]; exact isSome_put _ _ _ _ (fun t ht => hN _ (by omega)) _ (hN _ (by omega)))
      (fun j hj => by rw [hWf, World.frozen?_setCells]; exact hNf _) (fun v hv => h1c v (List.mem_of_mem_drop hv))
  subst hW1
  have hE1 : ∀ x, ((w.alloc (.cells ROW 76)).drew).cell? x = (w.drew.alloc (.cells ROW 76)).cell? x := fun x => rfl
  have hE2 : ∀ x, ((w.alloc (.cells ROW 76)).drew).frozen? x = (w.drew.alloc (.cells ROW 76)).frozen? x := fun x => rfl
  have hF1 : ∀ x, (((w.alloc (.cells ROW 76)).drew.setCells w.heap.size (i * 3) vs).drew).cell? x = ((w.drew.alloc (.cells ROW 76)).setCells w.heap.size (i * 3) vs).cell? x := fun x => rfl
  have hF2 : ∀ x, (((w.alloc (.cells ROW 76)).drew.setCells w.heap.size (i * 3) vs).drew).frozen? x = ((w.drew.alloc (.cells ROW 76)).setCells w.heap.size (i * 3) vs).frozen? x := fun x => rfl
  have hend : ∀ w', w' = (((w.alloc (.cells ROW 76)).drew.setCells w.heap.size (i * 3) vs).drew).setCells w.heap.size ((i + m) * 3) (xs.drop (i * 3)) →
      Row w' w.heap.size 76 3 (.slice (some ⟨w.heap.size, 0, none⟩) (n + m) G) (n + m) (xs.take (i * 3) ++ vs ++ xs.drop (i * 3)) ∧ Ext w w' := by
    intro w' hw'
    refine ⟨row_fill (w := (w.alloc (.cells ROW 76)).drew) (w1 := ((w.alloc (.cells ROW 76)).drew.setCells w.heap.size (i * 3) vs).drew) (heap_alloc_new w _) (Nat.le_refl _) hcl (by omega) hvl hGn hG63' hRs hRt rfl (by rw [hw']), ?_⟩
    have hal : Ext w (w.alloc (.cells ROW 76)).drew := ((Below.refl _ _).alloc (Nat.le_refl _) _).drew
    exact ext_grown (Below.refl _ _) (grown_two (w := w) (w1 := (w.alloc (.cells ROW 76)).drew) (w2 := ((w.alloc (.cells ROW 76)).drew.setCells w.heap.size (i * 3) vs).drew) (g := w.heap.size) ⟨hal.os, hal.tape, hal.output, hal.size, fun k hk _ => hal.block k hk⟩ ⟨rfl, rfl, rfl, rfl⟩ hw') (fun k hk => by cases hk; exact Nat.le_refl _)
  have HE := Lib.hid hend
  have hw1 : IntKind.i64.wrap ((i : Int) + (m : Int)) = (i : Int) + (m : Int) := by rw [IntKind.wrap_i64]; omega
  have hb1 : (0 : Int) ≤ (i : Int) + (m : Int) := by omega
  have hin : i ≤ n := by omega
  have htn : ((i : Int) + (m : Int)).toNat = i + m := by omega
  have hb3 : (i : Int) ≤ (n : Int) := by omega
  clear hkk hik hold hROW hG hRs hRt hend hN hNf hOb hOv hdl hcl hvl h hv hiz hG63'
  go_enter Try.func94, Try.ntmps94
  go_wp2_with (first
    | (at_builtin; refine wpList_app_run _ rfl _ _ _ _ rfl _ _ rfl rfl (hrz _) ?_)
    | (at_builtin; refine wpList_cpy_run _ rfl _ _ 28 28 rfl _ _ rfl rfl (hcpA _ hE1 hE2 _ _) ?_)
    | (at_builtin; refine wpList_cpy_run _ rfl _ _ 28 28 rfl _ _ rfl rfl (hcpB _ (fun _ => rfl) (fun _ => rfl) _ _ _) ?_))
  go_region_law (refine step_cpy_run _ rfl _ _ 28 28 rfl (.slice (some ⟨w.heap.size, (i + m) * 3, none⟩) (n + m - (i + m)) (G - (i + m))) (.slice (some ⟨g, i * 3, none⟩) (n - i) (c - i)) (by simp [Act.eval, Act.put]) (by simp [Act.eval, Act.put]) (hcpB _ hF1 hF2 3 (G - (i + m)) (c - i)) ?_)
  go_wp2
  go_ret
  exact ⟨G, rfl, HE.out _ rfl⟩

set_option maxHeartbeats 4000000 in
set_option maxRecDepth 100000 in
theorem InsertMp_end (A : Option Addr) (c B n vb : Nat) (xs vs : List Value) (w : World) (h : Fr w B 76 3 (.slice A n c) n xs) (hn : n ≤ 1048575) (hB : B ≤ w.heap.size)
    (hv : Rd w 3 (some ⟨vb, 0, none⟩) 1 1 vs) (h1v : ∀ u ∈ vs, u.oneCell' = true) :
    Calls Try.prog 94 #[.slice A n c, .int .i64 n, .slice (some ⟨vb, 0, none⟩) 1 1] w fun e w' => ∃ A' c', e = .returned (.slice A' (n + 1) c') ∧
      Fr w' B 76 3 (.slice A' (n + 1) c') (n + 1) (xs ++ vs) ∧ ∃ row, w.grownBy w' row ∧ ∀ k, row = some k → B ≤ k ∧ k < w.heap.size := by
  obtain ⟨i0, hi0, hz0, hz1, hz2⟩ := info_parts Try.infoMp
  have hle := h.rd'.2.le
  have htop := h.rd'.2.top
  rcases A with _ | ⟨ab, ao, asp⟩
  · have hn0 : n = 0 := by
      rcases Nat.eq_zero_or_pos n with h0 | h0
      · exact h0
      · obtain ⟨_, _, e, _⟩ := h.rd'.2.cells h0; cases e
    subst hn0
    go_enter Try.func94, Try.ntmps94
    go_wp2_with (at_builtin; refine wpList_append_fr _ rfl _ _ 28 rfl B 76 i0 _ 3 24 Try.underlying28 hi0 hz0 hz1 hz2 rfl (by omega) _ 0 _ rfl h _ 1 1 _ rfl hv h1v (by unfold maxLen; omega) (by omega) hB ?_; intro A' c' w2 row hF hg hrow)
    go_ret
    exact ⟨A', c', rfl, hF, row, hg, fun k hk => ⟨(hrow k hk).1, (hrow k hk).2.1⟩⟩
  · go_enter Try.func94, Try.ntmps94
    go_wp2_with (at_builtin; refine wpList_append_fr _ rfl _ _ 28 rfl B 76 i0 _ 3 24 Try.underlying28 hi0 hz0 hz1 hz2 rfl (by omega) _ n _ rfl h _ 1 1 _ rfl hv h1v (by unfold maxLen; omega) (by omega) hB ?_; intro A' c' w2 row hF hg hrow)
    all_goals (go_ret; exact ⟨A', c', rfl, hF, row, hg, fun k hk => ⟨(hrow k hk).1, (hrow k hk).2.1⟩⟩)

/-- All roads: one element put in at i. -/
theorem InsertMp_any (A : Option Addr) (c B B' n i vb : Nat) (xs vs : List Value) (w : World) (hi : i ≤ n) (h : Fr w B 76 3 (.slice A n c) n xs) (hn : n ≤ 1048575) (hB : B ≤ w.heap.size)
    (hv : Row w B' 76 3 (.slice (some ⟨vb, 0, none⟩) 1 1) 1 vs) (hne : ∀ b off, A = some ⟨b, off, none⟩ → 0 < n → vb ≠ b) (h1c : ∀ u ∈ xs, u.oneCell' = true) (h1v : ∀ u ∈ vs, u.oneCell' = true) :
    Calls Try.prog 94 #[.slice A n c, .int .i64 i, .slice (some ⟨vb, 0, none⟩) 1 1] w fun e w' => ∃ A' c', e = .returned (.slice A' (n + 1) c') ∧
      Fr w' B 76 3 (.slice A' (n + 1) c') (n + 1) (xs.take (i * 3) ++ vs ++ xs.drop (i * 3)) ∧ ∃ row, w.grownBy w' row ∧ ∀ k, row = some k → B ≤ k := by
  by_cases hin : i = n
  · subst hin
    have hl := h.rd'.2.len
    refine (InsertMp_end A c B i vb xs vs w h hn hB (Rd.of_row hv) h1v).mono ?_
    rintro e w' ⟨A', c', rfl, hF, row, hg, hr⟩
    refine ⟨A', c', rfl, ?_, row, hg, fun k hk => (hr k hk).1⟩
    rw [List.take_of_length_le (by omega), List.drop_eq_nil_of_le (by omega), List.append_nil]
    exact hF
  · obtain ⟨g, rfl, hg, hg2, r⟩ := h.form (by omega)
    by_cases hroom : n + 1 ≤ c
    · refine (InsertMp_shift g c B B' n i 1 vb 1 xs vs w (by omega) (by omega) hroom r hv (hne g 0 rfl (by omega)) h1c h1v).mono ?_
      rintro e w' ⟨rfl, hw⟩
      have r2 : Row w.drew B 76 3 (.slice (some ⟨g, 0, none⟩) n c) n xs := ⟨r.len, r.blk⟩
      refine ⟨_, _, rfl, .inr (row_shift r2 hi hv.len hroom (by rw [hw])), some g, grown_two (w := w) (w1 := w.drew) ?_ ⟨rfl, rfl, rfl, rfl⟩ hw, fun k hk => by cases hk; exact hg⟩
      have hd : Ext w w.drew := (Below.refl _ _).drew
      exact ⟨hd.os, hd.tape, hd.output, hd.size, fun k hk _ => hd.block k hk⟩
    · refine (InsertMp_grow g c B B' n i 1 vb 1 xs vs w (by omega) (by omega) (by omega) (by omega) r hv h1c h1v).mono ?_
      rintro e w' ⟨G, rfl, hF, hb⟩
      exact ⟨_, _, rfl, .inr (hF.mono hB), none, ⟨hb.os, hb.tape, hb.output, hb.size, fun k hk _ => hb.block k hk⟩, fun k hk => by cases hk⟩
end Go.Proofs.Yteahiiflgiimnaa
