/-
  MapPage, the reference's.
-/
import Derived.Test.YteahiiflgiimnaaMpI
import Derived.Test.YteahiiflgiimnaaRunB
import Derived.Test.YteahiiflgiimnaaIdx
import Derived.Test.YteahiiflgiimnaaOnce2
import Derived.Deep.Cut
namespace Go.Proofs.Yteahiiflgiimnaa
open Go.RowKit

theorem RdE {w : World} {A : Option Addr} {n c k : Nat} {ms : List Mp} (hl : ms.length = n) (hk : n ≤ k) (hn : n ≤ c) (hc : c ≤ 9223372036854775807) : Rd w 3 A (n - k) (c - k) (c3 (ms.drop k)) :=
  ⟨by rw [c3_len, List.length_drop]; omega, by omega, by omega, fun hp => absurd hp (by omega)⟩
theorem Rd.tail {w : World} {sz n c b off k : Nat} {xs : List Value} (h : Rd w sz (some ⟨b, off, none⟩) n c xs) (hk : k ≤ n) : Rd w sz (some ⟨b, off + k * sz, none⟩) (n - k) (c - k) (xs.drop (k * sz)) := by
  have hm : n * sz = k * sz + (n - k) * sz := by rw [← Nat.add_mul]; congr 1; omega
  refine ⟨by rw [List.length_drop, h.len]; omega, by have := h.le; omega, by have := h.top; omega, fun hp => ⟨b, off + k * sz, rfl, fun j u hu => ?_⟩⟩
  obtain ⟨b', off', e, hc⟩ := h.cells (by omega)
  cases e
  rw [List.getElem?_drop] at hu
  rw [Nat.add_assoc]
  exact hc _ u hu
/-- What is known of the values of the statement that puts a mapping in. -/
def MPf (w7 : World) (A : Option Addr) (n c kk : Nat) (page o q : Int) (ms : List Mp) : Nat → Value → World → Prop
  | 0, v, w => ∃ b, v = .slice (some ⟨b, 0, none⟩) 0 0 ∧ Fr w w7.heap.size 76 3 v 0 (c3 [])
  | 1, v, _ => v = .slice A n c
  | 2, v, _ => v = .int .i64 (kk : Int)
  | 3, v, _ => v = .slice A kk c
  | 4, v, w => ∃ A c, v = .slice A kk c ∧ Fr w w7.heap.size 76 3 v kk (c3 (ms.take kk))
  | 5, v, _ => v = .agg #[.int .i64 page, .int .i64 o, .int .i64 q]
  | 6, v, w => ∃ b, v = .slice (some ⟨b, 0, none⟩) 1 1 ∧ Rd w 3 (some ⟨b, 0, none⟩) 1 1 (c3 [(page, o, q)])
  | 7, v, w => ∃ A c, v = .slice A (kk + 1) c ∧ Fr w w7.heap.size 76 3 v (kk + 1) (c3 (ms.take kk ++ [(page, o, q)]))
  | 8, v, _ => v = .slice A n c
  | 9, v, _ => v = .int .i64 (kk : Int)
  | 10, v, _ => ∃ A c, v = .slice A (n - kk) c ∧ ∀ w', Ext w7 w' → Rd w' 3 A (n - kk) c (c3 (ms.drop kk))
  | 11, v, w => ∃ A c, v = .slice A (kk + 1 + (n - kk)) c ∧ Fr w w7.heap.size 76 3 v (kk + 1 + (n - kk)) (c3 (ms.take kk ++ [(page, o, q)] ++ ms.drop kk))
  | 12, v, w => ∃ A c, v = .slice A (kk + 1 + (n - kk)) c ∧ Fr w w7.heap.size 76 3 v (kk + 1 + (n - kk)) (c3 (ms.take kk ++ [(page, o, q)] ++ ms.drop kk))
  | 13, v, _ => v = .bool true
  | _, _, _ => True
def MPc : Nat → Option Nat
  | 0 => some 4 | 4 => some 7 | 6 => some 7 | 7 => some 11 | _ => none
theorem MPf_ext (w7 : World) (A : Option Addr) (n c kk : Nat) (page o q : Int) (ms : List Mp) : ∀ k v w w', Ext w w' → MPf w7 A n c kk page o q ms k v w → MPf w7 A n c kk page o q ms k v w' := by
  intro k v w w' he h
  rcases k with _ | _ | _ | _ | _ | _ | _ | _ | _ | _ | _ | _ | _ | _ | k
  · obtain ⟨b, h1, h2⟩ := h; exact ⟨b, h1, h2.below he⟩
  · exact h
  · exact h
  · exact h
  · obtain ⟨A, c, h1, h2⟩ := h; exact ⟨A, c, h1, h2.below he⟩
  · exact h
  · obtain ⟨b, h1, h2⟩ := h; exact ⟨b, h1, h2.below he⟩
  · obtain ⟨A, c, h1, h2⟩ := h; exact ⟨A, c, h1, h2.below he⟩
  · exact h
  · exact h
  · exact h
  · obtain ⟨A, c, h1, h2⟩ := h; exact ⟨A, c, h1, h2.below he⟩
  · obtain ⟨A, c, h1, h2⟩ := h; exact ⟨A, c, h1, h2.below he⟩
  · exact h
  · rcases k with _ | k <;> first | exact hGk | trivial
theorem Rd.head3 {w : World} {n c k : Nat} {A : Option Addr} {ms : List Mp} (h : Rd w 3 A n c (c3 ms)) (hk : k ≤ n) : Rd w 3 A k c (c3 (ms.take k)) := by
  rw [c3_take]
  have := Nat.mul_le_mul_right 3 hk
  refine ⟨by rw [List.length_take, h.len]; omega, Nat.le_trans hk h.le, h.top, fun hp => ?_⟩
  obtain ⟨b, off, e, hc⟩ := h.cells (by omega)
  refine ⟨b, off, e, fun j u hu => hc j u ?_⟩
  rw [List.getElem?_take] at hu
  split at hu
  · exact hu
  · cases hu
set_option maxRecDepth 100000 in
set_option maxHeartbeats 4000000 in
theorem specMapPage_any (A : Option Addr) (n c : Nat) (ms : List Mp) (page k o r b rights : Int) (w : World) (h : Rd w 3 A n c (c3 ms)) :
    Calls Try.prog 48 #[.slice A n c, .int .i64 page, .agg #[.int .i64 k, .int .i64 o, .int .i64 r, .int .i64 b], .int .i64 rights] w fun e w' => ∃ A' c', e = .returned (.tuple #[.slice A' (mapR page k o r b rights ms).1.length c', .bool (mapR page k o r b rights ms).2]) ∧
      Fr w' w.heap.size 76 3 (.slice A' (mapR page k o r b rights ms).1.length c') (mapR page k o r b rights ms).1.length (c3 (mapR page k o r b rights ms).1) ∧ Ext w w' := by
  have hb0 : Ext w (w.alloc (.cells #[.int .i64 k, .int .i64 o, .int .i64 r, .int .i64 b] 34)) := (Below.refl _ _).alloc (Nat.le_refl _) _
  have c0 : (w.alloc (.cells #[.int .i64 k, .int .i64 o, .int .i64 r, .int .i64 b] 34)).cell? ⟨w.heap.size, 0, none⟩ = some (.int .i64 k) := by rw [World.cell?_alloc_new]; rfl
  have c1 : (w.alloc (.cells #[.int .i64 k, .int .i64 o, .int .i64 r, .int .i64 b] 34)).cell? ⟨w.heap.size, 1, none⟩ = some (.int .i64 o) := by rw [World.cell?_alloc_new]; rfl
  have c2 : (w.alloc (.cells #[.int .i64 k, .int .i64 o, .int .i64 r, .int .i64 b] 34)).cell? ⟨w.heap.size, 2, none⟩ = some (.int .i64 r) := by rw [World.cell?_alloc_new]; rfl
  have c3' : (w.alloc (.cells #[.int .i64 k, .int .i64 o, .int .i64 r, .int .i64 b] 34)).cell? ⟨w.heap.size, 3, none⟩ = some (.int .i64 b) := by rw [World.cell?_alloc_new]; rfl
  have hR := h.below hb0
  cases hv : mapOk page k o r b rights ms with
  | false =>
    have e : mapR page k o r b rights ms = ([], false) := by unfold mapR; rw [hv]; rfl
    rw [e]
    unfold mapOk at hv
    go_enter Try.func48, Try.ntmps48
    go_wp2_with (first | ((go_at_call 44; refine (specSpaceValid_any _ _ _ _ _ hR).mono ?_; rintro e w1 ⟨rfl, hb1⟩); have d0 : w1.cell? ⟨w.heap.size, 0, none⟩ = some (.int .i64 k) := later_cell c0 ⟨w1, hb1⟩; have d1 : w1.cell? ⟨w.heap.size, 1, none⟩ = some (.int .i64 o) := later_cell c1 ⟨w1, hb1⟩; have d2 : w1.cell? ⟨w.heap.size, 2, none⟩ = some (.int .i64 r) := later_cell c2 ⟨w1, hb1⟩; have d3 : w1.cell? ⟨w.heap.size, 3, none⟩ = some (.int .i64 b) := later_cell c3' ⟨w1, hb1⟩; have hb2 : Ext w1 w1 := Below.refl _ _) | ((go_at_call 46; refine (l1In_any _ _ _ _).mono ?_; rintro e w' ⟨rfl, rfl⟩)) | ((go_at_call 88; refine (specCapValid_any _ _ _ _ _).mono ?_; rintro e w2 ⟨rfl, hb2⟩); have d4 : w2.cell? ⟨w.heap.size, 0, none⟩ = some (.int .i64 k) := later_cell d0 ⟨w2, hb2⟩; have d5 : w2.cell? ⟨w.heap.size, 1, none⟩ = some (.int .i64 o) := later_cell d1 ⟨w2, hb2⟩; have d6 : w2.cell? ⟨w.heap.size, 2, none⟩ = some (.int .i64 r) := later_cell d2 ⟨w2, hb2⟩) | ((go_at_call 45; refine (specRightsValid_any _ _).mono ?_; rintro e w' ⟨rfl, rfl⟩)))
    all_goals first
      | (go_ret2; exact ⟨_, _, rfl, .inr (Row.lit (n := 0) #[] (by simp) (by unfold maxLen; omega) (by have := hb0.size; have := hb1.size; have := hb2.size; omega)), ((hb0.trans hb1).trans hb2).alloc (by have := hb0.size; have := hb1.size; have := hb2.size; omega) _⟩)
      | (exfalso; simp_all)
  | true =>
    unfold mapOk at hv
    simp only [Bool.and_eq_true] at hv
    obtain ⟨⟨⟨⟨h1, h2⟩, h3⟩, h4⟩, h5⟩ := hv
    have hk6 : k = 6 := by simpa using h4
    obtain ⟨q, hq⟩ : ∃ q, bits .and .i64 (bits .and .i64 rights r) 3 = q := ⟨_, rfl⟩
    have e : mapR page k o r b rights ms = mapL page o q ms := by unfold mapR mapOk; rw [h1, h2, h3, h4, h5, hq]; rfl
    rw [e]
    have hl := h.len3
    have hn : n ≤ 20 := by have := spValid_len h1; omega
    have HL := Lib.hid hl
    obtain ⟨i1, ki, kz0, kz1, kz2⟩ := info_parts Try.infoMp
    clear hl e h4
    subst hk6
    go_enter Try.func48, Try.ntmps48
    go_wp2_with (first | ((go_at_call 44; refine (specSpaceValid_any _ _ _ _ _ hR).mono ?_; rintro e w1 ⟨rfl, hb1⟩); rw [h1]; have d0 : w1.cell? ⟨w.heap.size, 0, none⟩ = some (.int .i64 6) := later_cell c0 ⟨w1, hb1⟩; have d1 : w1.cell? ⟨w.heap.size, 1, none⟩ = some (.int .i64 o) := later_cell c1 ⟨w1, hb1⟩; have d2 : w1.cell? ⟨w.heap.size, 2, none⟩ = some (.int .i64 r) := later_cell c2 ⟨w1, hb1⟩; have d3 : w1.cell? ⟨w.heap.size, 3, none⟩ = some (.int .i64 b) := later_cell c3' ⟨w1, hb1⟩) | ((go_at_call 46; refine (l1In_any _ _ _ _).mono ?_; rintro e w' ⟨rfl, rfl⟩); rw [h2]) | ((go_at_call 88; refine (specCapValid_any _ _ _ _ _).mono ?_; rintro e w2 ⟨rfl, hb2⟩); rw [h3]; have f0 : w2.cell? ⟨w.heap.size, 0, none⟩ = some (.int .i64 6) := later_cell d0 ⟨w2, hb2⟩; have f1 : w2.cell? ⟨w.heap.size, 1, none⟩ = some (.int .i64 o) := later_cell d1 ⟨w2, hb2⟩; have f2 : w2.cell? ⟨w.heap.size, 2, none⟩ = some (.int .i64 r) := later_cell d2 ⟨w2, hb2⟩; have f3 : w2.cell? ⟨w.heap.size, 3, none⟩ = some (.int .i64 b) := later_cell d3 ⟨w2, hb2⟩) | ((go_at_call 45; refine (specRightsValid_any _ _).mono ?_; rintro e w' ⟨rfl, rfl⟩); rw [h5]))
    --LOOP
    have hs1 := hb1.size
    have hs2 := hb2.size
    have hs0 := hb0.size
    have hx3 : Ext w (w2.alloc (.cells #[.int .i64 page, .int .i64 o, .int .i64 q] 76)) := ((hb0.trans hb1).trans hb2).alloc (by omega) _
    have x0 : (w2.alloc (.cells #[.int .i64 page, .int .i64 o, .int .i64 q] 76)).cell? ⟨w2.heap.size, 0, none⟩ = some (.int .i64 page) := by rw [World.cell?_alloc_new]; rfl
    have x1 : (w2.alloc (.cells #[.int .i64 page, .int .i64 o, .int .i64 q] 76)).cell? ⟨w2.heap.size, 1, none⟩ = some (.int .i64 o) := by rw [World.cell?_alloc_new]; rfl
    have x2 : (w2.alloc (.cells #[.int .i64 page, .int .i64 o, .int .i64 q] 76)).cell? ⟨w2.heap.size, 2, none⟩ = some (.int .i64 q) := by rw [World.cell?_alloc_new]; rfl
    have hRV := h.below hx3
    have hle := h.le
    have htop := h.top
    clear h hR hb0 hb1 hb2 c0 c1 c2 c3' d0 d1 d2 d3 f0 f1 f2 f3 h1 h2 h3 h5 hs0 hs1 hs2
    go_loopw [11] (fun i wr => ∃ kk : Nat, kk ≤ n ∧ i = .int .i64 kk ∧ Ext (w2.alloc (.cells #[.int .i64 page, .int .i64 o, .int .i64 q] 76)) wr ∧ Hid (∀ i, i < kk → ∃ m, ms[i]? = some m ∧ m.1 < page)) (fun i _ => n - (intOf i).toNat)
    case atStart => exact ⟨0, Nat.zero_le _, rfl, Below.refl _ _, fun i hi => absurd hi (by omega)⟩
    case round =>
      obtain ⟨kk, hkk, rfl, hb, H⟩ := hrel
      by_cases hlt : kk < n
      · obtain ⟨bb, off, p, f, rr, rfl, X, g0, _, _⟩ := (hRV.below hb).at3 hlt
        by_cases hp : p < page
        · clear hRV HL x0 x1 x2
          go_wp2
          go_roundw
          case rel => exact ⟨kk + 1, by omega, by go_num, hb, fun i hi => by
            by_cases hik : i < kk
            · exact H.out i hik
            · obtain rfl : i = kk := by omega
              exact ⟨_, X.out, hp⟩⟩
          case measure => simp [intOf]; omega
        · have e1 : pAt page ms = kk := by rw [pAt_drop page ms kk H.out, drop_of_get X.out, pAt, if_neg hp]; omega
          have e2 : pThere page ms = (p == page) := by unfold pThere; rw [e1, X.out]
          by_cases hpe : p = page
          · have E2 : Hid (pThere page ms = true) := by rw [e2]; exact Lib.hid (by simpa using hpe)
            have E1 := Lib.hid e1
            clear X H e1 e2
            have hy : Ext wr (wr.alloc (.cells #[] 76)) := (Below.refl _ _).alloc (Nat.le_refl _) _
            have hF0 : Fr (wr.alloc (.cells #[] 76)) wr.heap.size 76 3 (.slice (some ⟨wr.heap.size, 0, none⟩) 0 0) 0 (c3 []) := .inr (Row.lit (n := 0) #[] (by simp) (by unfold maxLen; omega) (Nat.le_refl _))
            have hR7 := (hRV.below hb).below hy
            have hbz := hy.size
            go_wp2_with (at_builtin; refine wpList_append_fr _ rfl _ _ 28 rfl wr.heap.size 76 i1 _ 3 24 Try.underlying28 ki kz0 kz1 kz2 rfl (by omega) _ 0 _ rfl hF0 _ n c _ rfl hR7 (one_c3 _) (by unfold maxLen; omega) (by omega) hbz ?_; intro A7 c7 w7 row hF7 hg7 hrow7; have hE7 : Ext wr w7 := ext_grown hy hg7 (fun k hk => (hrow7 k hk).1); have X2 : w7.cell? ⟨w2.heap.size, 2, none⟩ = some (.int .i64 q) := later_cell x2 ⟨w7, hb.trans hE7⟩; have G7 : w7.cell? ⟨bb, off + kk * 3, none⟩ = some (.int .i64 p) := later_cell g0 ⟨w7, hE7⟩)
            rw [Nat.zero_add, c3_nil, List.nil_append] at hF7
            have HS : Hid (mapL page o q ms = (ms, false)) := mapL_same (by rw [E2.out]; rfl)
            go_ret2
            first | rw [HS.out, HL.out] | (rw [hq0] at HS; rw [HS.out, HL.out])
            exact ⟨_, _, rfl, hF7.mono (by have := hx3.size; have := hb.size; omega), (hx3.trans hb).trans hE7⟩
          · have hpb : (p == page) = false := by simpa using hpe
            have E2 : Hid (pThere page ms = false) := by rw [e2]; exact Lib.hid hpb
            have E1 := Lib.hid e1
            clear X H e1 e2
            have hy : Ext wr (wr.alloc (.cells #[] 76)) := (Below.refl _ _).alloc (Nat.le_refl _) _
            have hF0 : Fr (wr.alloc (.cells #[] 76)) wr.heap.size 76 3 (.slice (some ⟨wr.heap.size, 0, none⟩) 0 0) 0 (c3 []) := .inr (Row.lit (n := 0) #[] (by simp) (by unfold maxLen; omega) (Nat.le_refl _))
            have hR7 := (hRV.below hb).below hy
            have hbz := hy.size
            by_cases hq0 : q = 0
            · go_wp2_with (at_builtin; refine wpList_append_fr _ rfl _ _ 28 rfl wr.heap.size 76 i1 _ 3 24 Try.underlying28 ki kz0 kz1 kz2 rfl (by omega) _ 0 _ rfl hF0 _ n c _ rfl hR7 (one_c3 _) (by unfold maxLen; omega) (by omega) hbz ?_; intro A7 c7 w7 row hF7 hg7 hrow7; have hE7 : Ext wr w7 := ext_grown hy hg7 (fun k hk => (hrow7 k hk).1); have X2 : w7.cell? ⟨w2.heap.size, 2, none⟩ = some (.int .i64 q) := later_cell x2 ⟨w7, hb.trans hE7⟩; have G7 : w7.cell? ⟨bb, off + kk * 3, none⟩ = some (.int .i64 p) := later_cell g0 ⟨w7, hE7⟩)
              rw [Nat.zero_add, c3_nil, List.nil_append] at hF7
              have HS : Hid (mapL page o q ms = (ms, false)) := mapL_same (by rw [E2.out]; simp [hq0])
              go_ret2
              first | rw [HS.out, HL.out] | (rw [hq0] at HS; rw [HS.out, HL.out])
              exact ⟨_, _, rfl, hF7.mono (by have := hx3.size; have := hb.size; omega), (hx3.trans hb).trans hE7⟩
            · by_cases hn20 : n = 20
              · subst hn20
                go_wp2_with (at_builtin; refine wpList_append_fr _ rfl _ _ 28 rfl wr.heap.size 76 i1 _ 3 24 Try.underlying28 ki kz0 kz1 kz2 rfl (by omega) _ 0 _ rfl hF0 _ 20 c _ rfl hR7 (one_c3 _) (by unfold maxLen; omega) (by omega) hbz ?_; intro A7 c7 w7 row hF7 hg7 hrow7; have hE7 : Ext wr w7 := ext_grown hy hg7 (fun k hk => (hrow7 k hk).1); have X2 : w7.cell? ⟨w2.heap.size, 2, none⟩ = some (.int .i64 q) := later_cell x2 ⟨w7, hb.trans hE7⟩; have G7 : w7.cell? ⟨bb, off + kk * 3, none⟩ = some (.int .i64 p) := later_cell g0 ⟨w7, hE7⟩)
                rw [Nat.zero_add, c3_nil, List.nil_append] at hF7
                have HS : Hid (mapL page o q ms = (ms, false)) := mapL_same (by rw [E2.out]; simp [HL.out])
                go_ret2
                first | rw [HS.out, HL.out] | (rw [hq0] at HS; rw [HS.out, HL.out])
                exact ⟨_, _, rfl, hF7.mono (by have := hx3.size; have := hb.size; omega), (hx3.trans hb).trans hE7⟩
              · have HS : Hid (mapL page o q ms = (ms.take (pAt page ms) ++ ([(page, o, q)] ++ ms.drop (pAt page ms)), true)) := mapL_more (by rw [E2.out, HL.out]; simp [hq0, hn20])
                have hqb : (q == 0) = false := by simpa using hq0
                have hnb : ((n : Int) == 20) = false := by rw [beq_eq_false_iff_ne]; omega
                go_upto_region 10 with (at_builtin; refine wpList_append_fr _ rfl _ _ 28 rfl wr.heap.size 76 i1 _ 3 24 Try.underlying28 ki kz0 kz1 kz2 rfl (by omega) _ 0 _ rfl hF0 _ n c _ rfl hR7 (one_c3 _) (by unfold maxLen; omega) (by omega) hbz ?_; intro A7 c7 w7 row hF7 hg7 hrow7; have hE7 : Ext wr w7 := ext_grown hy hg7 (fun k hk => (hrow7 k hk).1); have X2 : w7.cell? ⟨w2.heap.size, 2, none⟩ = some (.int .i64 q) := later_cell x2 ⟨w7, hb.trans hE7⟩; have G7 : w7.cell? ⟨bb, off + kk * 3, none⟩ = some (.int .i64 p) := later_cell g0 ⟨w7, hE7⟩)
                have hR77 : Rd w7 3 _ n c (c3 ms) := hRV.below (hb.trans hE7)
                have X0 : w7.cell? ⟨w2.heap.size, 0, none⟩ = some (.int .i64 page) := later_cell x0 ⟨w7, hb.trans hE7⟩
                have X1 : w7.cell? ⟨w2.heap.size, 1, none⟩ = some (.int .i64 o) := later_cell x1 ⟨w7, hb.trans hE7⟩
                have hS : ∀ w', Ext w7 w' → (Ext w7 w' ∧ w'.cell? ⟨w2.heap.size, 0, none⟩ = some (.int .i64 page) ∧ w'.cell? ⟨w2.heap.size, 1, none⟩ = some (.int .i64 o) ∧ w'.cell? ⟨w2.heap.size, 2, none⟩ = some (.int .i64 q)) := fun w' h => ⟨h, later_cell X0 ⟨w', h⟩, later_cell X1 ⟨w', h⟩, later_cell X2 ⟨w', h⟩⟩
                have hk1 : (0 : Int) ≤ (kk : Int) := Int.natCast_nonneg _
                have hk2 : (kk : Int) ≤ (n : Int) := by omega
                have hk3 : (kk : Int) ≤ (c : Int) := by omega
                have hk4 : (n : Int) ≤ (c : Int) := by omega
                have hk0 : kk ≤ n := by omega
                clear hF0 hR7 hF7 hg7 hrow7 hbz hy hRV
                refine wp_region_once2 (MPf w7 (some ⟨bb, off, none⟩) n c kk page o q ms) MPc (fun _ w' => Ext w7 w') (by kernel_rfl) (by kernel_rfl) (by rfl) ((Below.refl _ _).drew) (MPf_ext _ _ _ _ _ _ _ _ _) ?_ ?_
                · refine ⟨?_, ?_, ?_, ?_, ?_, ?_, ?_, ?_, ?_, ?_, ?_, ?_, ?_, ?_, trivial⟩
                  · intro t d a_ vs wt ht hI hdi hW hcl hD hA K hK
                    clear hA hD hW hcl
                    have hal : Ext wt (wt.alloc (.cells #[] 76)) := (Below.refl _ _).alloc (Nat.le_refl _) _
                    have hF : Fr (wt.alloc (.cells #[] 76)) w7.heap.size 76 3 (.slice (some ⟨wt.heap.size, 0, none⟩) 0 0) 0 (c3 []) := .inr (Row.lit (n := 0) #[] (by simp) (by unfold maxLen; omega) hI.size)
                    go_simp
                    exact hK _ _ ⟨_, rfl, hF⟩ (.inl hal) (hI.trans hal)
                  · intro t d a_ vs wt ht hI hdi hW hcl hD hA K hK
                    have a0 : a_.tmps[0]?.getD undef = Value.slice (some ⟨bb, off, none⟩) n c := hA 0
                    clear hA hD hW hcl
                    go_simp
                    exact hK _ _ rfl (.inl (Below.refl _ _)) hI
                  · intro t d a_ vs wt ht hI hdi hW hcl hD hA K hK
                    have a11 : a_.tmps[11]?.getD undef = Value.int .i64 (kk : Int) := hA 11
                    clear hA hD hW hcl
                    go_simp
                    exact hK _ _ rfl (.inl (Below.refl _ _)) hI
                  · intro t d a_ vs wt ht hI hdi hW hcl hD hA K hK
                    have d1 : vs 1 = Value.slice (some ⟨bb, off, none⟩) n c := hD 1 rfl (fun c h => by cases h)
                    have d2 : vs 2 = Value.int .i64 (kk : Int) := hD 2 rfl (fun c h => by cases h)
                    have a89 : a_.tmps[89]?.getD undef = vs 1 := hA 89
                    have a90 : a_.tmps[90]?.getD undef = vs 2 := hA 90
                    rw [d1] at a89
                    rw [d2] at a90
                    clear hA hD hW hcl
                    by_cases hc0 : c = 0
                    · subst hc0
                      obtain rfl : kk = 0 := by omega
                      go_simp
                      exact hK _ _ rfl (.inl (Below.refl _ _)) hI
                    · go_simp
                      exact hK _ _ rfl (.inl (Below.refl _ _)) hI
                  · intro t d a_ vs wt ht hI hdi hW hcl hD hA K hK
                    obtain ⟨b, e0, hF⟩ := hD 0 rfl (fun c h => by cases h; exact .inl rfl)
                    have d3 : vs 3 = Value.slice (some ⟨bb, off, none⟩) kk c := hD 3 rfl (fun c h => by cases h)
                    have a88 : a_.tmps[88]?.getD undef = vs 0 := hA 88
                    have a91 : a_.tmps[91]?.getD undef = vs 3 := hA 91
                    rw [e0] at a88 hF
                    rw [d3] at a91
                    have hT : Rd wt 3 (some ⟨bb, off, none⟩) kk c (c3 (ms.take kk)) := Rd.head3 (hR77.below hI) hk0
                    refine wp_append_empty (P := Try.prog) wt (.tmp 88) (.tmp 91) 28 rfl w7.heap.size 76 i1 _ 3 24 Try.underlying28 ki kz0 kz1 kz2 rfl (by omega) _ (by simpa [Act.eval] using a88) hF _ kk c _ (by simpa [Act.eval] using a91) hT (one_c3 _) (by unfold maxLen; omega) (by omega) hI.size ?_
                    intro A' c' w' hF' he
                    exact hK _ _ ⟨_, _, rfl, hF'⟩ (.inl he) (hI.trans he)
                  · intro t d a_ vs wt ht hI hdi hW hcl hD hA K hK
                    have a10 : a_.tmps[10]?.getD undef = Value.pointer (some ⟨w2.heap.size, 0, none⟩) := hA 10
                    obtain ⟨_, q0_, q1_, q2_⟩ := hS _ hI
                    clear hA hD hW hcl
                    go_simp
                    exact hK _ _ rfl (.inl (Below.refl _ _)) hI
                  · intro t d a_ vs wt ht hI hdi hW hcl hD hA K hK
                    have d5 : vs 5 = Value.agg #[.int .i64 page, .int .i64 o, .int .i64 q] := hD 5 rfl (fun c h => by cases h)
                    have a93 : a_.tmps[93]?.getD undef = vs 5 := hA 93
                    rw [d5] at a93
                    clear hA hD hW hcl
                    have hal : Ext wt (wt.alloc (.cells #[.int .i64 page, .int .i64 o, .int .i64 q] 76)) := (Below.refl _ _).alloc (Nat.le_refl _) _
                    have hRl : Rd (wt.alloc (.cells #[.int .i64 page, .int .i64 o, .int .i64 q] 76)) 3 (some ⟨wt.heap.size, 0, none⟩) 1 1 (c3 [(page, o, q)]) := Rd.lit (sz := 3) (n := 1) #[.int .i64 page, .int .i64 o, .int .i64 q] rfl (by omega)
                    go_simp
                    exact hK _ _ ⟨_, rfl, hRl⟩ (.inl hal) (hI.trans hal)
                  · intro t d a_ vs wt ht hI hdi hW hcl hD hA K hK
                    obtain ⟨A4, c4, e4, hF⟩ := hD 4 rfl (fun c h => by cases h; exact .inl rfl)
                    obtain ⟨b6, e6, hR6⟩ := hD 6 rfl (fun c h => by cases h; exact .inl rfl)
                    have a92 : a_.tmps[92]?.getD undef = vs 4 := hA 92
                    have a94 : a_.tmps[94]?.getD undef = vs 6 := hA 94
                    have w4 : d 4 = true := hW 4 rfl
                    rw [e4] at a92 hF
                    rw [e6] at a94
                    refine wp_append_fr (P := Try.prog) wt (.tmp 92) (.tmp 94) 28 rfl w7.heap.size 76 i1 _ 3 24 Try.underlying28 ki kz0 kz1 kz2 rfl (by omega) _ kk _ (by simpa [Act.eval] using a92) hF _ 1 1 _ (by simpa [Act.eval] using a94) hR6 (one_c3 _) (by unfold maxLen; omega) (by omega) hI.size ?_
                    intro A' c' w' row hF' hg' hr'
                    rw [← c3_append] at hF'
                    refine hK _ _ ⟨_, _, rfl, hF'⟩ (.inr fun k hk hdk hal hne hGk => ?_) (ext_grown hI hg' (fun k hk => (hr' k hk).1))
                    have hdi' : d 7 = false := hdi
                    rcases k with _ | _ | _ | _ | _ | _ | _ | _ | _ | _ | _ | _ | _ | k
                    · have := hal 4 rfl; rw [w4] at this; cases this
                    · exact hGk
                    · exact hGk
                    · exact hGk
                    · exact absurd rfl hne
                    · exact hGk
                    · exact absurd rfl hne
                    · have h6 : d 7 = true := hdk
                      rw [hdi'] at h6; cases h6
                    · exact hGk
                    · exact hGk
                    · exact hGk
                    · have h7 : d 7 = true := hcl 11 _ rfl hdk 7 rfl
                      rw [hdi'] at h7; cases h7
                    · have h11 : d 11 = true := hcl 12 _ rfl hdk 11 rfl
                      have h7 : d 7 = true := hcl 11 _ rfl h11 7 rfl
                      rw [hdi'] at h7; cases h7
                    · rcases k with _ | k <;> first | exact hGk | trivial
                  · intro t d a_ vs wt ht hI hdi hW hcl hD hA K hK
                    have a0 : a_.tmps[0]?.getD undef = Value.slice (some ⟨bb, off, none⟩) n c := hA 0
                    clear hA hD hW hcl
                    go_simp
                    exact hK _ _ rfl (.inl (Below.refl _ _)) hI
                  · intro t d a_ vs wt ht hI hdi hW hcl hD hA K hK
                    have a11 : a_.tmps[11]?.getD undef = Value.int .i64 (kk : Int) := hA 11
                    clear hA hD hW hcl
                    go_simp
                    exact hK _ _ rfl (.inl (Below.refl _ _)) hI
                  · intro t d a_ vs wt ht hI hdi hW hcl hD hA K hK
                    have d8 : vs 8 = Value.slice (some ⟨bb, off, none⟩) n c := hD 8 rfl (fun c h => by cases h)
                    have d9 : vs 9 = Value.int .i64 (kk : Int) := hD 9 rfl (fun c h => by cases h)
                    have a96 : a_.tmps[96]?.getD undef = vs 8 := hA 96
                    have a97 : a_.tmps[97]?.getD undef = vs 9 := hA 97
                    rw [d8] at a96
                    rw [d9] at a97
                    clear hA hD hW hcl
                    have cs : Try.prog.cellsOf 76 = 3 := by kernel_rfl
                    by_cases hck : c = kk
                    · have hz : kk = n := by omega
                      go_simp
                      have e0 : n - kk = 0 := by omega
                      have e0' : c - kk = 0 := by omega
                      refine hK _ _ ⟨_, 0, by rw [e0], fun w' _ => ?_⟩ (.inl (Below.refl _ _)) hI
                      have hE := RdE (w := w') (A := none) (c := c) HL.out (show n ≤ kk by omega) hle htop
                      exact ⟨hE.len, by omega, by omega, fun hp => absurd hp (by omega)⟩
                    · go_simp
                      refine hK _ _ ⟨_, _, rfl, fun w' he => ?_⟩ (.inl (Below.refl _ _)) hI
                      rcases Nat.lt_or_ge kk n with hlt2 | hge
                      · obtain ⟨bb2, of2, hA2, _⟩ := hR77.cells (by omega)
                        have hA3 := hA2
                        first
                          | subst hA3
                          | (simp only [Option.some.injEq, Addr.mk.injEq, and_true] at hA3; obtain ⟨rfl, rfl⟩ := hA3)
                        rw [c3_drop]
                        first | exact (hR77.below he).tail (by omega) | (rw [Option.map_some, Addr.add_lit]; exact (hR77.below he).tail (by omega))
                      · exact RdE HL.out (by omega) hle htop
                  · intro t d a_ vs wt ht hI hdi hW hcl hD hA K hK
                    obtain ⟨A7', c7', e7, hF⟩ := hD 7 rfl (fun c h => by cases h; exact .inl rfl)
                    obtain ⟨A10, c10, e10, hR10⟩ := hD 10 rfl (fun c h => by cases h)
                    have a95 : a_.tmps[95]?.getD undef = vs 7 := hA 95
                    have a98 : a_.tmps[98]?.getD undef = vs 10 := hA 98
                    have w7' : d 7 = true := hW 7 rfl
                    rw [e7] at a95 hF
                    rw [e10] at a98
                    refine wp_append_fr (P := Try.prog) wt (.tmp 95) (.tmp 98) 28 rfl w7.heap.size 76 i1 _ 3 24 Try.underlying28 ki kz0 kz1 kz2 rfl (by omega) _ (kk + 1) _ (by simpa [Act.eval] using a95) hF _ (n - kk) c10 _ (by simpa [Act.eval] using a98) (hR10 _ hI) (one_c3 _) (by unfold maxLen; omega) (by omega) hI.size ?_
                    intro A' c' w' row hF' hg' hr'
                    rw [← c3_append] at hF'
                    refine hK _ _ ⟨_, _, rfl, hF'⟩ (.inr fun k hk hdk hal hne hGk => ?_) (ext_grown hI hg' (fun k hk => (hr' k hk).1))
                    have hdi' : d 11 = false := hdi
                    have w4 : d 4 = true := hcl 7 _ rfl w7' 4 rfl
                    rcases k with _ | _ | _ | _ | _ | _ | _ | _ | _ | _ | _ | _ | _ | k
                    · have := hal 4 rfl; rw [w4] at this; cases this
                    · exact hGk
                    · exact hGk
                    · exact hGk
                    · have := hal 7 rfl; rw [w7'] at this; cases this
                    · exact hGk
                    · have := hal 7 rfl; rw [w7'] at this; cases this
                    · exact absurd rfl hne
                    · exact hGk
                    · exact hGk
                    · exact hGk
                    · have h11 : d 11 = true := hdk
                      rw [hdi'] at h11; cases h11
                    · have h11 : d 11 = true := hcl 12 _ rfl hdk 11 rfl
                      rw [hdi'] at h11; cases h11
                    · rcases k with _ | k <;> first | exact hGk | trivial
                  · intro t d a_ vs wt ht hI hdi hW hcl hD hA K hK
                    have d11 := hD 11 rfl (fun c h => by cases h)
                    have a99 : a_.tmps[99]?.getD undef = vs 11 := hA 99
                    clear hA hD hW hcl
                    go_simp
                    exact hK _ _ d11 (.inl (Below.refl _ _)) hI
                  · intro t d a_ vs wt ht hI hdi hW hcl hD hA K hK
                    clear hA hD hW hcl
                    go_simp
                    exact hK _ _ rfl (.inl (Below.refl _ _)) hI
                · intro t vs wz ht hI hF
                  obtain ⟨f0, f1, f2, f3, f4, f5, f6, f7, f8, f9, f10, f11, f12, f13, -⟩ := hF
                  obtain ⟨Az, cz, ez, hFz⟩ := f12 rfl
                  rw [ez] at hFz
                  have e13 : vs 13 = Value.bool true := f13 rfl
                  simp only [putAll, Act.put, List.setIfInBounds_toArray, List.set_cons_zero, List.set_cons_succ]
                  rw [ez, e13]
                  go_wp2
                  go_ret2
                  rw [HS.out]
                  have EL : (ms.take (pAt page ms) ++ ([(page, o, q)] ++ ms.drop (pAt page ms))).length = kk + 1 + (n - kk) := by rw [E1.out]; simp [HL.out]; omega
                  have EC : c3 (ms.take (pAt page ms) ++ ([(page, o, q)] ++ ms.drop (pAt page ms))) = c3 (ms.take kk ++ [(page, o, q)] ++ ms.drop kk) := by rw [E1.out, List.append_assoc]
                  rw [EL, EC]
                  exact ⟨_, _, rfl, hFz.mono (by have := hx3.size; have := hb.size; have := hE7.size; omega), (hx3.trans hb).trans (hE7.trans hI)⟩
      · have hdk : decide (kk < n) = false := by simpa using hlt
        have e0 : ms.drop kk = [] := drop_all HL.out (by omega)
        have e1 : pAt page ms = kk := by rw [pAt_drop page ms kk H.out, e0, pAt]; omega
        have E2 : Hid (pThere page ms = false) := by unfold pThere; rw [e1, List.getElem?_eq_none (by have := HL.out; omega)]; exact Lib.hid rfl
        have E1 := Lib.hid e1
        clear H e0 e1
        have hy : Ext wr (wr.alloc (.cells #[] 76)) := (Below.refl _ _).alloc (Nat.le_refl _) _
        have hF0 : Fr (wr.alloc (.cells #[] 76)) wr.heap.size 76 3 (.slice (some ⟨wr.heap.size, 0, none⟩) 0 0) 0 (c3 []) := .inr (Row.lit (n := 0) #[] (by simp) (by unfold maxLen; omega) (Nat.le_refl _))
        have hR7 := (hRV.below hb).below hy
        have hbz := hy.size
        by_cases hq0 : q = 0
        · go_wp2_with (at_builtin; refine wpList_append_fr _ rfl _ _ 28 rfl wr.heap.size 76 i1 _ 3 24 Try.underlying28 ki kz0 kz1 kz2 rfl (by omega) _ 0 _ rfl hF0 _ n c _ rfl hR7 (one_c3 _) (by unfold maxLen; omega) (by omega) hbz ?_; intro A7 c7 w7 row hF7 hg7 hrow7; have hE7 : Ext wr w7 := ext_grown hy hg7 (fun k hk => (hrow7 k hk).1); have X2 : w7.cell? ⟨w2.heap.size, 2, none⟩ = some (.int .i64 q) := later_cell x2 ⟨w7, hb.trans hE7⟩)
          rw [Nat.zero_add, c3_nil, List.nil_append] at hF7
          have HS : Hid (mapL page o q ms = (ms, false)) := mapL_same (by rw [E2.out]; simp [hq0])
          go_ret2
          first | rw [HS.out, HL.out] | (rw [hq0] at HS; rw [HS.out, HL.out])
          exact ⟨_, _, rfl, hF7.mono (by have := hx3.size; have := hb.size; omega), (hx3.trans hb).trans hE7⟩
        · by_cases hn20 : n = 20
          · subst hn20
            go_wp2_with (at_builtin; refine wpList_append_fr _ rfl _ _ 28 rfl wr.heap.size 76 i1 _ 3 24 Try.underlying28 ki kz0 kz1 kz2 rfl (by omega) _ 0 _ rfl hF0 _ 20 c _ rfl hR7 (one_c3 _) (by unfold maxLen; omega) (by omega) hbz ?_; intro A7 c7 w7 row hF7 hg7 hrow7; have hE7 : Ext wr w7 := ext_grown hy hg7 (fun k hk => (hrow7 k hk).1); have X2 : w7.cell? ⟨w2.heap.size, 2, none⟩ = some (.int .i64 q) := later_cell x2 ⟨w7, hb.trans hE7⟩)
            rw [Nat.zero_add, c3_nil, List.nil_append] at hF7
            have HS : Hid (mapL page o q ms = (ms, false)) := mapL_same (by rw [E2.out]; simp [HL.out])
            go_ret2
            first | rw [HS.out, HL.out] | (rw [hq0] at HS; rw [HS.out, HL.out])
            exact ⟨_, _, rfl, hF7.mono (by have := hx3.size; have := hb.size; omega), (hx3.trans hb).trans hE7⟩
          · have HS : Hid (mapL page o q ms = (ms.take (pAt page ms) ++ ([(page, o, q)] ++ ms.drop (pAt page ms)), true)) := mapL_more (by rw [E2.out, HL.out]; simp [hq0, hn20])
            have hqb : (q == 0) = false := by simpa using hq0
            have hnb : ((n : Int) == 20) = false := by rw [beq_eq_false_iff_ne]; omega
            go_upto_region 10 with (at_builtin; refine wpList_append_fr _ rfl _ _ 28 rfl wr.heap.size 76 i1 _ 3 24 Try.underlying28 ki kz0 kz1 kz2 rfl (by omega) _ 0 _ rfl hF0 _ n c _ rfl hR7 (one_c3 _) (by unfold maxLen; omega) (by omega) hbz ?_; intro A7 c7 w7 row hF7 hg7 hrow7; have hE7 : Ext wr w7 := ext_grown hy hg7 (fun k hk => (hrow7 k hk).1); have X2 : w7.cell? ⟨w2.heap.size, 2, none⟩ = some (.int .i64 q) := later_cell x2 ⟨w7, hb.trans hE7⟩)
            have hR77 : Rd w7 3 _ n c (c3 ms) := hRV.below (hb.trans hE7)
            have X0 : w7.cell? ⟨w2.heap.size, 0, none⟩ = some (.int .i64 page) := later_cell x0 ⟨w7, hb.trans hE7⟩
            have X1 : w7.cell? ⟨w2.heap.size, 1, none⟩ = some (.int .i64 o) := later_cell x1 ⟨w7, hb.trans hE7⟩
            have hS : ∀ w', Ext w7 w' → (Ext w7 w' ∧ w'.cell? ⟨w2.heap.size, 0, none⟩ = some (.int .i64 page) ∧ w'.cell? ⟨w2.heap.size, 1, none⟩ = some (.int .i64 o) ∧ w'.cell? ⟨w2.heap.size, 2, none⟩ = some (.int .i64 q)) := fun w' h => ⟨h, later_cell X0 ⟨w', h⟩, later_cell X1 ⟨w', h⟩, later_cell X2 ⟨w', h⟩⟩
            have hk1 : (0 : Int) ≤ (kk : Int) := Int.natCast_nonneg _
            have hk2 : (kk : Int) ≤ (n : Int) := by omega
            have hk3 : (kk : Int) ≤ (c : Int) := by omega
            have hk4 : (n : Int) ≤ (c : Int) := by omega
            have hk0 : kk ≤ n := by omega
            clear hF0 hR7 hF7 hg7 hrow7 hbz hy hRV
            refine wp_region_once2 (MPf w7 (A) n c kk page o q ms) MPc (fun _ w' => Ext w7 w') (by kernel_rfl) (by kernel_rfl) (by rfl) ((Below.refl _ _).drew) (MPf_ext _ _ _ _ _ _ _ _ _) ?_ ?_
            · refine ⟨?_, ?_, ?_, ?_, ?_, ?_, ?_, ?_, ?_, ?_, ?_, ?_, ?_, ?_, trivial⟩
              · intro t d a_ vs wt ht hI hdi hW hcl hD hA K hK
                clear hA hD hW hcl
                have hal : Ext wt (wt.alloc (.cells #[] 76)) := (Below.refl _ _).alloc (Nat.le_refl _) _
                have hF : Fr (wt.alloc (.cells #[] 76)) w7.heap.size 76 3 (.slice (some ⟨wt.heap.size, 0, none⟩) 0 0) 0 (c3 []) := .inr (Row.lit (n := 0) #[] (by simp) (by unfold maxLen; omega) hI.size)
                go_simp
                exact hK _ _ ⟨_, rfl, hF⟩ (.inl hal) (hI.trans hal)
              · intro t d a_ vs wt ht hI hdi hW hcl hD hA K hK
                have a0 : a_.tmps[0]?.getD undef = Value.slice (A) n c := hA 0
                clear hA hD hW hcl
                go_simp
                exact hK _ _ rfl (.inl (Below.refl _ _)) hI
              · intro t d a_ vs wt ht hI hdi hW hcl hD hA K hK
                have a11 : a_.tmps[11]?.getD undef = Value.int .i64 (kk : Int) := hA 11
                clear hA hD hW hcl
                go_simp
                exact hK _ _ rfl (.inl (Below.refl _ _)) hI
              · intro t d a_ vs wt ht hI hdi hW hcl hD hA K hK
                have d1 : vs 1 = Value.slice (A) n c := hD 1 rfl (fun c h => by cases h)
                have d2 : vs 2 = Value.int .i64 (kk : Int) := hD 2 rfl (fun c h => by cases h)
                have a89 : a_.tmps[89]?.getD undef = vs 1 := hA 89
                have a90 : a_.tmps[90]?.getD undef = vs 2 := hA 90
                rw [d1] at a89
                rw [d2] at a90
                clear hA hD hW hcl
                by_cases hc0 : c = 0
                · subst hc0
                  obtain rfl : kk = 0 := by omega
                  go_simp
                  exact hK _ _ rfl (.inl (Below.refl _ _)) hI
                · go_simp
                  exact hK _ _ rfl (.inl (Below.refl _ _)) hI
              · intro t d a_ vs wt ht hI hdi hW hcl hD hA K hK
                obtain ⟨b, e0, hF⟩ := hD 0 rfl (fun c h => by cases h; exact .inl rfl)
                have d3 : vs 3 = Value.slice (A) kk c := hD 3 rfl (fun c h => by cases h)
                have a88 : a_.tmps[88]?.getD undef = vs 0 := hA 88
                have a91 : a_.tmps[91]?.getD undef = vs 3 := hA 91
                rw [e0] at a88 hF
                rw [d3] at a91
                have hT : Rd wt 3 (A) kk c (c3 (ms.take kk)) := Rd.head3 (hR77.below hI) hk0
                refine wp_append_empty (P := Try.prog) wt (.tmp 88) (.tmp 91) 28 rfl w7.heap.size 76 i1 _ 3 24 Try.underlying28 ki kz0 kz1 kz2 rfl (by omega) _ (by simpa [Act.eval] using a88) hF _ kk c _ (by simpa [Act.eval] using a91) hT (one_c3 _) (by unfold maxLen; omega) (by omega) hI.size ?_
                intro A' c' w' hF' he
                exact hK _ _ ⟨_, _, rfl, hF'⟩ (.inl he) (hI.trans he)
              · intro t d a_ vs wt ht hI hdi hW hcl hD hA K hK
                have a10 : a_.tmps[10]?.getD undef = Value.pointer (some ⟨w2.heap.size, 0, none⟩) := hA 10
                obtain ⟨_, q0_, q1_, q2_⟩ := hS _ hI
                clear hA hD hW hcl
                go_simp
                exact hK _ _ rfl (.inl (Below.refl _ _)) hI
              · intro t d a_ vs wt ht hI hdi hW hcl hD hA K hK
                have d5 : vs 5 = Value.agg #[.int .i64 page, .int .i64 o, .int .i64 q] := hD 5 rfl (fun c h => by cases h)
                have a93 : a_.tmps[93]?.getD undef = vs 5 := hA 93
                rw [d5] at a93
                clear hA hD hW hcl
                have hal : Ext wt (wt.alloc (.cells #[.int .i64 page, .int .i64 o, .int .i64 q] 76)) := (Below.refl _ _).alloc (Nat.le_refl _) _
                have hRl : Rd (wt.alloc (.cells #[.int .i64 page, .int .i64 o, .int .i64 q] 76)) 3 (some ⟨wt.heap.size, 0, none⟩) 1 1 (c3 [(page, o, q)]) := Rd.lit (sz := 3) (n := 1) #[.int .i64 page, .int .i64 o, .int .i64 q] rfl (by omega)
                go_simp
                exact hK _ _ ⟨_, rfl, hRl⟩ (.inl hal) (hI.trans hal)
              · intro t d a_ vs wt ht hI hdi hW hcl hD hA K hK
                obtain ⟨A4, c4, e4, hF⟩ := hD 4 rfl (fun c h => by cases h; exact .inl rfl)
                obtain ⟨b6, e6, hR6⟩ := hD 6 rfl (fun c h => by cases h; exact .inl rfl)
                have a92 : a_.tmps[92]?.getD undef = vs 4 := hA 92
                have a94 : a_.tmps[94]?.getD undef = vs 6 := hA 94
                have w4 : d 4 = true := hW 4 rfl
                rw [e4] at a92 hF
                rw [e6] at a94
                refine wp_append_fr (P := Try.prog) wt (.tmp 92) (.tmp 94) 28 rfl w7.heap.size 76 i1 _ 3 24 Try.underlying28 ki kz0 kz1 kz2 rfl (by omega) _ kk _ (by simpa [Act.eval] using a92) hF _ 1 1 _ (by simpa [Act.eval] using a94) hR6 (one_c3 _) (by unfold maxLen; omega) (by omega) hI.size ?_
                intro A' c' w' row hF' hg' hr'
                rw [← c3_append] at hF'
                refine hK _ _ ⟨_, _, rfl, hF'⟩ (.inr fun k hk hdk hal hne hGk => ?_) (ext_grown hI hg' (fun k hk => (hr' k hk).1))
                have hdi' : d 7 = false := hdi
                rcases k with _ | _ | _ | _ | _ | _ | _ | _ | _ | _ | _ | _ | _ | k
                · have := hal 4 rfl; rw [w4] at this; cases this
                · exact hGk
                · exact hGk
                · exact hGk
                · exact absurd rfl hne
                · exact hGk
                · exact absurd rfl hne
                · have h6 : d 7 = true := hdk
                  rw [hdi'] at h6; cases h6
                · exact hGk
                · exact hGk
                · exact hGk
                · have h7 : d 7 = true := hcl 11 _ rfl hdk 7 rfl
                  rw [hdi'] at h7; cases h7
                · have h11 : d 11 = true := hcl 12 _ rfl hdk 11 rfl
                  have h7 : d 7 = true := hcl 11 _ rfl h11 7 rfl
                  rw [hdi'] at h7; cases h7
                · rcases k with _ | k <;> first | exact hGk | trivial
              · intro t d a_ vs wt ht hI hdi hW hcl hD hA K hK
                have a0 : a_.tmps[0]?.getD undef = Value.slice (A) n c := hA 0
                clear hA hD hW hcl
                go_simp
                exact hK _ _ rfl (.inl (Below.refl _ _)) hI
              · intro t d a_ vs wt ht hI hdi hW hcl hD hA K hK
                have a11 : a_.tmps[11]?.getD undef = Value.int .i64 (kk : Int) := hA 11
                clear hA hD hW hcl
                go_simp
                exact hK _ _ rfl (.inl (Below.refl _ _)) hI
              · intro t d a_ vs wt ht hI hdi hW hcl hD hA K hK
                have d8 : vs 8 = Value.slice (A) n c := hD 8 rfl (fun c h => by cases h)
                have d9 : vs 9 = Value.int .i64 (kk : Int) := hD 9 rfl (fun c h => by cases h)
                have a96 : a_.tmps[96]?.getD undef = vs 8 := hA 96
                have a97 : a_.tmps[97]?.getD undef = vs 9 := hA 97
                rw [d8] at a96
                rw [d9] at a97
                clear hA hD hW hcl
                have cs : Try.prog.cellsOf 76 = 3 := by kernel_rfl
                by_cases hck : c = kk
                · have hz : kk = n := by omega
                  go_simp
                  have e0 : n - kk = 0 := by omega
                  have e0' : c - kk = 0 := by omega
                  refine hK _ _ ⟨_, 0, by rw [e0], fun w' _ => ?_⟩ (.inl (Below.refl _ _)) hI
                  have hE := RdE (w := w') (A := none) (c := c) HL.out (show n ≤ kk by omega) hle htop
                  exact ⟨hE.len, by omega, by omega, fun hp => absurd hp (by omega)⟩
                · go_simp
                  refine hK _ _ ⟨_, _, rfl, fun w' he => ?_⟩ (.inl (Below.refl _ _)) hI
                  rcases Nat.lt_or_ge kk n with hlt2 | hge
                  · obtain ⟨bb2, of2, hA2, _⟩ := hR77.cells (by omega)
                    have hA3 := hA2
                    first
                      | subst hA3
                      | (simp only [Option.some.injEq, Addr.mk.injEq, and_true] at hA3; obtain ⟨rfl, rfl⟩ := hA3)
                    rw [c3_drop]
                    first | exact (hR77.below he).tail (by omega) | (rw [Option.map_some, Addr.add_lit]; exact (hR77.below he).tail (by omega))
                  · exact RdE HL.out (by omega) hle htop
              · intro t d a_ vs wt ht hI hdi hW hcl hD hA K hK
                obtain ⟨A7', c7', e7, hF⟩ := hD 7 rfl (fun c h => by cases h; exact .inl rfl)
                obtain ⟨A10, c10, e10, hR10⟩ := hD 10 rfl (fun c h => by cases h)
                have a95 : a_.tmps[95]?.getD undef = vs 7 := hA 95
                have a98 : a_.tmps[98]?.getD undef = vs 10 := hA 98
                have w7' : d 7 = true := hW 7 rfl
                rw [e7] at a95 hF
                rw [e10] at a98
                refine wp_append_fr (P := Try.prog) wt (.tmp 95) (.tmp 98) 28 rfl w7.heap.size 76 i1 _ 3 24 Try.underlying28 ki kz0 kz1 kz2 rfl (by omega) _ (kk + 1) _ (by simpa [Act.eval] using a95) hF _ (n - kk) c10 _ (by simpa [Act.eval] using a98) (hR10 _ hI) (one_c3 _) (by unfold maxLen; omega) (by omega) hI.size ?_
                intro A' c' w' row hF' hg' hr'
                rw [← c3_append] at hF'
                refine hK _ _ ⟨_, _, rfl, hF'⟩ (.inr fun k hk hdk hal hne hGk => ?_) (ext_grown hI hg' (fun k hk => (hr' k hk).1))
                have hdi' : d 11 = false := hdi
                have w4 : d 4 = true := hcl 7 _ rfl w7' 4 rfl
                rcases k with _ | _ | _ | _ | _ | _ | _ | _ | _ | _ | _ | _ | _ | k
                · have := hal 4 rfl; rw [w4] at this; cases this
                · exact hGk
                · exact hGk
                · exact hGk
                · have := hal 7 rfl; rw [w7'] at this; cases this
                · exact hGk
                · have := hal 7 rfl; rw [w7'] at this; cases this
                · exact absurd rfl hne
                · exact hGk
                · exact hGk
                · exact hGk
                · have h11 : d 11 = true := hdk
                  rw [hdi'] at h11; cases h11
                · have h11 : d 11 = true := hcl 12 _ rfl hdk 11 rfl
                  rw [hdi'] at h11; cases h11
                · rcases k with _ | k <;> first | exact hGk | trivial
              · intro t d a_ vs wt ht hI hdi hW hcl hD hA K hK
                have d11 := hD 11 rfl (fun c h => by cases h)
                have a99 : a_.tmps[99]?.getD undef = vs 11 := hA 99
                clear hA hD hW hcl
                go_simp
                exact hK _ _ d11 (.inl (Below.refl _ _)) hI
              · intro t d a_ vs wt ht hI hdi hW hcl hD hA K hK
                clear hA hD hW hcl
                go_simp
                exact hK _ _ rfl (.inl (Below.refl _ _)) hI
            · intro t vs wz ht hI hF
              obtain ⟨f0, f1, f2, f3, f4, f5, f6, f7, f8, f9, f10, f11, f12, f13, -⟩ := hF
              obtain ⟨Az, cz, ez, hFz⟩ := f12 rfl
              rw [ez] at hFz
              have e13 : vs 13 = Value.bool true := f13 rfl
              simp only [putAll, Act.put, List.setIfInBounds_toArray, List.set_cons_zero, List.set_cons_succ]
              rw [ez, e13]
              go_wp2
              go_ret2
              rw [HS.out]
              have EL : (ms.take (pAt page ms) ++ ([(page, o, q)] ++ ms.drop (pAt page ms))).length = kk + 1 + (n - kk) := by rw [E1.out]; simp [HL.out]; omega
              have EC : c3 (ms.take (pAt page ms) ++ ([(page, o, q)] ++ ms.drop (pAt page ms))) = c3 (ms.take kk ++ [(page, o, q)] ++ ms.drop kk) := by rw [E1.out, List.append_assoc]
              rw [EL, EC]
              exact ⟨_, _, rfl, hFz.mono (by have := hx3.size; have := hb.size; have := hE7.size; omega), (hx3.trans hb).trans (hE7.trans hI)⟩
end Go.Proofs.Yteahiiflgiimnaa
