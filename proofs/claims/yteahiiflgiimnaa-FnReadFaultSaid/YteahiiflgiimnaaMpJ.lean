/-
  MapPage, the program's; RightsWithin.
-/
import Derived.Test.YteahiiflgiimnaaMpL
import Derived.Test.YteahiiflgiimnaaInsMp
import Derived.Test.YteahiiflgiimnaaOnce2
import Derived.Deep.Cut
namespace Go.Proofs.Yteahiiflgiimnaa
open Go.RowKit

theorem and_assoc_all : ∀ a b : Fin 16, bits .and .i64 ((a : Nat) : Int) (bits .and .i64 ((b : Nat) : Int) 3) = bits .and .i64 (bits .and .i64 ((a : Nat) : Int) ((b : Nat) : Int)) 3 := by decide +kernel
theorem and_assoc3 {a b : Int} (ha : 0 ≤ a ∧ a ≤ 15) (hb : 0 ≤ b ∧ b ≤ 15) : bits .and .i64 a (bits .and .i64 b 3) = bits .and .i64 (bits .and .i64 a b) 3 := by
  have h := and_assoc_all ⟨a.toNat, by omega⟩ ⟨b.toNat, by omega⟩
  simp only [Int.toNat_of_nonneg ha.1, Int.toNat_of_nonneg hb.1] at h
  exact h
theorem first_ne {page : Int} {ms : List Mp} (h : pThere page ms = false) {m : Mp} (hm : ms[0]? = some m) : m.1 ≠ page := by
  cases ms with
  | nil => simp at hm
  | cons x r =>
    simp at hm; subst hm
    intro e
    rw [pThere_cons, if_neg (by omega)] at h
    simp [e] at h

/-- What is known of the values of the statement that puts a mapping in. -/
def MJf (W : World) (A : Option Addr) (n c kk p : Nat) (page o q : Int) (ms : List Mp) : Nat → Value → World → Prop
  | 0, v, _ => v = .slice A n c
  | 1, v, w => ∃ A c, v = .slice A n c ∧ Fr w W.heap.size 76 3 v n (c3 ms)
  | 2, v, _ => v = .int .i64 (kk : Int)
  | 3, v, _ => v = .int .i64 page
  | 4, v, _ => v = .pointer (some ⟨p, 1, none⟩)
  | 5, v, _ => v = .int .i64 o
  | 6, v, _ => v = .int .i64 q
  | 7, v, _ => v = .agg #[.int .i64 page, .int .i64 o, .int .i64 q]
  | 8, v, w => ∃ b, v = .slice (some ⟨b, 0, none⟩) 1 1 ∧ Row w W.heap.size 76 3 v 1 (c3 [(page, o, q)])
  | 9, v, w => ∃ A c, v = .slice A (n + 1) c ∧ Fr w W.heap.size 76 3 v (n + 1) (c3 (insL (page, o, q) ms))
  | 10, v, w => ∃ A c, v = .slice A (n + 1) c ∧ Fr w W.heap.size 76 3 v (n + 1) (c3 (insL (page, o, q) ms))
  | 11, v, w => ∃ A c, v = .slice A (n + 1) c ∧ Fr w W.heap.size 76 3 v (n + 1) (c3 (insL (page, o, q) ms))
  | 12, v, _ => v = .bool true
  | _, _, _ => True
def MJc : Nat → Option Nat
  | 1 => some 9 | 8 => some 9 | _ => none
theorem MJf_ext (W : World) (A : Option Addr) (n c kk p : Nat) (page o q : Int) (ms : List Mp) : ∀ k v w w', Ext w w' → MJf W A n c kk p page o q ms k v w → MJf W A n c kk p page o q ms k v w' := by
  intro k v w w' he h
  rcases k with _ | _ | _ | _ | _ | _ | _ | _ | _ | _ | _ | _ | _ | k
  · exact h
  · obtain ⟨A, c, h1, h2⟩ := h; exact ⟨A, c, h1, h2.below he⟩
  · exact h
  · exact h
  · exact h
  · exact h
  · exact h
  · exact h
  · obtain ⟨b, h1, h2⟩ := h; exact ⟨b, h1, h2.below he⟩
  · obtain ⟨A, c, h1, h2⟩ := h; exact ⟨A, c, h1, h2.below he⟩
  · obtain ⟨A, c, h1, h2⟩ := h; exact ⟨A, c, h1, h2.below he⟩
  · obtain ⟨A, c, h1, h2⟩ := h; exact ⟨A, c, h1, h2.below he⟩
  · exact h
  · trivial

set_option maxRecDepth 100000 in
set_option maxHeartbeats 4000000 in
theorem mapped_any (A : Option Addr) (n c : Nat) (ms : List Mp) (page k o r b rights q : Int) (w : World) (h : Rd w 3 A n c (c3 ms)) (hn : n ≤ 1048575) (hr : 0 ≤ r ∧ r ≤ 15) (hu : 0 ≤ rights ∧ rights ≤ 15) (hq : bits .and .i64 (bits .and .i64 rights r) 3 = q) :
    Calls Try.prog 55 #[.slice A n c, .int .i64 page, .agg #[.int .i64 k, .int .i64 o, .int .i64 r, .int .i64 b], .int .i64 rights] w fun e w' => ∃ A' c', e = .returned (.tuple #[.slice A' (mapL page o q ms).1.length c', .bool (mapL page o q ms).2]) ∧
      Fr w' w.heap.size 76 3 (.slice A' (mapL page o q ms).1.length c') (mapL page o q ms).1.length (c3 (mapL page o q ms).1) ∧ Ext w w' := by
  have hb0 : Ext w (w.alloc (.cells #[.int .i64 k, .int .i64 o, .int .i64 r, .int .i64 b] 34)) := (Below.refl _ _).alloc (Nat.le_refl _) _
  have c1 : (w.alloc (.cells #[.int .i64 k, .int .i64 o, .int .i64 r, .int .i64 b] 34)).cell? ⟨w.heap.size, 1, none⟩ = some (.int .i64 o) := by rw [World.cell?_alloc_new]; rfl
  have c2 : (w.alloc (.cells #[.int .i64 k, .int .i64 o, .int .i64 r, .int .i64 b] 34)).cell? ⟨w.heap.size, 2, none⟩ = some (.int .i64 r) := by rw [World.cell?_alloc_new]; rfl
  have hR := h.below hb0
  have hq' : bits .and .i64 rights (bits .and .i64 r 3) = q := by rw [and_assoc3 hu hr]; exact hq
  have HL := Lib.hid h.len3
  obtain ⟨t, ht⟩ : ∃ t, pThere page ms = t := ⟨_, rfl⟩
  have HT := Lib.hid ht
  have hal := pAt_le page ms
  rw [HL.out] at hal
  obtain ⟨kk, hkk⟩ : ∃ kk, pAt page ms = kk := ⟨_, rfl⟩
  have HK := Lib.hid hkk
  rw [hkk] at hal
  clear h ht hkk hq
  go_enter Try.func55, Try.ntmps55
  go_wp2_with fail
  refine (pageAt_any _ _ _ _ _ _ hR).mono ?_; rintro e w1 ⟨rfl, hb1⟩; rw [HT.out, HK.out]
  have hR1 := hR.below hb1
  have d1 : w1.cell? ⟨w.heap.size, 1, none⟩ = some (.int .i64 o) := later_cell c1 ⟨w1, hb1⟩
  have d2 : w1.cell? ⟨w.heap.size, 2, none⟩ = some (.int .i64 r) := later_cell c2 ⟨w1, hb1⟩
  have hbb := hb0.trans hb1
  clear hR c1 c2 hb0 hb1
  cases t
  · by_cases hq0 : q = 0
    · have HS : Hid (mapL page o 0 ms = (ms, false)) := mapL_same (by simp)
      subst hq0
      go_wp2_with fail
      refine (cloneMp_any _ _ _ _ _ hR1 (one_c3 _) (by omega)).mono ?_; rintro e w2 ⟨A2, c2', rfl, f2, hb2⟩
      go_wp2
      go_ret2
      rw [HS.out, HL.out]
      exact ⟨_, _, rfl, f2.mono hbb.size, hbb.trans hb2⟩
    · have hqb : (q == 0) = false := by simpa using hq0
      by_cases hn20 : n = 20
      · subst hn20
        have HS : Hid (mapL page o q ms = (ms, false)) := mapL_same (by rw [HL.out]; simp)
        go_wp2_with fail
        refine (cloneMp_any _ _ _ _ _ hR1 (one_c3 _) (by omega)).mono ?_; rintro e w2 ⟨A2, c2', rfl, f2, hb2⟩
        go_wp2
        go_ret2
        rw [HS.out, HL.out]
        exact ⟨_, _, rfl, f2.mono hbb.size, hbb.trans hb2⟩
      · have HS : Hid (mapL page o q ms = (insL (page, o, q) ms, true)) := mapL_ins (by rw [HT.out, HL.out]; simp [hq0, hn20])
        have hnb : ((n : Int) == 20) = false := by rw [beq_eq_false_iff_ne]; omega
        have EI := Lib.hid (insL_eq (page, o, q) ms)
        have EL := Lib.hid (insL_len (page, o, q) ms)
        go_upto_region 5 with fail
        refine wp_region_once2 (MJf w1 A n c kk w.heap.size page o q ms) MJc (fun _ w' => Ext w1 w') (by kernel_rfl) (by kernel_rfl) (by rfl) ((Below.refl _ _).drew) (MJf_ext _ _ _ _ _ _ _ _ _ _) ?_ ?_
        · refine ⟨?_, ?_, ?_, ?_, ?_, ?_, ?_, ?_, ?_, ?_, ?_, ?_, ?_, trivial⟩
          · intro t d a_ vs wt ht hI hdi hW hcl hD hA K hK
            have a0 : a_.tmps[0]?.getD undef = Value.slice A n c := hA 0
            clear hA hD hW hcl
            go_simp
            exact hK _ _ rfl (.inl (Below.refl _ _)) hI
          · intro t d a_ vs wt ht hI hdi hW hcl hD hA K hK
            have d0 : vs 0 = Value.slice A n c := hD 0 rfl (fun c h => by cases h)
            have a35 : a_.tmps[35]?.getD undef = vs 0 := hA 35
            rw [d0] at a35
            clear hA hD hW hcl
            go_simp
            refine (CloneMp_any _ _ _ _ _ (hR1.below hI) (one_c3 _) (by omega)).mono ?_; rintro e w2 ⟨A2, c2', rfl, f2, hb2⟩
            exact hK _ _ ⟨_, _, rfl, f2.mono hI.size⟩ (.inl hb2) (hI.trans hb2)
          · intro t d a_ vs wt ht hI hdi hW hcl hD hA K hK
            have a10 : a_.tmps[10]?.getD undef = Value.int .i64 (kk : Int) := hA 10
            clear hA hD hW hcl
            go_simp
            exact hK _ _ rfl (.inl (Below.refl _ _)) hI
          · intro t d a_ vs wt ht hI hdi hW hcl hD hA K hK
            have a1 : a_.tmps[1]?.getD undef = Value.int .i64 page := hA 1
            clear hA hD hW hcl
            go_simp
            exact hK _ _ rfl (.inl (Below.refl _ _)) hI
          · intro t d a_ vs wt ht hI hdi hW hcl hD hA K hK
            have a6 : a_.tmps[6]?.getD undef = Value.pointer (some ⟨w.heap.size, 0, none⟩) := hA 6
            have q1_ : wt.cell? ⟨w.heap.size, 1, none⟩ = some (.int .i64 o) := later_cell d1 ⟨wt, hI⟩
            clear hA hD hW hcl
            go_simp
            exact hK _ _ rfl (.inl (Below.refl _ _)) hI
          · intro t d a_ vs wt ht hI hdi hW hcl hD hA K hK
            have e4 : vs 4 = Value.pointer (some ⟨w.heap.size, 1, none⟩) := hD 4 rfl (fun c h => by cases h)
            have a39 : a_.tmps[39]?.getD undef = vs 4 := hA 39
            rw [e4] at a39
            have q1_ : wt.cell? ⟨w.heap.size, 1, none⟩ = some (.int .i64 o) := later_cell d1 ⟨wt, hI⟩
            clear hA hD hW hcl
            go_simp
            exact hK _ _ rfl (.inl (Below.refl _ _)) hI
          · intro t d a_ vs wt ht hI hdi hW hcl hD hA K hK
            have a3 : a_.tmps[3]?.getD undef = Value.int .i64 q := hA 3
            clear hA hD hW hcl
            go_simp
            exact hK _ _ rfl (.inl (Below.refl _ _)) hI
          · intro t d a_ vs wt ht hI hdi hW hcl hD hA K hK
            have e3 : vs 3 = Value.int .i64 page := hD 3 rfl (fun c h => by cases h)
            have e5 : vs 5 = Value.int .i64 o := hD 5 rfl (fun c h => by cases h)
            have e6 : vs 6 = Value.int .i64 q := hD 6 rfl (fun c h => by cases h)
            have a38 : a_.tmps[38]?.getD undef = vs 3 := hA 38
            have a40 : a_.tmps[40]?.getD undef = vs 5 := hA 40
            have a41 : a_.tmps[41]?.getD undef = vs 6 := hA 41
            rw [e3] at a38
            rw [e5] at a40
            rw [e6] at a41
            clear hA hD hW hcl
            go_simp
            exact hK _ _ rfl (.inl (Below.refl _ _)) hI
          · intro t d a_ vs wt ht hI hdi hW hcl hD hA K hK
            have e7 : vs 7 = Value.agg #[.int .i64 page, .int .i64 o, .int .i64 q] := hD 7 rfl (fun c h => by cases h)
            have a42 : a_.tmps[42]?.getD undef = vs 7 := hA 42
            rw [e7] at a42
            clear hA hD hW hcl
            have hal : Ext wt (wt.alloc (.cells #[.int .i64 page, .int .i64 o, .int .i64 q] 76)) := (Below.refl _ _).alloc (Nat.le_refl _) _
            have hRl : Row (wt.alloc (.cells #[.int .i64 page, .int .i64 o, .int .i64 q] 76)) w1.heap.size 76 3 (.slice (some ⟨wt.heap.size, 0, none⟩) 1 1) 1 (c3 [(page, o, q)]) := Row.lit (w := wt) (n := 1) #[.int .i64 page, .int .i64 o, .int .i64 q] rfl (by unfold maxLen; omega) hI.size
            go_simp
            exact hK _ _ ⟨_, rfl, hRl⟩ (.inl hal) (hI.trans hal)
          · intro t d a_ vs wt ht hI hdi hW hcl hD hA K hK
            obtain ⟨A1, c1', e1, hF⟩ := hD 1 rfl (fun c h => by cases h; exact .inl rfl)
            have e2 : vs 2 = Value.int .i64 (kk : Int) := hD 2 rfl (fun c h => by cases h)
            obtain ⟨b8, e8, hR8⟩ := hD 8 rfl (fun c h => by cases h; exact .inl rfl)
            have a36 : a_.tmps[36]?.getD undef = vs 1 := hA 36
            have a37 : a_.tmps[37]?.getD undef = vs 2 := hA 37
            have a43 : a_.tmps[43]?.getD undef = vs 8 := hA 43
            rw [e1] at a36 hF
            rw [e2] at a37
            rw [e8] at a43 hR8
            have hne : ∀ b off, A1 = some ⟨b, off, none⟩ → 0 < n → b8 ≠ b := by
              intro b off ea hpos hb8
              obtain ⟨g, ea2, _, _, row⟩ := hF.form hpos
              rw [ea2] at ea
              cases ea
              subst hb8
              obtain ⟨p0, f0, r0, X, z0, _, _⟩ := own3_at row hpos
              have z1 : wt.cell? ⟨b8, 0, none⟩ = some (.int .i64 page) := by rw [hR8.cellAt 0 (by omega)]; rfl
              have z0' : wt.cell? ⟨b8, 0, none⟩ = some (.int .i64 p0) := by simpa using z0
              rw [z1] at z0'
              have hpe : page = p0 := by simpa using z0'
              exact first_ne HT.out X.out hpe.symm
            clear hA hD
            go_simp
            refine (InsertMp_any _ _ _ _ _ _ _ _ _ _ hal hF hn hI.size hR8 hne (one_c3 _) (one_c3 _)).mono ?_; rintro e w3 ⟨A3, c3', rfl, f3, row, hg3, hr3⟩
            have f3' : Fr w3 w1.heap.size 76 3 (.slice A3 (n + 1) c3') (n + 1) (c3 (insL (page, o, q) ms)) := by
              rw [← c3_take, ← c3_drop, ← c3_append, ← c3_append, List.append_assoc, ← HK.out, EI.out] at f3
              exact f3
            refine hK _ _ ⟨_, _, rfl, f3'⟩ (.inr fun k hk hdk hal hne hGk => ?_) (ext_grown hI hg3 hr3)
            have hdi' : d 9 = false := hdi
            rcases k with _ | _ | _ | _ | _ | _ | _ | _ | _ | _ | _ | _ | _ | k
            · exact hGk
            · exact absurd rfl hne
            · exact hGk
            · exact hGk
            · exact hGk
            · exact hGk
            · exact hGk
            · exact hGk
            · exact absurd rfl hne
            · have h9 : d 9 = true := hdk
              rw [hdi'] at h9; cases h9
            · have h9 : d 9 = true := hcl 10 _ rfl hdk 9 rfl
              rw [hdi'] at h9; cases h9
            · have h10 : d 10 = true := hcl 11 _ rfl hdk 10 rfl
              have h9 : d 9 = true := hcl 10 _ rfl h10 9 rfl
              rw [hdi'] at h9; cases h9
            · exact hGk
            · trivial
          · intro t d a_ vs wt ht hI hdi hW hcl hD hA K hK
            obtain ⟨A9, c9, e9, hF⟩ := hD 9 rfl (fun c h => by cases h)
            have a44 : a_.tmps[44]?.getD undef = vs 9 := hA 44
            rw [e9] at a44 hF
            clear hA hD hW hcl
            go_simp
            refine (cloneMp_any _ _ _ _ _ hF.rd'.2 (one_c3 _) (by omega)).mono ?_; rintro e w2 ⟨A2, c2', rfl, f2, hb2⟩
            exact hK _ _ ⟨_, _, rfl, f2.mono hI.size⟩ (.inl hb2) (hI.trans hb2)
          · intro t d a_ vs wt ht hI hdi hW hcl hD hA K hK
            have e10 := hD 10 rfl (fun c h => by cases h)
            have a45 : a_.tmps[45]?.getD undef = vs 10 := hA 45
            clear hA hD hW hcl
            go_simp
            exact hK _ _ e10 (.inl (Below.refl _ _)) hI
          · intro t d a_ vs wt ht hI hdi hW hcl hD hA K hK
            clear hA hD hW hcl
            go_simp
            exact hK _ _ rfl (.inl (Below.refl _ _)) hI
        · intro t vs wz ht hI hF
          obtain ⟨f0, f1, f2, f3, f4, f5, f6, f7, f8, f9, f10, f11, f12, -⟩ := hF
          obtain ⟨Az, cz, ez, hFz⟩ := f11 rfl
          rw [ez] at hFz
          have e12 : vs 12 = Value.bool true := f12 rfl
          simp only [putAll, Act.put, List.setIfInBounds_toArray, List.set_cons_zero, List.set_cons_succ]
          rw [ez, e12]
          go_wp2
          go_ret2
          rw [HS.out, EL.out, HL.out]
          exact ⟨_, _, rfl, hFz.mono hbb.size, hbb.trans hI⟩
  · have HS : Hid (mapL page o q ms = (ms, false)) := mapL_same (by rw [HT.out]; rfl)
    go_wp2_with fail
    refine (cloneMp_any _ _ _ _ _ hR1 (one_c3 _) (by omega)).mono ?_; rintro e w2 ⟨A2, c2', rfl, f2, hb2⟩
    go_wp2
    go_ret2
    rw [HS.out, HL.out]
    exact ⟨_, _, rfl, f2.mono hbb.size, hbb.trans hb2⟩


set_option maxHeartbeats 400000 in
theorem RightsWithin_any (a b : Int) (w : World) :
    Calls Try.prog 38 #[.int .i64 a, .int .i64 b] w fun e w' => e = .returned (.bool (withinB a b)) ∧ w = w' := by
  go_enter Try.func38, Try.ntmps38
  go_wp2_with ((go_at_call 58; refine (RightsValid_any _ _).mono ?_; rintro e w' ⟨rfl, rfl⟩))
  all_goals go_ret
  all_goals exact ⟨ret_bool (by simp_all [withinB, covB]), rfl⟩
end Go.Proofs.Yteahiiflgiimnaa
