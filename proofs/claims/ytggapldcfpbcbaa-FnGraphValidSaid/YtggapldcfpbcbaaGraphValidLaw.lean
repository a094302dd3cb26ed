/-
  The law FnGraphValid returns true at every input, and leaves all that was there as it was: the walk.
-/
import Derived.Test.YtggapldcfpbcbaaDrX
import Derived.Test.YtggapldcfpbcbaaOnce2
import Derived.Test.YtggapldcfpbcbaaGrT
import Derived.Test.YtggapldcfpbcbaaAlive
import Derived.Deep.Cut
namespace Go.Proofs.Ytggapldcfpbcbaa
open Go.RowKit

theorem gValid_long {g : List (List Int)} {xs : List Int} (hv : gValid g = true) (h2 : 2 ≤ g.length) (hx : g[0]? = some xs) : gValid ((xs ++ [0]) :: g.drop 1) = false := by
  obtain ⟨h6, hr⟩ := gValid_rows hv
  obtain ⟨y, hy⟩ : ∃ y, g[1]? = some y := ⟨_, List.getElem?_eq_getElem (by omega)⟩
  have e1 := (hr xs (List.mem_of_getElem? hx)).1
  have e2 := (hr y (List.mem_of_getElem? hy)).1
  cases hv2 : gValid ((xs ++ [0]) :: g.drop 1)
  · rfl
  · obtain ⟨_, hr2⟩ := gValid_rows hv2
    have h0 : len0 ((xs ++ [0]) :: g.drop 1) = xs.length + 1 := by rw [len0_get (x := xs ++ [0]) rfl, List.length_append]; rfl
    have hm : y ∈ (xs ++ [0]) :: g.drop 1 := by
      refine List.mem_cons_of_mem _ (List.mem_of_getElem? (i := 0) ?_)
      rw [List.getElem?_drop]; exact hy
    have := (hr2 y hm).1
    rw [h0] at this
    omega

/-- What is known of the values of the statement that makes a graph with a longer first row. -/
def GVf (B bg og n c m0 c0 : Nat) (A0 : Option Addr) (xs0 : List Int) (g : List (List Int)) : Nat → Value → World → Prop
  | 0, v, w => ∃ b, v = .slice (some ⟨b, 0, none⟩) 0 0 ∧ Fr w B 3 1 v 0 []
  | 1, v, _ => v = .slice (some ⟨bg, og, none⟩) n c
  | 2, v, _ => v = .pointer (some ⟨bg, og, none⟩)
  | 3, v, _ => v = .slice A0 m0 c0
  | 4, v, w => ∃ A c, v = .slice A m0 c ∧ Fr w B 3 1 v m0 (cI xs0)
  | 5, v, w => ∃ b, v = .slice (some ⟨b, 0, none⟩) 1 1 ∧ Rd w 1 (some ⟨b, 0, none⟩) 1 1 (cI [(0 : Int)])
  | 6, v, w => ∃ A c, v = .slice A (m0 + 1) c ∧ Fr w B 3 1 v (m0 + 1) (cI (xs0 ++ [0]))
  | 7, v, w => ∃ b A c, v = .slice (some ⟨b, 0, none⟩) 1 1 ∧ Row w B 30 1 v 1 [.slice A (m0 + 1) c] ∧ Fr w B 3 1 (.slice A (m0 + 1) c) (m0 + 1) (cI (xs0 ++ [0]))
  | 8, v, _ => v = .slice (some ⟨bg, og, none⟩) n c
  | 9, v, _ => v = .slice (some ⟨bg, og + 1, none⟩) (n - 1) (c - 1)
  | 10, v, w => ∃ A c, v = .slice A n c ∧ RdR w A n c ((xs0 ++ [0]) :: g.drop 1)
  | 11, v, w => ∃ A c, v = .slice A n c ∧ RdR w A n c ((xs0 ++ [0]) :: g.drop 1)
  | _, _, _ => True
def GVc : Nat → Option Nat
  | 0 => some 4 | 4 => some 6 | 5 => some 6 | 6 => some 7 | 7 => some 10 | _ => none
theorem GVf_ext (B bg og n c m0 c0 : Nat) (A0 : Option Addr) (xs0 : List Int) (g : List (List Int)) : ∀ k v w w', Ext w w' → GVf B bg og n c m0 c0 A0 xs0 g k v w → GVf B bg og n c m0 c0 A0 xs0 g k v w' := by
  intro k v w w' he h
  rcases k with _ | _ | _ | _ | _ | _ | _ | _ | _ | _ | _ | _ | k
  · obtain ⟨b, h1, h2⟩ := h; exact ⟨b, h1, h2.below he⟩
  · exact h
  · exact h
  · exact h
  · obtain ⟨A, c, h1, h2⟩ := h; exact ⟨A, c, h1, h2.below he⟩
  · obtain ⟨b, h1, h2⟩ := h; exact ⟨b, h1, h2.below he⟩
  · obtain ⟨A, c, h1, h2⟩ := h; exact ⟨A, c, h1, h2.below he⟩
  · obtain ⟨b, A, c, h1, h2, h3⟩ := h; exact ⟨b, A, c, h1, h2.below he, h3.below he⟩
  · exact h
  · exact h
  · obtain ⟨A, c, h1, h2⟩ := h; exact ⟨A, c, h1, h2.below he⟩
  · obtain ⟨A, c, h1, h2⟩ := h; exact ⟨A, c, h1, h2.below he⟩
  · trivial

set_option maxHeartbeats 2000000 in
theorem FnGraphValid_walk (A : Option Addr) (n0 c : Nat) (code : List Int) (w : World) (h0 : Rd w 1 A n0 c (code.map (Value.int .u8))) (F0 : ∀ z ∈ code, (Lit.int .u8 z).wf = true) :
    Calls Try.prog 5 #[.slice A n0 c] w fun e w' => e = .returned (.bool true) ∧ Ext w w' := by
  obtain ⟨bs, hbs⟩ := bytes_of F0
  rw [hbs] at h0
  have hle := h0.le
  have htop := h0.top
  by_cases hn : 1048576 < n0
  · go_enter Try.func5, Try.ntmps5
    go_wp2
    go_ret
    exact ⟨rfl, Below.refl _ _⟩
  obtain ⟨i0, hi0, hz0, hz1, hz2⟩ := info_parts Try.infoInt
  obtain ⟨i1, ki, kz0, kz1, kz2⟩ := info_parts Try.infoRow
  go_enter Try.func5, Try.ntmps5
  go_wp2_with fail
  refine (DrawGraphValid_any _ _ _ _ _ h0).mono ?_; rintro e w1 ⟨A1, n, c1, g, rfl, hg, hb1⟩
  obtain ⟨t, ht⟩ : ∃ t, gValid g = t := ⟨_, rfl⟩
  have HT := Lib.hid ht
  go_wp2_with fail
  refine (GraphValid_any _ _ _ _ _ hg).mono ?_; rintro e w2 ⟨rfl, hb2⟩; rw [HT.out]
  have hg2 := hg.below hb2
  go_wp2_with fail
  refine (specGraphValid_any _ _ _ _ _ hg2).mono ?_; rintro e w3 ⟨rfl, hb3⟩; rw [HT.out]
  have htt : (t != t) = false := by cases t <;> rfl
  have hg3 := hg2.below hb3
  have hb := (hb1.trans hb2).trans hb3
  clear hb1 hb2 hb3 hg hg2 h0 hbs F0
  have hl := hg3.lenR
  by_cases hno : t = false ∨ n < 2
  · cases t
    · clear hg3 hno ht hl HT
      go_wp2_with ((go_at_call 23; refine (alive_any _).mono ?_; rintro e w9 ⟨rfl, hb9⟩))
      go_ret
      exact ⟨rfl, hb.trans hb9⟩
    · have hn2 : n < 2 := by simpa using hno
      clear hg3 hno ht hl HT
      go_wp2_with ((go_at_call 23; refine (alive_any _).mono ?_; rintro e w9 ⟨rfl, hb9⟩))
      go_ret
      exact ⟨rfl, hb.trans hb9⟩
  obtain ⟨rfl, hn2⟩ : t = true ∧ 2 ≤ n := by
    cases t
    · simp at hno
    · simp at hno; exact ⟨rfl, by omega⟩
  obtain ⟨hs, hH, hlen, hrows⟩ := hg3.ex
  obtain ⟨bg, og, hAA, hcells⟩ := hH.cells (by omega)
  subst hAA
  have hcn := hH.le
  have hct := hH.top
  have hsl : hs.length = n := by have := hH.len; simpa using this
  obtain ⟨⟨A0, m0, c0⟩, hx0⟩ := get_of_lt hsl (show 0 < n by omega)
  have gh0 : w3.cell? ⟨bg, og, none⟩ = some (.slice A0 m0 c0) := hcells 0 _ (by rw [List.getElem?_map, hx0]; rfl)
  obtain ⟨xs0, hxs0⟩ : ∃ r0, g[0]? = some r0 := ⟨_, List.getElem?_eq_getElem (by omega)⟩
  have hR0 : Rd w3 1 A0 m0 c0 (cI xs0) := hrows 0 _ _ hx0 hxs0
  obtain ⟨hv6, hvr⟩ := gValid_rows ht
  have hm10 : m0 ≤ 10 := by have := (hvr xs0 (List.mem_of_getElem? hxs0)).2.2.1; have := hR0.lenI; omega
  have hn6 : n ≤ 6 := by omega
  have LG := Lib.hid (gValid_long ht (by omega) hxs0)
  have hdrop : ∀ w' : World, Ext w3 w' → Rd w' 1 (some ⟨bg, og + 1, none⟩) (n - 1) (c1 - 1) ((hs.drop 1).map hv) := fun w' he => by
    have h1 : Rd w' 1 (some ⟨bg, og, none⟩) n c1 (hs.map hv) := hH.below he
    refine ⟨by rw [List.length_map, List.length_drop]; omega, by omega, by omega, fun _ => ?_⟩
    obtain ⟨b', o', e, hc⟩ := h1.cells (by omega)
    simp only [Option.some.injEq, Addr.mk.injEq, and_true] at e
    obtain ⟨rfl, rfl⟩ := e
    refine ⟨_, _, rfl, fun j u hu => ?_⟩
    rw [List.map_drop, List.getElem?_drop] at hu
    have := hc (1 + j) u hu
    rwa [← Nat.add_assoc] at this
  have hnew : ∀ w' A' c', Ext w3 w' → RdR w' A' n c' ((xs0 ++ [0]) :: g.drop 1) → True := fun _ _ _ _ _ => trivial
  have DROP := Lib.hid hdrop
  have ROWS := Lib.hid hrows
  have HSL := Lib.hid hsl
  have HLEN := Lib.hid hlen
  clear hno ht hl hcells hx0 hxs0 hvr hdrop hnew hrows hsl hlen
  go_upto_region 9 with fail
  refine wp_region_once2 (GVf w3.heap.size bg og n c1 m0 c0 A0 xs0 g) GVc (fun _ w' => Ext w3 w') (by kernel_rfl) (by kernel_rfl) (by rfl) ((Below.refl _ _).drew) (GVf_ext _ _ _ _ _ _ _ _ _ _) ?_ ?_
  · refine ⟨?_, ?_, ?_, ?_, ?_, ?_, ?_, ?_, ?_, ?_, ?_, ?_, trivial⟩
    · intro t d a_ vs wt ht hI hdi hW hcl hD hA K hK
      clear hA hD hW hcl
      have hal : Ext wt (wt.alloc (.cells #[] 3)) := (Below.refl _ _).alloc (Nat.le_refl _) _
      have hF : Fr (wt.alloc (.cells #[] 3)) w3.heap.size 3 1 (.slice (some ⟨wt.heap.size, 0, none⟩) 0 0) 0 [] := .inr (Row.lit (n := 0) #[] (by simp) (by unfold maxLen; omega) hI.size)
      go_simp
      exact hK _ _ ⟨_, rfl, hF⟩ (.inl hal) (hI.trans hal)
    · intro t d a_ vs wt ht hI hdi hW hcl hD hA K hK
      have a3 : a_.tmps[3]?.getD undef = Value.slice (some ⟨bg, og, none⟩) n c1 := hA 3
      clear hA hD hW hcl
      go_simp
      exact hK _ _ rfl (.inl (Below.refl _ _)) hI
    · intro t d a_ vs wt ht hI hdi hW hcl hD hA K hK
      have d1 : vs 1 = Value.slice (some ⟨bg, og, none⟩) n c1 := hD 1 rfl (fun c h => by cases h)
      have a26 : a_.tmps[26]?.getD undef = vs 1 := hA 26
      rw [d1] at a26
      have h0n : 0 < n := by omega
      clear hA hD hW hcl
      go_simp
      exact hK _ _ rfl (.inl (Below.refl _ _)) hI
    · intro t d a_ vs wt ht hI hdi hW hcl hD hA K hK
      have d2 : vs 2 = Value.pointer (some ⟨bg, og, none⟩) := hD 2 rfl (fun c h => by cases h)
      have a27 : a_.tmps[27]?.getD undef = vs 2 := hA 27
      rw [d2] at a27
      have q0 := kept_of_below hI _ _ gh0
      clear hA hD hW hcl
      go_simp
      exact hK _ _ rfl (.inl (Below.refl _ _)) hI
    · intro t d a_ vs wt ht hI hdi hW hcl hD hA K hK
      obtain ⟨b, e0, hF⟩ := hD 0 rfl (fun c h => by cases h; exact .inl rfl)
      have d3 : vs 3 = Value.slice A0 m0 c0 := hD 3 rfl (fun c h => by cases h)
      have a25 : a_.tmps[25]?.getD undef = vs 0 := hA 25
      have a28 : a_.tmps[28]?.getD undef = vs 3 := hA 28
      rw [e0] at a25 hF
      rw [d3] at a28
      refine wp_append_empty (P := Try.prog) wt (.tmp 25) (.tmp 28) 30 rfl w3.heap.size 3 i0 _ 1 8 Try.underlying30 hi0 hz0 hz1 hz2 rfl (by omega) _ (by simpa [Act.eval] using a25) hF _ m0 c0 _ (by simpa [Act.eval] using a28) (hR0.below hI) (one_cI _) (by unfold maxLen; omega) (by omega) hI.size ?_
      intro A' c' w' hF' he
      exact hK _ _ ⟨_, _, rfl, hF'⟩ (.inl he) (hI.trans he)
    · intro t d a_ vs wt ht hI hdi hW hcl hD hA K hK
      clear hA hD hW hcl
      have hal : Ext wt (wt.alloc (.cells #[.int .i64 0] 3)) := (Below.refl _ _).alloc (Nat.le_refl _) _
      have hRl : Rd (wt.alloc (.cells #[.int .i64 0] 3)) 1 (some ⟨wt.heap.size, 0, none⟩) 1 1 (cI [(0 : Int)]) := Rd.lit (sz := 1) (n := 1) #[.int .i64 0] rfl (by omega)
      go_simp
      exact hK _ _ ⟨_, rfl, hRl⟩ (.inl hal) (hI.trans hal)
    · intro t d a_ vs wt ht hI hdi hW hcl hD hA K hK
      obtain ⟨A4, c4, e4, hF⟩ := hD 4 rfl (fun c h => by cases h; exact .inl rfl)
      obtain ⟨b5, e5, hR5⟩ := hD 5 rfl (fun c h => by cases h; exact .inl rfl)
      have a29 : a_.tmps[29]?.getD undef = vs 4 := hA 29
      have a30 : a_.tmps[30]?.getD undef = vs 5 := hA 30
      have w4 : d 4 = true := hW 4 rfl
      rw [e4] at a29 hF
      rw [e5] at a30
      refine wp_append_fr (P := Try.prog) wt (.tmp 29) (.tmp 30) 30 rfl w3.heap.size 3 i0 _ 1 8 Try.underlying30 hi0 hz0 hz1 hz2 rfl (by omega) _ m0 _ (by simpa [Act.eval] using a29) hF _ 1 1 _ (by simpa [Act.eval] using a30) hR5 (one_cI _) (by unfold maxLen; omega) (by omega) hI.size ?_
      intro A' c' w' row hF' hg' hr'
      rw [← cI_append] at hF'
      refine hK _ _ ⟨_, _, rfl, hF'⟩ (.inr fun k hk hdk hal hne hGk => ?_) (ext_grown hI hg' (fun k hk => (hr' k hk).1))
      rcases k with _ | _ | _ | _ | _ | _ | _ | _ | _ | _ | _ | _ | k
      · have := hal 4 rfl; rw [w4] at this; cases this
      · exact hGk
      · exact hGk
      · exact hGk
      · exact absurd rfl hne
      · exact absurd rfl hne
      · have h6 : d 6 = true := hdk
        have hdi' : d 6 = false := hdi
        rw [hdi'] at h6; cases h6
      · have h6 : d 6 = true := hcl 7 _ rfl hdk 6 rfl
        have hdi' : d 6 = false := hdi
        rw [hdi'] at h6; cases h6
      · exact hGk
      · exact hGk
      · have h7 : d 7 = true := hcl 10 _ rfl hdk 7 rfl
        have h6 : d 6 = true := hcl 7 _ rfl h7 6 rfl
        have hdi' : d 6 = false := hdi
        rw [hdi'] at h6; cases h6
      · have h10 : d 10 = true := hcl 11 _ rfl hdk 10 rfl
        have h7 : d 7 = true := hcl 10 _ rfl h10 7 rfl
        have h6 : d 6 = true := hcl 7 _ rfl h7 6 rfl
        have hdi' : d 6 = false := hdi
        rw [hdi'] at h6; cases h6
      · trivial
    · intro t d a_ vs wt ht hI hdi hW hcl hD hA K hK
      obtain ⟨A6, c6, e6, hF⟩ := hD 6 rfl (fun c h => by cases h; exact .inl rfl)
      have a31 : a_.tmps[31]?.getD undef = vs 6 := hA 31
      rw [e6] at a31 hF
      clear hA hD hW hcl
      have hal : Ext wt (wt.alloc (.cells #[.slice A6 (m0 + 1) c6] 30)) := (Below.refl _ _).alloc (Nat.le_refl _) _
      have hRl : Row (wt.alloc (.cells #[.slice A6 (m0 + 1) c6] 30)) w3.heap.size 30 1 (.slice (some ⟨wt.heap.size, 0, none⟩) 1 1) 1 [.slice A6 (m0 + 1) c6] := Row.lit (sz := 1) (n := 1) #[.slice A6 (m0 + 1) c6] rfl (by unfold maxLen; omega) hI.size
      have hF2 := hF.below hal
      go_simp
      exact hK _ _ ⟨_, _, _, rfl, hRl, hF2⟩ (.inl hal) (hI.trans hal)
    · intro t d a_ vs wt ht hI hdi hW hcl hD hA K hK
      have a3 : a_.tmps[3]?.getD undef = Value.slice (some ⟨bg, og, none⟩) n c1 := hA 3
      clear hA hD hW hcl
      go_simp
      exact hK _ _ rfl (.inl (Below.refl _ _)) hI
    · intro t d a_ vs wt ht hI hdi hW hcl hD hA K hK
      have d8 : vs 8 = Value.slice (some ⟨bg, og, none⟩) n c1 := hD 8 rfl (fun c h => by cases h)
      have a33 : a_.tmps[33]?.getD undef = vs 8 := hA 33
      rw [d8] at a33
      have h1n : (1 : Int) ≤ (n : Int) := by omega
      have h1c : ¬ c1 = 1 := by omega
      have cs : Try.prog.cellsOf 30 = 1 := by kernel_rfl
      clear hA hD hW hcl
      go_simp
      exact hK _ _ rfl (.inl (Below.refl _ _)) hI
    · intro t d a_ vs wt ht hI hdi hW hcl hD hA K hK
      obtain ⟨b7, A7, c7, e7, hO, hF⟩ := hD 7 rfl (fun c h => by cases h; exact .inl rfl)
      have d9 : vs 9 = Value.slice (some ⟨bg, og + 1, none⟩) (n - 1) (c1 - 1) := hD 9 rfl (fun c h => by cases h)
      have a32 : a_.tmps[32]?.getD undef = vs 7 := hA 32
      have a34 : a_.tmps[34]?.getD undef = vs 9 := hA 34
      have w7 : d 7 = true := hW 7 rfl
      rw [e7] at a32 hO
      rw [d9] at a34
      refine wp_append_fr (P := Try.prog) wt (.tmp 32) (.tmp 34) 22 rfl w3.heap.size 30 i1 _ 1 24 Try.underlying22 ki kz0 kz1 kz2 rfl (by omega) _ 1 _ (by simpa [Act.eval] using a32) (.inr hO) _ (n - 1) (c1 - 1) _ (by simpa [Act.eval] using a34) (DROP.out _ hI) (one_hv _) (by unfold maxLen; omega) (by omega) hI.size ?_
      intro A' c' w' row hF' hg' hr'
      have hn1 : 1 + (n - 1) = n := by omega
      rw [hn1] at hF' ⊢
      have hIw := ext_grown hI hg' (fun k hk => (hr' k hk).1)
      have hF7 : Fr w' w3.heap.size 3 1 (.slice A7 (m0 + 1) c7) (m0 + 1) (cI (xs0 ++ [0])) := by
        rcases hF with ⟨A'', h1, h2, h3⟩ | hF
        · omega
        · exact .inr (hF.aside hO (by decide) hg' (fun k hk => (hr' k hk).2.2))
      have hnew : RdR w' A' n c' ((xs0 ++ [0]) :: g.drop 1) := by
        refine ⟨(A7, m0 + 1, c7) :: hs.drop 1, hF'.rd'.2, ?_, fun i h xs hi hx => ?_⟩
        · rw [List.length_cons, List.length_cons, List.length_drop, List.length_drop, HLEN.out]
        · rcases i with _ | i
          · simp only [List.getElem?_cons_zero, Option.some.injEq] at hi hx
            subst hi hx
            exact hF7.rd'.2
          · rw [List.getElem?_cons_succ, List.getElem?_drop] at hi hx
            exact (ROWS.out (1 + i) h xs hi hx).below hIw
      refine hK _ _ ⟨_, _, rfl, hnew⟩ (.inr fun k hk hdk hal hne hGk => ?_) hIw
      have w6 : d 6 = true := hcl 7 _ rfl w7 6 rfl
      have w4 : d 4 = true := hcl 6 _ rfl w6 4 rfl
      rcases k with _ | _ | _ | _ | _ | _ | _ | _ | _ | _ | _ | _ | k
      · have := hal 4 rfl; rw [w4] at this; cases this
      · exact hGk
      · exact hGk
      · exact hGk
      · have := hal 6 rfl; rw [w6] at this; cases this
      · have := hal 6 rfl; rw [w6] at this; cases this
      · have := hal 7 rfl; rw [w7] at this; cases this
      · exact absurd rfl hne
      · exact hGk
      · exact hGk
      · have h6 : d 10 = true := hdk
        have hdi' : d 10 = false := hdi
        rw [hdi'] at h6; cases h6
      · have h10 : d 10 = true := hcl 11 _ rfl hdk 10 rfl
        have hdi' : d 10 = false := hdi
        rw [hdi'] at h10; cases h10
      · trivial
    · intro t d a_ vs wt ht hI hdi hW hcl hD hA K hK
      have d10 := hD 10 rfl (fun c h => by cases h)
      have a35 : a_.tmps[35]?.getD undef = vs 10 := hA 35
      clear hA hD hW hcl
      go_simp
      exact hK _ _ d10 (.inl (Below.refl _ _)) hI
  · intro t vs wz ht hI hF
    obtain ⟨f0, f1, f2, f3, f4, f5, f6, f7, f8, f9, f10, f11, -⟩ := hF
    obtain ⟨Az, cz, ez, hRz⟩ := f11 rfl
    simp only [putAll, Act.put, List.setIfInBounds_toArray, List.set_cons_zero, List.set_cons_succ]
    rw [ez]
    go_wp2_with fail
    refine (GraphValid_any _ _ _ _ _ hRz).mono ?_; rintro e wy ⟨rfl, hby⟩; rw [LG.out]
    go_wp2
    go_ret
    exact ⟨rfl, (hb.trans hI).trans hby⟩
end Go.Proofs.Ytggapldcfpbcbaa
