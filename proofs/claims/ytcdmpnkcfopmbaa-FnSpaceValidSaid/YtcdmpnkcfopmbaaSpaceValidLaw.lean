/-
  The law FnSpaceValid returns true at every input, and leaves all that was there as it was: the walk.
-/
import Derived.Test.YtcdmpnkcfopmbaaMpK
import Derived.Test.YtcdmpnkcfopmbaaMpS
import Derived.Test.YtcdmpnkcfopmbaaMpH
import Derived.Test.YtcdmpnkcfopmbaaOnce3
import Derived.Test.YtcdmpnkcfopmbaaAlive
namespace Go.Proofs.Ytcdmpnkcfopmbaa
open Go.RowKit

theorem spFrom_take : ∀ (ms : List Mp) (l : Int) (k : Nat), spFrom l ms = true → spFrom l (ms.take k) = true
  | [], l, k, h => by simpa using h
  | m :: r, l, 0, h => rfl
  | m :: r, l, k + 1, h => by
    obtain ⟨h1, h2⟩ := spFrom_cons.1 h
    exact spFrom_cons.2 ⟨h1, spFrom_take r m.1 k h2⟩
theorem spValid_take {ms : List Mp} (k : Nat) (h : spValid ms = true) : spValid (ms.take k) = true := by
  obtain ⟨h1, h2⟩ := spValid_iff.1 h
  exact spValid_iff.2 ⟨spFrom_take ms (-1) k h1, by rw [List.length_take]; omega⟩
theorem spFrom_dup (m : Mp) : ∀ (ms : List Mp) (l : Int), spFrom l (ms ++ [m, m]) = false
  | [], l => by
    rw [← Bool.not_eq_true]; intro h
    obtain ⟨_, h2⟩ := spFrom_cons.1 h
    obtain ⟨h3, _⟩ := spFrom_cons.1 h2
    have := (mpOk_iff.1 h3).1
    omega
  | x :: r, l => by
    rw [← Bool.not_eq_true]; intro h
    obtain ⟨_, h2⟩ := spFrom_cons.1 h
    have := spFrom_dup m r x.1
    exact absurd h2 (by rw [show spFrom x.1 (r.append [m, m]) = spFrom x.1 (r ++ [m, m]) from rfl, this]; exact Bool.false_ne_true)
theorem spValid_dup (m : Mp) (ms : List Mp) : spValid (ms ++ [m, m]) = false := by unfold spValid; rw [spFrom_dup]; rfl

/-- What is known of the values of the statement that looks at parts and at more. -/
def SVf (w7 : World) (A : Option Addr) (n c kk : Nat) (ms : List Mp) (sv : Bool) : Nat → Value → World → Prop
  | 0, v, _ => v = .bool sv
  | 1, v, _ => v = .bool (!sv)
  | 2, v, _ => v = .bool (!sv)
  | 3, v, _ => sv = true → v = .slice A n c
  | 4, v, _ => sv = true → v = .slice A n c
  | 5, v, _ => sv = true → v = .int .i64 (n : Int)
  | 6, v, _ => sv = true → v = .int .i64 (kk : Int)
  | 7, v, _ => sv = true → v = .slice A kk c
  | 8, v, _ => sv = true → v = .bool true
  | 9, v, _ => v = .bool true
  | 10, v, _ => v = .bool true
  | 11, v, w => ∃ b, v = .slice (some ⟨b, 0, none⟩) 0 0 ∧ Fr w w7.heap.size 34 3 v 0 (c3 [])
  | 12, v, _ => v = .slice A n c
  | 13, v, w => ∃ A c, v = .slice A n c ∧ Fr w w7.heap.size 34 3 v n (c3 ms)
  | 14, v, _ => v = .agg #[.int .i64 255, .int .i64 0, .int .i64 1]
  | 15, v, _ => v = .agg #[.int .i64 255, .int .i64 0, .int .i64 1]
  | 16, v, w => ∃ b, v = .slice (some ⟨b, 0, none⟩) 2 2 ∧ Rd w 3 (some ⟨b, 0, none⟩) 2 2 (c3 [(255, 0, 1), (255, 0, 1)])
  | 17, v, w => ∃ A c, v = .slice A (n + 2) c ∧ Fr w w7.heap.size 34 3 v (n + 2) (c3 (ms ++ [(255, 0, 1), (255, 0, 1)]))
  | 18, v, _ => v = .bool false
  | 19, v, _ => v = .bool true
  | 20, v, _ => v = .bool true
  | 21, v, _ => v = .bool true
  | 22, v, _ => v = .bool true
  | 23, v, _ => v = .bool true
  | 24, v, _ => v = .bool true
  | _, _, _ => True
def SVc : Nat → Option Nat
  | 11 => some 13 | 13 => some 17 | 16 => some 17 | _ => none
theorem SVf_keep {w7 : World} {A : Option Addr} {n c kk : Nat} {ms : List Mp} {sv : Bool} {k : Nat} {v : Value} {w w' : World} (h : SVf w7 A n c kk ms sv k v w) (h11 : k ≠ 11) (h13 : k ≠ 13) (h16 : k ≠ 16) (h17 : k ≠ 17) : SVf w7 A n c kk ms sv k v w' := by
  rcases k with _ | _ | _ | _ | _ | _ | _ | _ | _ | _ | _ | _ | _ | _ | _ | _ | _ | _ | _ | _ | _ | _ | _ | _ | _ | k
  · exact h
  · exact h
  · exact h
  · exact h
  · exact h
  · exact h
  · exact h
  · exact h
  · exact h
  · exact h
  · exact h
  · exact absurd rfl h11
  · exact h
  · exact absurd rfl h13
  · exact h
  · exact h
  · exact absurd rfl h16
  · exact absurd rfl h17
  · exact h
  · exact h
  · exact h
  · exact h
  · exact h
  · exact h
  · exact h
  · exact h
theorem SVf_ext (w7 : World) (A : Option Addr) (n c kk : Nat) (ms : List Mp) (sv : Bool) : ∀ k v w w', Ext w w' → SVf w7 A n c kk ms sv k v w → SVf w7 A n c kk ms sv k v w' := by
  intro k v w w' he h
  by_cases h11 : k = 11
  · subst h11; obtain ⟨b, h1, h2⟩ := h; exact ⟨b, h1, h2.below he⟩
  by_cases h13 : k = 13
  · subst h13; obtain ⟨A, c, h1, h2⟩ := h; exact ⟨A, c, h1, h2.below he⟩
  by_cases h16 : k = 16
  · subst h16; obtain ⟨b, h1, h2⟩ := h; exact ⟨b, h1, h2.below he⟩
  by_cases h17 : k = 17
  · subst h17; obtain ⟨A, c, h1, h2⟩ := h; exact ⟨A, c, h1, h2.below he⟩
  exact SVf_keep h h11 h13 h16 h17

set_option maxRecDepth 100000 in
set_option maxHeartbeats 4000000 in
theorem FnSpaceValid_walk (A : Option Addr) (n0 c : Nat) (code : List Int) (w : World) (h0 : Rd w 1 A n0 c (code.map (Value.int .u8))) (F0 : ∀ z ∈ code, (Lit.int .u8 z).wf = true) :
    Calls Try.prog 5 #[.slice A n0 c] w fun e w' => e = .returned (.bool true) ∧ Ext w w' := by
  obtain ⟨bs, hbs⟩ := bytes_of F0
  rw [hbs] at h0
  have hle := h0.le
  have htop := h0.top
  by_cases hn : 1048576 < n0
  · go_enter Try.func5, Try.ntmps5
    go_wp2
    go_ret
    exact ⟨rfl, Below.refl _ _⟩
  obtain ⟨i1, ki, kz0, kz1, kz2⟩ := info_parts Try.infoMp
  go_enter Try.func5, Try.ntmps5
  go_wp2_with fail
  refine (DrawSpaceValid_any _ _ _ _ _ h0).mono ?_; rintro e w1 ⟨A1, n, c1, ms, rfl, hg, h22, hb1⟩
  obtain ⟨sv, hsv⟩ : ∃ b, spValid ms = b := ⟨_, rfl⟩
  have SV := Lib.hid hsv
  go_wp2_with fail
  refine (SpaceValid_any _ _ _ _ _ hg).mono ?_; rintro e w2 ⟨rfl, hb2⟩; rw [SV.out]
  have hg2 := hg.below hb2
  go_wp2_with fail
  refine (specSpaceValid_any _ _ _ _ _ hg2).mono ?_; rintro e w3 ⟨rfl, hb3⟩; rw [SV.out]
  have hg3 := hg2.below hb3
  have hv : Ext w3 (w3.alloc (.cells #[.int .i64 255, .int .i64 0, .int .i64 1] 34)) := (Below.refl _ _).alloc (Nat.le_refl _) _
  obtain ⟨cc, hcc⟩ : ∃ cc, w3.heap.size = cc := ⟨_, rfl⟩
  obtain ⟨w7, hw7⟩ : ∃ w7, w7 = (w3.alloc (.cells #[.int .i64 255, .int .i64 0, .int .i64 1] 34)) := ⟨_, rfl⟩
  rw [← hw7] at hv
  have S0 : w7.cell? ⟨cc, 0, none⟩ = some (.int .i64 255) := by rw [hw7, ← hcc, World.cell?_alloc_new]; rfl
  have S1 : w7.cell? ⟨cc, 1, none⟩ = some (.int .i64 0) := by rw [hw7, ← hcc, World.cell?_alloc_new]; rfl
  have S2 : w7.cell? ⟨cc, 2, none⟩ = some (.int .i64 1) := by rw [hw7, ← hcc, World.cell?_alloc_new]; rfl
  have hS : ∀ w', Ext w7 w' → w'.cell? ⟨cc, 0, none⟩ = some (.int .i64 255) ∧ w'.cell? ⟨cc, 1, none⟩ = some (.int .i64 0) ∧ w'.cell? ⟨cc, 2, none⟩ = some (.int .i64 1) := fun w' he => ⟨later_cell S0 ⟨w', he⟩, later_cell S1 ⟨w', he⟩, later_cell S2 ⟨w', he⟩⟩
  have hR7 := hg3.below hv
  have hbb := ((hb1.trans hb2).trans hb3).trans hv
  have hle1 := hg.le
  have htop1 := hg.top
  obtain ⟨kk, hkk⟩ : ∃ kk, n / 2 = kk := ⟨_, rfl⟩
  have HQ : Hid ((n : Int) / 2 = (kk : Int)) := by rw [← hkk]; exact Lib.hid (by omega)
  have hk0 : kk ≤ n := by omega
  have hk1 : (kk : Int) ≤ (n : Int) := by omega
  have hk2 : (kk : Int) ≤ (c1 : Int) := by omega
  have HDUP := Lib.hid (spValid_dup (255, 0, 1) ms)
  clear hg hg2 hg3 hb1 hb2 hb3 h0 F0 hbs S0 S1 S2 hkk
  cases sv
  · clear hsv SV hv
    go_wp2_with fail
    rw [← hw7]
    clear hw7 hcc
    refine wp_region_once3 Ext (SVf w7 A1 n c1 kk ms false) SVc (fun _ w' => Ext w7 w') (by kernel_rfl) (by kernel_rfl) (by rfl) ((Below.refl _ _).drew) (SVf_ext _ _ _ _ _ _ _) ?_ ?_
    · refine ⟨?_, ?_, ?_, ?_, ?_, ?_, ?_, ?_, ?_, ?_, ?_, ?_, ?_, ?_, ?_, ?_, ?_, ?_, ?_, ?_, ?_, ?_, ?_, ?_, ?_, trivial⟩
      · intro t d a_ vs wt ht hI hdi hW hcl hD hA K hK
        refine if_yes rfl ?_
        have a4 : a_.tmps[4]?.getD undef = Value.bool false := hA 4
        clear hA hD hW hcl
        go_simp
        exact hK _ _ rfl (.inl (Below.refl _ _)) hI
      · intro t d a_ vs wt ht hI hdi hW hcl hD hA K hK
        refine if_yes rfl ?_
        have d0 : vs 0 = Value.bool false := hD 0 rfl (fun c h => by cases h)
        have a18 : a_.tmps[18]?.getD undef = vs 0 := hA 18
        rw [d0] at a18
        clear hA hD hW hcl
        go_simp
        exact hK _ _ rfl (.inl (Below.refl _ _)) hI
      · intro t d a_ vs wt ht hI hdi hW hcl hD hA K hK
        refine if_yes rfl ?_
        have d1 : vs 1 = Value.bool true := hD 1 rfl (fun c h => by cases h)
        have a19 : a_.tmps[19]?.getD undef = vs 1 := hA 19
        rw [d1] at a19
        clear hA hD hW hcl
        go_simp
        exact hK _ _ rfl (.inl (Below.refl _ _)) hI
      · intro t d a_ vs wt ht hI hdi hW hcl hD hA K hK
        have dg : vs 2 = Value.bool true := hD 2 rfl (fun c h => by cases h)
        have ag : a_.tmps[20]?.getD undef = vs 2 := hA 20
        rw [dg] at ag
        refine if_no (by show (yielded _ _ 2 == some false) = false; rw [guard_val (o := _) rfl rfl ag]; rfl) ?_
        exact hK undef _ (fun h => by cases h) (.inl (Below.refl _ _)) hI
      · intro t d a_ vs wt ht hI hdi hW hcl hD hA K hK
        have dg : vs 2 = Value.bool true := hD 2 rfl (fun c h => by cases h)
        have ag : a_.tmps[20]?.getD undef = vs 2 := hA 20
        rw [dg] at ag
        refine if_no (by show (yielded _ _ 2 == some false) = false; rw [guard_val (o := _) rfl rfl ag]; rfl) ?_
        exact hK undef _ (fun h => by cases h) (.inl (Below.refl _ _)) hI
      · intro t d a_ vs wt ht hI hdi hW hcl hD hA K hK
        have dg : vs 2 = Value.bool true := hD 2 rfl (fun c h => by cases h)
        have ag : a_.tmps[20]?.getD undef = vs 2 := hA 20
        rw [dg] at ag
        refine if_no (by show (yielded _ _ 2 == some false) = false; rw [guard_val (o := _) rfl rfl ag]; rfl) ?_
        exact hK undef _ (fun h => by cases h) (.inl (Below.refl _ _)) hI
      · intro t d a_ vs wt ht hI hdi hW hcl hD hA K hK
        have dg : vs 2 = Value.bool true := hD 2 rfl (fun c h => by cases h)
        have ag : a_.tmps[20]?.getD undef = vs 2 := hA 20
        rw [dg] at ag
        refine if_no (by show (yielded _ _ 2 == some false) = false; rw [guard_val (o := _) rfl rfl ag]; rfl) ?_
        exact hK undef _ (fun h => by cases h) (.inl (Below.refl _ _)) hI
      · intro t d a_ vs wt ht hI hdi hW hcl hD hA K hK
        have dg : vs 2 = Value.bool true := hD 2 rfl (fun c h => by cases h)
        have ag : a_.tmps[20]?.getD undef = vs 2 := hA 20
        rw [dg] at ag
        refine if_no (by show (yielded _ _ 2 == some false) = false; rw [guard_val (o := _) rfl rfl ag]; rfl) ?_
        exact hK undef _ (fun h => by cases h) (.inl (Below.refl _ _)) hI
      · intro t d a_ vs wt ht hI hdi hW hcl hD hA K hK
        have dg : vs 2 = Value.bool true := hD 2 rfl (fun c h => by cases h)
        have ag : a_.tmps[20]?.getD undef = vs 2 := hA 20
        rw [dg] at ag
        refine if_no (by show (yielded _ _ 2 == some false) = false; rw [guard_val (o := _) rfl rfl ag]; rfl) ?_
        exact hK undef _ (fun h => by cases h) (.inl (Below.refl _ _)) hI
      · intro t d a_ vs wt ht hI hdi hW hcl hD hA K hK
        refine if_yes rfl ?_
        have d2 : vs 2 = Value.bool true := hD 2 rfl (fun c h => by cases h)
        have a20 : a_.tmps[20]?.getD undef = vs 2 := hA 20
        rw [d2] at a20
        clear hA hD hW hcl
        go_simp
        exact hK _ _ rfl (.inl (Below.refl _ _)) hI
      · intro t d a_ vs wt ht hI hdi hW hcl hD hA K hK
        refine if_yes rfl ?_
        have d9 : vs 9 = Value.bool true := hD 9 rfl (fun c h => by cases h)
        have a27 : a_.tmps[27]?.getD undef = vs 9 := hA 27
        rw [d9] at a27
        clear hA hD hW hcl
        go_simp
        exact hK _ _ rfl (.inl (Below.refl _ _)) hI
      · intro t d a_ vs wt ht hI hdi hW hcl hD hA K hK
        have dg : vs 10 = Value.bool true := hD 10 rfl (fun c h => by cases h)
        have ag : a_.tmps[28]?.getD undef = vs 10 := hA 28
        rw [dg] at ag
        refine if_yes (by show (yielded _ _ 10 == some true) = true; rw [guard_val (o := _) rfl rfl ag]; rfl) ?_
        clear hA hD hW hcl
        have hal : Ext wt (wt.alloc (.cells #[] 34)) := (Below.refl _ _).alloc (Nat.le_refl _) _
        have hF : Fr (wt.alloc (.cells #[] 34)) w7.heap.size 34 3 (.slice (some ⟨wt.heap.size, 0, none⟩) 0 0) 0 (c3 []) := .inr (Row.lit (n := 0) #[] (by simp) (by unfold maxLen; omega) hI.size)
        go_simp
        exact hK _ _ ⟨_, rfl, hF⟩ (.inl hal) (hI.trans hal)
      · intro t d a_ vs wt ht hI hdi hW hcl hD hA K hK
        have dg : vs 10 = Value.bool true := hD 10 rfl (fun c h => by cases h)
        have ag : a_.tmps[28]?.getD undef = vs 10 := hA 28
        rw [dg] at ag
        refine if_yes (by show (yielded _ _ 10 == some true) = true; rw [guard_val (o := _) rfl rfl ag]; rfl) ?_
        have a3 : a_.tmps[3]?.getD undef = Value.slice A1 n c1 := hA 3
        clear hA hD hW hcl
        go_simp
        exact hK _ _ rfl (.inl (Below.refl _ _)) hI
      · intro t d a_ vs wt ht hI hdi hW hcl hD hA K hK
        have dg : vs 10 = Value.bool true := hD 10 rfl (fun c h => by cases h)
        have ag : a_.tmps[28]?.getD undef = vs 10 := hA 28
        rw [dg] at ag
        refine if_yes (by show (yielded _ _ 10 == some true) = true; rw [guard_val (o := _) rfl rfl ag]; rfl) ?_
        have d12 : vs 12 = Value.slice A1 n c1 := hD 12 rfl (fun c h => by cases h)
        have a30 : a_.tmps[30]?.getD undef = vs 12 := hA 30
        rw [d12] at a30
        obtain ⟨b, e0, hF⟩ := hD 11 rfl (fun c h => by cases h; exact .inl rfl)
        have a29 : a_.tmps[29]?.getD undef = vs 11 := hA 29
        rw [e0] at a29 hF
        refine wp_append_empty (P := Try.prog) wt (.tmp 29) (.tmp 30) 25 rfl w7.heap.size 34 i1 _ 3 24 Try.underlying25 ki kz0 kz1 kz2 rfl (by omega) _ (by simpa [Act.eval] using a29) hF _ n c1 _ (by simpa [Act.eval] using a30) (hR7.below hI) (one_c3 _) (by unfold maxLen; omega) (by omega) hI.size ?_
        intro A' c' w' hF' he
        exact hK _ _ ⟨_, _, rfl, hF'⟩ (.inl he) (hI.trans he)
      · intro t d a_ vs wt ht hI hdi hW hcl hD hA K hK
        have dg : vs 10 = Value.bool true := hD 10 rfl (fun c h => by cases h)
        have ag : a_.tmps[28]?.getD undef = vs 10 := hA 28
        rw [dg] at ag
        refine if_yes (by show (yielded _ _ 10 == some true) = true; rw [guard_val (o := _) rfl rfl ag]; rfl) ?_
        have a5 : a_.tmps[5]?.getD undef = Value.pointer (some ⟨cc, 0, none⟩) := hA 5
        obtain ⟨q0_, q1_, q2_⟩ := hS _ hI
        clear hA hD hW hcl
        go_simp
        exact hK _ _ rfl (.inl (Below.refl _ _)) hI
      · intro t d a_ vs wt ht hI hdi hW hcl hD hA K hK
        have dg : vs 10 = Value.bool true := hD 10 rfl (fun c h => by cases h)
        have ag : a_.tmps[28]?.getD undef = vs 10 := hA 28
        rw [dg] at ag
        refine if_yes (by show (yielded _ _ 10 == some true) = true; rw [guard_val (o := _) rfl rfl ag]; rfl) ?_
        have a5 : a_.tmps[5]?.getD undef = Value.pointer (some ⟨cc, 0, none⟩) := hA 5
        obtain ⟨q0_, q1_, q2_⟩ := hS _ hI
        clear hA hD hW hcl
        go_simp
        exact hK _ _ rfl (.inl (Below.refl _ _)) hI
      · intro t d a_ vs wt ht hI hdi hW hcl hD hA K hK
        have dg : vs 10 = Value.bool true := hD 10 rfl (fun c h => by cases h)
        have ag : a_.tmps[28]?.getD undef = vs 10 := hA 28
        rw [dg] at ag
        refine if_yes (by show (yielded _ _ 10 == some true) = true; rw [guard_val (o := _) rfl rfl ag]; rfl) ?_
        have d14 : vs 14 = Value.agg #[.int .i64 255, .int .i64 0, .int .i64 1] := hD 14 rfl (fun c h => by cases h)
        have a32 : a_.tmps[32]?.getD undef = vs 14 := hA 32
        rw [d14] at a32
        have d15 : vs 15 = Value.agg #[.int .i64 255, .int .i64 0, .int .i64 1] := hD 15 rfl (fun c h => by cases h)
        have a33 : a_.tmps[33]?.getD undef = vs 15 := hA 33
        rw [d15] at a33
        clear hA hD hW hcl
        have hal : Ext wt (wt.alloc (.cells #[.int .i64 255, .int .i64 0, .int .i64 1, .int .i64 255, .int .i64 0, .int .i64 1] 34)) := (Below.refl _ _).alloc (Nat.le_refl _) _
        have hRl : Rd (wt.alloc (.cells #[.int .i64 255, .int .i64 0, .int .i64 1, .int .i64 255, .int .i64 0, .int .i64 1] 34)) 3 (some ⟨wt.heap.size, 0, none⟩) 2 2 (c3 [(255, 0, 1), (255, 0, 1)]) := Rd.lit (sz := 3) (n := 2) #[.int .i64 255, .int .i64 0, .int .i64 1, .int .i64 255, .int .i64 0, .int .i64 1] rfl (by omega)
        go_simp
        exact hK _ _ ⟨_, rfl, hRl⟩ (.inl hal) (hI.trans hal)
      · intro t d a_ vs wt ht hI hdi hW hcl hD hA K hK
        have dg : vs 10 = Value.bool true := hD 10 rfl (fun c h => by cases h)
        have ag : a_.tmps[28]?.getD undef = vs 10 := hA 28
        rw [dg] at ag
        refine if_yes (by show (yielded _ _ 10 == some true) = true; rw [guard_val (o := _) rfl rfl ag]; rfl) ?_
        obtain ⟨A4, c4, e4, hF⟩ := hD 13 rfl (fun c h => by cases h; exact .inl rfl)
        obtain ⟨b6, e6, hR6⟩ := hD 16 rfl (fun c h => by cases h; exact .inl rfl)
        have a31 : a_.tmps[31]?.getD undef = vs 13 := hA 31
        have a34 : a_.tmps[34]?.getD undef = vs 16 := hA 34
        have w13 : d 13 = true := hW 13 rfl
        rw [e4] at a31 hF
        rw [e6] at a34
        refine wp_append_fr (P := Try.prog) wt (.tmp 31) (.tmp 34) 25 rfl w7.heap.size 34 i1 _ 3 24 Try.underlying25 ki kz0 kz1 kz2 rfl (by omega) _ n _ (by simpa [Act.eval] using a31) hF _ 2 2 _ (by simpa [Act.eval] using a34) hR6 (one_c3 _) (by unfold maxLen; omega) (by omega) hI.size ?_
        intro A' c' w' row hF' hg' hr'
        rw [← c3_append] at hF'
        refine hK _ _ ⟨_, _, rfl, hF'⟩ (.inr fun k hk hdk hal hne hGk => ?_) (ext_grown hI hg' (fun k hk => (hr' k hk).1))
        have hdi' : d 17 = false := hdi
        exact SVf_keep hGk (fun e => by subst e; have := hal 13 rfl; rw [w13] at this; cases this) (fun e => by subst e; exact hne rfl) (fun e => by subst e; exact hne rfl) (fun e => by subst e; have h6 : d 17 = true := hdk; rw [hdi'] at h6; cases h6)
      · intro t d a_ vs wt ht hI hdi hW hcl hD hA K hK
        have dg : vs 10 = Value.bool true := hD 10 rfl (fun c h => by cases h)
        have ag : a_.tmps[28]?.getD undef = vs 10 := hA 28
        rw [dg] at ag
        refine if_yes (by show (yielded _ _ 10 == some true) = true; rw [guard_val (o := _) rfl rfl ag]; rfl) ?_
        obtain ⟨A5, c5, e5, hF⟩ := hD 17 rfl (fun c h => by cases h)
        have a35 : a_.tmps[35]?.getD undef = vs 17 := hA 35
        rw [e5] at a35 hF
        clear hA hD hW hcl
        go_simp
        refine (SpaceValid_any _ _ _ _ _ hF.rd'.2).mono ?_; rintro e w9 ⟨rfl, hb9⟩; rw [HDUP.out]
        exact hK _ _ rfl (.inl hb9) (hI.trans hb9)
      · intro t d a_ vs wt ht hI hdi hW hcl hD hA K hK
        have dg : vs 10 = Value.bool true := hD 10 rfl (fun c h => by cases h)
        have ag : a_.tmps[28]?.getD undef = vs 10 := hA 28
        rw [dg] at ag
        refine if_yes (by show (yielded _ _ 10 == some true) = true; rw [guard_val (o := _) rfl rfl ag]; rfl) ?_
        have d18 : vs 18 = Value.bool false := hD 18 rfl (fun c h => by cases h)
        have a36 : a_.tmps[36]?.getD undef = vs 18 := hA 36
        rw [d18] at a36
        clear hA hD hW hcl
        go_simp
        exact hK _ _ rfl (.inl (Below.refl _ _)) hI
      · intro t d a_ vs wt ht hI hdi hW hcl hD hA K hK
        refine if_yes rfl ?_
        have d10 : vs 10 = Value.bool true := hD 10 rfl (fun c h => by cases h)
        have a28 : a_.tmps[28]?.getD undef = vs 10 := hA 28
        rw [d10] at a28
        have d19 : vs 19 = Value.bool true := hD 19 rfl (fun c h => by cases h)
        have a37 : a_.tmps[37]?.getD undef = vs 19 := hA 37
        rw [d19] at a37
        clear hA hD hW hcl
        go_simp
        exact hK _ _ rfl (.inl (Below.refl _ _)) hI
      · intro t d a_ vs wt ht hI hdi hW hcl hD hA K hK
        refine if_yes rfl ?_
        have d20 : vs 20 = Value.bool true := hD 20 rfl (fun c h => by cases h)
        have a38 : a_.tmps[38]?.getD undef = vs 20 := hA 38
        rw [d20] at a38
        clear hA hD hW hcl
        go_simp
        exact hK _ _ rfl (.inl (Below.refl _ _)) hI
      · intro t d a_ vs wt ht hI hdi hW hcl hD hA K hK
        have dg : vs 21 = Value.bool true := hD 21 rfl (fun c h => by cases h)
        have ag : a_.tmps[39]?.getD undef = vs 21 := hA 39
        rw [dg] at ag
        refine if_yes (by show (yielded _ _ 21 == some true) = true; rw [guard_val (o := _) rfl rfl ag]; rfl) ?_
        clear hA hD hW hcl
        go_simp
        refine (alive_any _).mono ?_; rintro e w9 ⟨rfl, hb9⟩
        exact hK _ _ rfl (.inl hb9) (hI.trans hb9)
      · intro t d a_ vs wt ht hI hdi hW hcl hD hA K hK
        refine if_yes rfl ?_
        have d21 : vs 21 = Value.bool true := hD 21 rfl (fun c h => by cases h)
        have a39 : a_.tmps[39]?.getD undef = vs 21 := hA 39
        rw [d21] at a39
        have d22 : vs 22 = Value.bool true := hD 22 rfl (fun c h => by cases h)
        have a40 : a_.tmps[40]?.getD undef = vs 22 := hA 40
        rw [d22] at a40
        clear hA hD hW hcl
        go_simp
        exact hK _ _ rfl (.inl (Below.refl _ _)) hI
      · intro t d a_ vs wt ht hI hdi hW hcl hD hA K hK
        refine if_yes rfl ?_
        have d23 : vs 23 = Value.bool true := hD 23 rfl (fun c h => by cases h)
        have a41 : a_.tmps[41]?.getD undef = vs 23 := hA 41
        rw [d23] at a41
        clear hA hD hW hcl
        go_simp
        exact hK _ _ rfl (.inl (Below.refl _ _)) hI
    · intro t vs wz ht hI hF
      obtain ⟨f0, f1, f2, f3, f4, f5, f6, f7, f8, f9, f10, f11, f12, f13, f14, f15, f16, f17, f18, f19, f20, f21, f22, f23, f24, -⟩ := hF
      have e24 : vs 24 = Value.bool true := f24 rfl
      simp only [putAll, Act.put, List.setIfInBounds_toArray, List.set_cons_zero, List.set_cons_succ]
      rw [e24]
      clear f0 f1 f2 f3 f4 f5 f6 f7 f8 f9 f10 f11 f12 f13 f14 f15 f16 f17 f18 f19 f20 f21 f22 f23 f24
      go_wp2
      go_ret
      exact ⟨rfl, hbb.trans hI⟩
  · have HTK := Lib.hid (spValid_take kk hsv)
    clear hsv SV hv
    go_wp2_with fail
    rw [← hw7]
    clear hw7 hcc
    refine wp_region_once3 Ext (SVf w7 A1 n c1 kk ms true) SVc (fun _ w' => Ext w7 w') (by kernel_rfl) (by kernel_rfl) (by rfl) ((Below.refl _ _).drew) (SVf_ext _ _ _ _ _ _ _) ?_ ?_
    · refine ⟨?_, ?_, ?_, ?_, ?_, ?_, ?_, ?_, ?_, ?_, ?_, ?_, ?_, ?_, ?_, ?_, ?_, ?_, ?_, ?_, ?_, ?_, ?_, ?_, ?_, trivial⟩
      · intro t d a_ vs wt ht hI hdi hW hcl hD hA K hK
        refine if_yes rfl ?_
        have a4 : a_.tmps[4]?.getD undef = Value.bool true := hA 4
        clear hA hD hW hcl
        go_simp
        exact hK _ _ rfl (.inl (Below.refl _ _)) hI
      · intro t d a_ vs wt ht hI hdi hW hcl hD hA K hK
        refine if_yes rfl ?_
        have d0 : vs 0 = Value.bool true := hD 0 rfl (fun c h => by cases h)
        have a18 : a_.tmps[18]?.getD undef = vs 0 := hA 18
        rw [d0] at a18
        clear hA hD hW hcl
        go_simp
        exact hK _ _ rfl (.inl (Below.refl _ _)) hI
      · intro t d a_ vs wt ht hI hdi hW hcl hD hA K hK
        refine if_yes rfl ?_
        have d1 : vs 1 = Value.bool false := hD 1 rfl (fun c h => by cases h)
        have a19 : a_.tmps[19]?.getD undef = vs 1 := hA 19
        rw [d1] at a19
        clear hA hD hW hcl
        go_simp
        exact hK _ _ rfl (.inl (Below.refl _ _)) hI
      · intro t d a_ vs wt ht hI hdi hW hcl hD hA K hK
        have dg : vs 2 = Value.bool false := hD 2 rfl (fun c h => by cases h)
        have ag : a_.tmps[20]?.getD undef = vs 2 := hA 20
        rw [dg] at ag
        refine if_yes (by show (yielded _ _ 2 == some false) = true; rw [guard_val (o := _) rfl rfl ag]; rfl) ?_
        have a3 : a_.tmps[3]?.getD undef = Value.slice A1 n c1 := hA 3
        clear hA hD hW hcl
        go_simp
        exact hK _ _ (fun _ => rfl) (.inl (Below.refl _ _)) hI
      · intro t d a_ vs wt ht hI hdi hW hcl hD hA K hK
        have dg : vs 2 = Value.bool false := hD 2 rfl (fun c h => by cases h)
        have ag : a_.tmps[20]?.getD undef = vs 2 := hA 20
        rw [dg] at ag
        refine if_yes (by show (yielded _ _ 2 == some false) = true; rw [guard_val (o := _) rfl rfl ag]; rfl) ?_
        have a3 : a_.tmps[3]?.getD undef = Value.slice A1 n c1 := hA 3
        clear hA hD hW hcl
        go_simp
        exact hK _ _ (fun _ => rfl) (.inl (Below.refl _ _)) hI
      · intro t d a_ vs wt ht hI hdi hW hcl hD hA K hK
        have dg : vs 2 = Value.bool false := hD 2 rfl (fun c h => by cases h)
        have ag : a_.tmps[20]?.getD undef = vs 2 := hA 20
        rw [dg] at ag
        refine if_yes (by show (yielded _ _ 2 == some false) = true; rw [guard_val (o := _) rfl rfl ag]; rfl) ?_
        have d4 : vs 4 = Value.slice A1 n c1 := hD 4 rfl (fun c h => by cases h) rfl
        have a22 : a_.tmps[22]?.getD undef = vs 4 := hA 22
        rw [d4] at a22
        clear hA hD hW hcl
        go_simp
        exact hK _ _ (fun _ => rfl) (.inl (Below.refl _ _)) hI
      · intro t d a_ vs wt ht hI hdi hW hcl hD hA K hK
        have dg : vs 2 = Value.bool false := hD 2 rfl (fun c h => by cases h)
        have ag : a_.tmps[20]?.getD undef = vs 2 := hA 20
        rw [dg] at ag
        refine if_yes (by show (yielded _ _ 2 == some false) = true; rw [guard_val (o := _) rfl rfl ag]; rfl) ?_
        have d5 : vs 5 = Value.int .i64 (n : Int) := hD 5 rfl (fun c h => by cases h) rfl
        have a23 : a_.tmps[23]?.getD undef = vs 5 := hA 23
        rw [d5] at a23
        clear hA hD hW hcl
        go_simp
        exact hK _ _ (fun _ => by rw [HQ.out, Go.IntWalk.i64_in _ (by omega)]) (.inl (Below.refl _ _)) hI
      · intro t d a_ vs wt ht hI hdi hW hcl hD hA K hK
        have dg : vs 2 = Value.bool false := hD 2 rfl (fun c h => by cases h)
        have ag : a_.tmps[20]?.getD undef = vs 2 := hA 20
        rw [dg] at ag
        refine if_yes (by show (yielded _ _ 2 == some false) = true; rw [guard_val (o := _) rfl rfl ag]; rfl) ?_
        have d3 : vs 3 = Value.slice A1 n c1 := hD 3 rfl (fun c h => by cases h) rfl
        have a21 : a_.tmps[21]?.getD undef = vs 3 := hA 21
        rw [d3] at a21
        have d6 : vs 6 = Value.int .i64 (kk : Int) := hD 6 rfl (fun c h => by cases h) rfl
        have a24 : a_.tmps[24]?.getD undef = vs 6 := hA 24
        rw [d6] at a24
        clear hA hD hW hcl
        by_cases hc0 : c1 = 0
        · subst hc0
          obtain rfl : kk = 0 := by omega
          go_simp
          exact hK _ _ (fun _ => rfl) (.inl (Below.refl _ _)) hI
        · go_simp
          exact hK _ _ (fun _ => rfl) (.inl (Below.refl _ _)) hI
      · intro t d a_ vs wt ht hI hdi hW hcl hD hA K hK
        have dg : vs 2 = Value.bool false := hD 2 rfl (fun c h => by cases h)
        have ag : a_.tmps[20]?.getD undef = vs 2 := hA 20
        rw [dg] at ag
        refine if_yes (by show (yielded _ _ 2 == some false) = true; rw [guard_val (o := _) rfl rfl ag]; rfl) ?_
        have d7 : vs 7 = Value.slice A1 kk c1 := hD 7 rfl (fun c h => by cases h) rfl
        have a25 : a_.tmps[25]?.getD undef = vs 7 := hA 25
        rw [d7] at a25
        clear hA hD hW hcl
        go_simp
        refine (SpaceValid_any _ _ _ _ _ (Rd.head3 (hR7.below hI) hk0)).mono ?_; rintro e w9 ⟨rfl, hb9⟩; rw [HTK.out]
        exact hK _ _ (fun _ => rfl) (.inl hb9) (hI.trans hb9)
      · intro t d a_ vs wt ht hI hdi hW hcl hD hA K hK
        refine if_yes rfl ?_
        have d2 : vs 2 = Value.bool false := hD 2 rfl (fun c h => by cases h)
        have a20 : a_.tmps[20]?.getD undef = vs 2 := hA 20
        rw [d2] at a20
        have d8 : vs 8 = Value.bool true := hD 8 rfl (fun c h => by cases h) rfl
        have a26 : a_.tmps[26]?.getD undef = vs 8 := hA 26
        rw [d8] at a26
        clear hA hD hW hcl
        go_simp
        exact hK _ _ rfl (.inl (Below.refl _ _)) hI
      · intro t d a_ vs wt ht hI hdi hW hcl hD hA K hK
        refine if_yes rfl ?_
        have d9 : vs 9 = Value.bool true := hD 9 rfl (fun c h => by cases h)
        have a27 : a_.tmps[27]?.getD undef = vs 9 := hA 27
        rw [d9] at a27
        clear hA hD hW hcl
        go_simp
        exact hK _ _ rfl (.inl (Below.refl _ _)) hI
      · intro t d a_ vs wt ht hI hdi hW hcl hD hA K hK
        have dg : vs 10 = Value.bool true := hD 10 rfl (fun c h => by cases h)
        have ag : a_.tmps[28]?.getD undef = vs 10 := hA 28
        rw [dg] at ag
        refine if_yes (by show (yielded _ _ 10 == some true) = true; rw [guard_val (o := _) rfl rfl ag]; rfl) ?_
        clear hA hD hW hcl
        have hal : Ext wt (wt.alloc (.cells #[] 34)) := (Below.refl _ _).alloc (Nat.le_refl _) _
        have hF : Fr (wt.alloc (.cells #[] 34)) w7.heap.size 34 3 (.slice (some ⟨wt.heap.size, 0, none⟩) 0 0) 0 (c3 []) := .inr (Row.lit (n := 0) #[] (by simp) (by unfold maxLen; omega) hI.size)
        go_simp
        exact hK _ _ ⟨_, rfl, hF⟩ (.inl hal) (hI.trans hal)
      · intro t d a_ vs wt ht hI hdi hW hcl hD hA K hK
        have dg : vs 10 = Value.bool true := hD 10 rfl (fun c h => by cases h)
        have ag : a_.tmps[28]?.getD undef = vs 10 := hA 28
        rw [dg] at ag
        refine if_yes (by show (yielded _ _ 10 == some true) = true; rw [guard_val (o := _) rfl rfl ag]; rfl) ?_
        have a3 : a_.tmps[3]?.getD undef = Value.slice A1 n c1 := hA 3
        clear hA hD hW hcl
        go_simp
        exact hK _ _ rfl (.inl (Below.refl _ _)) hI
      · intro t d a_ vs wt ht hI hdi hW hcl hD hA K hK
        have dg : vs 10 = Value.bool true := hD 10 rfl (fun c h => by cases h)
        have ag : a_.tmps[28]?.getD undef = vs 10 := hA 28
        rw [dg] at ag
        refine if_yes (by show (yielded _ _ 10 == some true) = true; rw [guard_val (o := _) rfl rfl ag]; rfl) ?_
        have d12 : vs 12 = Value.slice A1 n c1 := hD 12 rfl (fun c h => by cases h)
        have a30 : a_.tmps[30]?.getD undef = vs 12 := hA 30
        rw [d12] at a30
        obtain ⟨b, e0, hF⟩ := hD 11 rfl (fun c h => by cases h; exact .inl rfl)
        have a29 : a_.tmps[29]?.getD undef = vs 11 := hA 29
        rw [e0] at a29 hF
        refine wp_append_empty (P := Try.prog) wt (.tmp 29) (.tmp 30) 25 rfl w7.heap.size 34 i1 _ 3 24 Try.underlying25 ki kz0 kz1 kz2 rfl (by omega) _ (by simpa [Act.eval] using a29) hF _ n c1 _ (by simpa [Act.eval] using a30) (hR7.below hI) (one_c3 _) (by unfold maxLen; omega) (by omega) hI.size ?_
        intro A' c' w' hF' he
        exact hK _ _ ⟨_, _, rfl, hF'⟩ (.inl he) (hI.trans he)
      · intro t d a_ vs wt ht hI hdi hW hcl hD hA K hK
        have dg : vs 10 = Value.bool true := hD 10 rfl (fun c h => by cases h)
        have ag : a_.tmps[28]?.getD undef = vs 10 := hA 28
        rw [dg] at ag
        refine if_yes (by show (yielded _ _ 10 == some true) = true; rw [guard_val (o := _) rfl rfl ag]; rfl) ?_
        have a5 : a_.tmps[5]?.getD undef = Value.pointer (some ⟨cc, 0, none⟩) := hA 5
        obtain ⟨q0_, q1_, q2_⟩ := hS _ hI
        clear hA hD hW hcl
        go_simp
        exact hK _ _ rfl (.inl (Below.refl _ _)) hI
      · intro t d a_ vs wt ht hI hdi hW hcl hD hA K hK
        have dg : vs 10 = Value.bool true := hD 10 rfl (fun c h => by cases h)
        have ag : a_.tmps[28]?.getD undef = vs 10 := hA 28
        rw [dg] at ag
        refine if_yes (by show (yielded _ _ 10 == some true) = true; rw [guard_val (o := _) rfl rfl ag]; rfl) ?_
        have a5 : a_.tmps[5]?.getD undef = Value.pointer (some ⟨cc, 0, none⟩) := hA 5
        obtain ⟨q0_, q1_, q2_⟩ := hS _ hI
        clear hA hD hW hcl
        go_simp
        exact hK _ _ rfl (.inl (Below.refl _ _)) hI
      · intro t d a_ vs wt ht hI hdi hW hcl hD hA K hK
        have dg : vs 10 = Value.bool true := hD 10 rfl (fun c h => by cases h)
        have ag : a_.tmps[28]?.getD undef = vs 10 := hA 28
        rw [dg] at ag
        refine if_yes (by show (yielded _ _ 10 == some true) = true; rw [guard_val (o := _) rfl rfl ag]; rfl) ?_
        have d14 : vs 14 = Value.agg #[.int .i64 255, .int .i64 0, .int .i64 1] := hD 14 rfl (fun c h => by cases h)
        have a32 : a_.tmps[32]?.getD undef = vs 14 := hA 32
        rw [d14] at a32
        have d15 : vs 15 = Value.agg #[.int .i64 255, .int .i64 0, .int .i64 1] := hD 15 rfl (fun c h => by cases h)
        have a33 : a_.tmps[33]?.getD undef = vs 15 := hA 33
        rw [d15] at a33
        clear hA hD hW hcl
        have hal : Ext wt (wt.alloc (.cells #[.int .i64 255, .int .i64 0, .int .i64 1, .int .i64 255, .int .i64 0, .int .i64 1] 34)) := (Below.refl _ _).alloc (Nat.le_refl _) _
        have hRl : Rd (wt.alloc (.cells #[.int .i64 255, .int .i64 0, .int .i64 1, .int .i64 255, .int .i64 0, .int .i64 1] 34)) 3 (some ⟨wt.heap.size, 0, none⟩) 2 2 (c3 [(255, 0, 1), (255, 0, 1)]) := Rd.lit (sz := 3) (n := 2) #[.int .i64 255, .int .i64 0, .int .i64 1, .int .i64 255, .int .i64 0, .int .i64 1] rfl (by omega)
        go_simp
        exact hK _ _ ⟨_, rfl, hRl⟩ (.inl hal) (hI.trans hal)
      · intro t d a_ vs wt ht hI hdi hW hcl hD hA K hK
        have dg : vs 10 = Value.bool true := hD 10 rfl (fun c h => by cases h)
        have ag : a_.tmps[28]?.getD undef = vs 10 := hA 28
        rw [dg] at ag
        refine if_yes (by show (yielded _ _ 10 == some true) = true; rw [guard_val (o := _) rfl rfl ag]; rfl) ?_
        obtain ⟨A4, c4, e4, hF⟩ := hD 13 rfl (fun c h => by cases h; exact .inl rfl)
        obtain ⟨b6, e6, hR6⟩ := hD 16 rfl (fun c h => by cases h; exact .inl rfl)
        have a31 : a_.tmps[31]?.getD undef = vs 13 := hA 31
        have a34 : a_.tmps[34]?.getD undef = vs 16 := hA 34
        have w13 : d 13 = true := hW 13 rfl
        rw [e4] at a31 hF
        rw [e6] at a34
        refine wp_append_fr (P := Try.prog) wt (.tmp 31) (.tmp 34) 25 rfl w7.heap.size 34 i1 _ 3 24 Try.underlying25 ki kz0 kz1 kz2 rfl (by omega) _ n _ (by simpa [Act.eval] using a31) hF _ 2 2 _ (by simpa [Act.eval] using a34) hR6 (one_c3 _) (by unfold maxLen; omega) (by omega) hI.size ?_
        intro A' c' w' row hF' hg' hr'
        rw [← c3_append] at hF'
        refine hK _ _ ⟨_, _, rfl, hF'⟩ (.inr fun k hk hdk hal hne hGk => ?_) (ext_grown hI hg' (fun k hk => (hr' k hk).1))
        have hdi' : d 17 = false := hdi
        exact SVf_keep hGk (fun e => by subst e; have := hal 13 rfl; rw [w13] at this; cases this) (fun e => by subst e; exact hne rfl) (fun e => by subst e; exact hne rfl) (fun e => by subst e; have h6 : d 17 = true := hdk; rw [hdi'] at h6; cases h6)
      · intro t d a_ vs wt ht hI hdi hW hcl hD hA K hK
        have dg : vs 10 = Value.bool true := hD 10 rfl (fun c h => by cases h)
        have ag : a_.tmps[28]?.getD undef = vs 10 := hA 28
        rw [dg] at ag
        refine if_yes (by show (yielded _ _ 10 == some true) = true; rw [guard_val (o := _) rfl rfl ag]; rfl) ?_
        obtain ⟨A5, c5, e5, hF⟩ := hD 17 rfl (fun c h => by cases h)
        have a35 : a_.tmps[35]?.getD undef = vs 17 := hA 35
        rw [e5] at a35 hF
        clear hA hD hW hcl
        go_simp
        refine (SpaceValid_any _ _ _ _ _ hF.rd'.2).mono ?_; rintro e w9 ⟨rfl, hb9⟩; rw [HDUP.out]
        exact hK _ _ rfl (.inl hb9) (hI.trans hb9)
      · intro t d a_ vs wt ht hI hdi hW hcl hD hA K hK
        have dg : vs 10 = Value.bool true := hD 10 rfl (fun c h => by cases h)
        have ag : a_.tmps[28]?.getD undef = vs 10 := hA 28
        rw [dg] at ag
        refine if_yes (by show (yielded _ _ 10 == some true) = true; rw [guard_val (o := _) rfl rfl ag]; rfl) ?_
        have d18 : vs 18 = Value.bool false := hD 18 rfl (fun c h => by cases h)
        have a36 : a_.tmps[36]?.getD undef = vs 18 := hA 36
        rw [d18] at a36
        clear hA hD hW hcl
        go_simp
        exact hK _ _ rfl (.inl (Below.refl _ _)) hI
      · intro t d a_ vs wt ht hI hdi hW hcl hD hA K hK
        refine if_yes rfl ?_
        have d10 : vs 10 = Value.bool true := hD 10 rfl (fun c h => by cases h)
        have a28 : a_.tmps[28]?.getD undef = vs 10 := hA 28
        rw [d10] at a28
        have d19 : vs 19 = Value.bool true := hD 19 rfl (fun c h => by cases h)
        have a37 : a_.tmps[37]?.getD undef = vs 19 := hA 37
        rw [d19] at a37
        clear hA hD hW hcl
        go_simp
        exact hK _ _ rfl (.inl (Below.refl _ _)) hI
      · intro t d a_ vs wt ht hI hdi hW hcl hD hA K hK
        refine if_yes rfl ?_
        have d20 : vs 20 = Value.bool true := hD 20 rfl (fun c h => by cases h)
        have a38 : a_.tmps[38]?.getD undef = vs 20 := hA 38
        rw [d20] at a38
        clear hA hD hW hcl
        go_simp
        exact hK _ _ rfl (.inl (Below.refl _ _)) hI
      · intro t d a_ vs wt ht hI hdi hW hcl hD hA K hK
        have dg : vs 21 = Value.bool true := hD 21 rfl (fun c h => by cases h)
        have ag : a_.tmps[39]?.getD undef = vs 21 := hA 39
        rw [dg] at ag
        refine if_yes (by show (yielded _ _ 21 == some true) = true; rw [guard_val (o := _) rfl rfl ag]; rfl) ?_
        clear hA hD hW hcl
        go_simp
        refine (alive_any _).mono ?_; rintro e w9 ⟨rfl, hb9⟩
        exact hK _ _ rfl (.inl hb9) (hI.trans hb9)
      · intro t d a_ vs wt ht hI hdi hW hcl hD hA K hK
        refine if_yes rfl ?_
        have d21 : vs 21 = Value.bool true := hD 21 rfl (fun c h => by cases h)
        have a39 : a_.tmps[39]?.getD undef = vs 21 := hA 39
        rw [d21] at a39
        have d22 : vs 22 = Value.bool true := hD 22 rfl (fun c h => by cases h)
        have a40 : a_.tmps[40]?.getD undef = vs 22 := hA 40
        rw [d22] at a40
        clear hA hD hW hcl
        go_simp
        exact hK _ _ rfl (.inl (Below.refl _ _)) hI
      · intro t d a_ vs wt ht hI hdi hW hcl hD hA K hK
        refine if_yes rfl ?_
        have d23 : vs 23 = Value.bool true := hD 23 rfl (fun c h => by cases h)
        have a41 : a_.tmps[41]?.getD undef = vs 23 := hA 41
        rw [d23] at a41
        clear hA hD hW hcl
        go_simp
        exact hK _ _ rfl (.inl (Below.refl _ _)) hI
    · intro t vs wz ht hI hF
      obtain ⟨f0, f1, f2, f3, f4, f5, f6, f7, f8, f9, f10, f11, f12, f13, f14, f15, f16, f17, f18, f19, f20, f21, f22, f23, f24, -⟩ := hF
      have e24 : vs 24 = Value.bool true := f24 rfl
      simp only [putAll, Act.put, List.setIfInBounds_toArray, List.set_cons_zero, List.set_cons_succ]
      rw [e24]
      clear f0 f1 f2 f3 f4 f5 f6 f7 f8 f9 f10 f11 f12 f13 f14 f15 f16 f17 f18 f19 f20 f21 f22 f23 f24
      go_wp2
      go_ret
      exact ⟨rfl, hbb.trans hI⟩
end Go.Proofs.Ytcdmpnkcfopmbaa
