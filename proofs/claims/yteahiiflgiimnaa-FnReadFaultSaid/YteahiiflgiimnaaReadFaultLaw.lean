/-
  The law FnReadFault returns true at every input, and leaves all that was there as it was: the walk.
-/
import Derived.Test.YteahiiflgiimnaaMsC
import Derived.Test.YteahiiflgiimnaaMsD
import Derived.Test.YteahiiflgiimnaaMsE
import Derived.Test.YteahiiflgiimnaaDrV
import Derived.Test.YteahiiflgiimnaaMpS
import Derived.Test.YteahiiflgiimnaaAlive
import Derived.Test.YteahiiflgiimnaaOnce3
import Derived.Deep.Cut
namespace Go.Proofs.Yteahiiflgiimnaa
open Go.RowKit

theorem rdF_out {l k a r : Int} {ws : List Int} {m : Nat} {ok : Bool} (h : rdF l ws m = ((k, a, r), ok)) : (ok = false ∧ k = 0 ∧ a = 0 ∧ r = 0) ∨ (ok = true ∧ m = 0 ∧ mgL k a r = l ∧ mgW k a r = ws) := by
  unfold rdF at h
  split at h
  · rename_i x y z
    split at h
    · rename_i hc
      simp only [Prod.mk.injEq] at h
      obtain ⟨⟨rfl, rfl, rfl⟩, rfl⟩ := h
      simp only [Bool.and_eq_true, beq_iff_eq] at hc
      obtain ⟨⟨⟨⟨rfl, hx⟩, hy⟩, hz⟩, hl⟩ := hc
      have hx' := inB_iff.1 hx
      have hy' := inB_iff.1 hy
      have hl' := inB_iff.1 hl
      have ht : toldB (l - 100) (x * 256 + y) z = true := by
        unfold toldB
        rw [inB_iff.2 (show 1 ≤ l - 100 ∧ l - 100 ≤ 2 by omega), inB_iff.2 (show 0 ≤ x * 256 + y ∧ x * 256 + y ≤ 65535 by omega), hz]; rfl
      refine .inr ⟨rfl, rfl, ?_, ?_⟩
      · rw [mgL_yes ht]; omega
      · rw [mgW_yes ht, show (x * 256 + y) / 256 = x by omega, show (x * 256 + y) % 256 = y by omega]
    · simp only [Prod.mk.injEq] at h
      obtain ⟨⟨h1, h2, h3⟩, h4⟩ := h
      exact .inl ⟨h4.symm, h1.symm, h2.symm, h3.symm⟩
  · simp only [Prod.mk.injEq] at h
    obtain ⟨⟨h1, h2, h3⟩, h4⟩ := h
    exact .inl ⟨h4.symm, h1.symm, h2.symm, h3.symm⟩

/-- Region 8, where the message tells a fault: what is known of the values. -/
def RFf (L k a r : Int) (A1 B1 : Option Addr) (n c1 d1 : Nat) (ws : List Int) : Nat → Value → World → Prop
  | 0, v, _ => v = .bool true
  | 1, v, _ => v = .bool false
  | 2, v, _ => v = .bool false
  | 6, v, _ => v = .bool false
  | 7, v, _ => v = .bool false
  | 9, v, _ => v = .bool false
  | 10, v, _ => v = .bool false
  | 11, v, _ => v = .bool true
  | 12, v, _ => v = .bool true
  | 13, v, _ => v = .agg #[.int .i64 k, .int .i64 a, .int .i64 r]
  | 14, v, w => ∃ (A' : Option Addr) (c' : Nat), v = .agg #[.int .i64 L, .slice A' n c', .slice none 0 0] ∧ Rd w 1 A' n c' (cI ws)
  | 15, v, _ => v = .agg #[.int .i64 L, .slice A1 n c1, .slice B1 0 d1]
  | 16, v, _ => v = .bool true
  | 17, v, _ => v = .bool true
  | 18, v, _ => v = .bool true
  | 19, v, _ => v = .bool true
  | _, _, _ => True
theorem RFf_ext (L k a r : Int) (A1 B1 : Option Addr) (n c1 d1 : Nat) (ws : List Int) : ∀ i v w w', Ext w w' → RFf L k a r A1 B1 n c1 d1 ws i v w → RFf L k a r A1 B1 n c1 d1 ws i v w' := by
  intro i v w w' hE h
  rcases i with _ | _ | _ | _ | _ | _ | _ | _ | _ | _ | _ | _ | _ | _ | _ | _ | _ | _ | _ | _ | i
  any_goals exact h
  obtain ⟨A', c', e, hR⟩ := h
  exact ⟨A', c', e, hR.below hE⟩

set_option maxRecDepth 10000 in
set_option maxHeartbeats 4000000 in
theorem FnReadFault_walk (A : Option Addr) (n0 c : Nat) (code : List Int) (w : World) (h0 : Rd w 1 A n0 c (code.map (Value.int .u8))) (F0 : ∀ z ∈ code, (Lit.int .u8 z).wf = true) :
    Calls Try.prog 10 #[.slice A n0 c] w fun e w' => e = .returned (.bool true) ∧ Ext w w' := by
  obtain ⟨bs, hbs⟩ := bytes_of F0
  rw [hbs] at h0
  have hle := h0.le
  have htop := h0.top
  by_cases hn : 1048576 < n0
  · go_enter Try.func10, Try.ntmps10
    go_wp2
    go_ret
    exact ⟨rfl, Below.refl _ _⟩
  go_enter Try.func10, Try.ntmps10
  go_wp2_with fail
  refine (DrawReadFault_any _ _ _ _ _ h0).mono ?_; rintro e w1 ⟨L, A1, n, c1, B1, m, d1, ws, rfl, hLf, R1, hb1⟩
  have hwl := R1.lenI
  have hl0 : -9223372036854775808 ≤ L := hLf.1
  have hl9 : L ≤ 9223372036854775807 := hLf.2
  obtain ⟨R, hR⟩ : ∃ R, rdF L ws m = R := ⟨_, rfl⟩
  obtain ⟨⟨k, a, r⟩, ok⟩ := R
  have hspec : ∀ w, Rd w 1 A1 n c1 (cI ws) → Calls Try.prog 33 #[.agg #[.int .i64 L, .slice A1 n c1, .slice B1 m d1]] w fun e w' => e = .returned (.tuple #[.agg #[.int .i64 k, .int .i64 a, .int .i64 r], .bool ok]) ∧ Ext w w' := fun w h => by
    have := specReadFault_any L A1 B1 n c1 m d1 ws w h
    rw [hR] at this; exact this
  have himpl : ∀ w, Rd w 1 A1 n c1 (cI ws) → Calls Try.prog 35 #[.agg #[.int .i64 L, .slice A1 n c1, .slice B1 m d1]] w fun e w' => e = .returned (.tuple #[.agg #[.int .i64 k, .int .i64 a, .int .i64 r], .bool ok]) ∧ Ext w w' := fun w h => by
    have := ReadFault_any L A1 B1 n c1 m d1 ws w h hl0 hl9
    rw [hR] at this; exact this
  have HO := Lib.hid (rdF_out hR)
  have HWL := Lib.hid hwl
  clear hR hl0 hl9 hLf h0 F0 hbs hwl
  have hv1 : Ext w1 (w1.alloc (.cells #[.int .i64 L, .slice A1 n c1, .slice B1 m d1] 51)) := (Below.refl _ _).alloc (Nat.le_refl _) _
  have M1 : MsAt (w1.alloc (.cells #[.int .i64 L, .slice A1 n c1, .slice B1 m d1] 51)) w1.heap.size (.int .i64 L) (.slice A1 n c1) (.slice B1 m d1) := MsAt.new w1 51 _ _ _
  have R1v := R1.below hv1
  have hbb1 := hb1.trans hv1
  have M1' := Lib.hid M1
  obtain ⟨q0, q1, q2⟩ := M1
  clear R1 hb1 hv1
  go_wp2_with fail
  refine (himpl _ R1v).mono ?_; rintro e w2 ⟨rfl, hb2⟩
  have hv2 : Ext w2 (w2.alloc (.cells #[.int .i64 k, .int .i64 a, .int .i64 r] 32)) := (Below.refl _ _).alloc (Nat.le_refl _) _
  have F2 : FtAt (w2.alloc (.cells #[.int .i64 k, .int .i64 a, .int .i64 r] 32)) w2.heap.size k a r := FtAt.new w2 32 k a r
  have E2 := hb2.trans hv2
  have M2 := M1'.out.below E2
  have R2 := R1v.below E2
  have hbb2 := hbb1.trans E2
  clear q0 q1 q2 M1' R1v hbb1 hb2 hv2 E2 himpl
  have M2' := Lib.hid M2
  have F2' := Lib.hid F2
  clear F2
  obtain ⟨q0, q1, q2⟩ := M2
  go_wp2_with fail
  refine (hspec _ R2).mono ?_; rintro e w3 ⟨rfl, hb3⟩
  obtain ⟨V, hV⟩ : ∃ V, V = (w3.alloc (.cells #[.int .i64 k, .int .i64 a, .int .i64 r] 32)) := ⟨_, rfl⟩
  have hv3 : Ext w3 V := by rw [hV]; exact (Below.refl _ _).alloc (Nat.le_refl _) _
  have G3 : FtAt V w3.heap.size k a r := by rw [hV]; exact FtAt.new w3 32 k a r
  have E3 := hb3.trans hv3
  have M3 := M2'.out.below E3
  have F3 := F2'.out.below E3
  have R3 := R2.below E3
  have hbb3 := hbb2.trans E3
  clear q0 q1 q2 M2' F2' R2 hbb2 hb3 hv3 E3 hspec
  go_upto_region 6 with fail
  rw [← hV]
  clear hV
  obtain ⟨g, hg⟩ : ∃ g, w1.heap.size = g := ⟨_, rfl⟩
  obtain ⟨g4, hg4⟩ : ∃ g4, w2.heap.size = g4 := ⟨_, rfl⟩
  obtain ⟨g6, hg6⟩ : ∃ g6, w3.heap.size = g6 := ⟨_, rfl⟩
  rw [hg] at M3
  rw [hg4] at F3
  rw [hg6] at G3
  have hok : (ok != ok) = false := by cases ok <;> rfl
  have M3' := Lib.hid M3
  have F3' := Lib.hid F3
  obtain ⟨f0, f1, f2⟩ := F3
  obtain ⟨e0, e1, e2⟩ := G3
  clear M3
  go_upto_region 8 with fail
  clear e0 e1 e2 hok
  rcases HO.out with ⟨rfl, rfl, rfl, rfl⟩ | ⟨rfl, rfl, hL, hW⟩
  · clear HO HWL M3' F3' R3
    have G0 := later_cell f0
    have G1 := later_cell f1
    have G2 := later_cell f2
    (refine wp_region_later (by kernel_rfl) (by kernel_rfl) ?_; repeat (any_goals (first | (with_reducible refine wpQuiet_nil ?_; intro wq hq) | go_big_quiet_step (((go_at_call 25; exact later_of _ (alive_any _)))))))
    go_wp2
    go_ret
    exact ⟨rfl, hbb3.trans hq⟩
  · have hwl := HWL.out
    have hmsg : ∀ w, Calls Try.prog 28 #[.agg #[.int .i64 k, .int .i64 a, .int .i64 r]] w fun e w' => ∃ A c, e = .returned (.agg #[.int .i64 L, .slice A n c, .slice none 0 0]) ∧ Fr w' w.heap.size 3 1 (.slice A n c) n (cI ws) ∧ Ext w w' := fun w => by
      have := FaultMessage_any k a r w
      rw [hL, hW, hwl] at this; exact this
    clear HO HWL hL hW hwl
    have hS : ∀ w', Ext V w' → (w'.cell? ⟨g, 0, none⟩ = some (.int .i64 L) ∧ w'.cell? ⟨g, 1, none⟩ = some (.slice A1 n c1) ∧ w'.cell? ⟨g, 2, none⟩ = some (.slice B1 0 d1) ∧ w'.cell? ⟨g4, 0, none⟩ = some (.int .i64 k) ∧ w'.cell? ⟨g4, 1, none⟩ = some (.int .i64 a) ∧ w'.cell? ⟨g4, 2, none⟩ = some (.int .i64 r)) := fun w' he =>
      ⟨(M3'.out.below he).c0, (M3'.out.below he).c1, (M3'.out.below he).c2, (F3'.out.below he).c0, (F3'.out.below he).c1, (F3'.out.below he).c2⟩
    have hb4 : Ext V (World.drew V) := (Below.refl _ _).drew
    clear f0 f1 f2 M3' F3'
    rw [hg, hg4]
    refine wp_region_once3 Ext (RFf L k a r A1 B1 n c1 d1 ws) (fun _ => none) (fun _ w' => Ext V w') (by kernel_rfl) (by kernel_rfl) (by rfl) hb4 (RFf_ext _ _ _ _ _ _ _ _ _ _) ?_ ?_
    · refine ⟨?_, ?_, ?_, ?_, ?_, ?_, ?_, ?_, ?_, ?_, ?_, ?_, ?_, ?_, ?_, ?_, ?_, ?_, ?_, ?_, trivial⟩
      · intro t d a_ vs wt ht hI hdi hW hcl hD hA K hK
        refine if_yes rfl ?_
        have a5 : a_.tmps[5]?.getD undef = Value.bool true := hA 5
        clear hA hD hW hcl
        go_simp
        exact hK _ _ rfl (.inl (Below.refl _ _)) hI
      · intro t d a_ vs wt ht hI hdi hW hcl hD hA K hK
        refine if_yes rfl ?_
        have d0 : vs 0 = Value.bool true := hD 0 rfl (fun c h => by cases h)
        have a31 : a_.tmps[31]?.getD undef = vs 0 := hA 31
        rw [d0] at a31
        clear hA hD hW hcl
        go_simp
        exact hK _ _ rfl (.inl (Below.refl _ _)) hI
      · intro t d a_ vs wt ht hI hdi hW hcl hD hA K hK
        refine if_yes rfl ?_
        have d1 : vs 1 = Value.bool false := hD 1 rfl (fun c h => by cases h)
        have a32 : a_.tmps[32]?.getD undef = vs 1 := hA 32
        rw [d1] at a32
        clear hA hD hW hcl
        go_simp
        exact hK _ _ rfl (.inl (Below.refl _ _)) hI
      · intro t d a_ vs wt ht hI hdi hW hcl hD hA K hK
        have dg : vs 2 = Value.bool false := hD 2 rfl (fun c h => by cases h)
        have ag : a_.tmps[33]?.getD undef = vs 2 := hA 33
        rw [dg] at ag
        refine if_no (by show (yielded _ _ 2 == some true) = false; rw [guard_val (o := _) rfl rfl ag]; rfl) ?_
        exact hK undef _ trivial (.inl (Below.refl _ _)) hI
      · intro t d a_ vs wt ht hI hdi hW hcl hD hA K hK
        have dg : vs 2 = Value.bool false := hD 2 rfl (fun c h => by cases h)
        have ag : a_.tmps[33]?.getD undef = vs 2 := hA 33
        rw [dg] at ag
        refine if_no (by show (yielded _ _ 2 == some true) = false; rw [guard_val (o := _) rfl rfl ag]; rfl) ?_
        exact hK undef _ trivial (.inl (Below.refl _ _)) hI
      · intro t d a_ vs wt ht hI hdi hW hcl hD hA K hK
        have dg : vs 2 = Value.bool false := hD 2 rfl (fun c h => by cases h)
        have ag : a_.tmps[33]?.getD undef = vs 2 := hA 33
        rw [dg] at ag
        refine if_no (by show (yielded _ _ 2 == some true) = false; rw [guard_val (o := _) rfl rfl ag]; rfl) ?_
        exact hK undef _ trivial (.inl (Below.refl _ _)) hI
      · intro t d a_ vs wt ht hI hdi hW hcl hD hA K hK
        refine if_yes rfl ?_
        have d2 : vs 2 = Value.bool false := hD 2 rfl (fun c h => by cases h)
        have a33 : a_.tmps[33]?.getD undef = vs 2 := hA 33
        rw [d2] at a33
        clear hA hD hW hcl
        go_simp
        exact hK _ _ rfl (.inl (Below.refl _ _)) hI
      · intro t d a_ vs wt ht hI hdi hW hcl hD hA K hK
        refine if_yes rfl ?_
        have d6 : vs 6 = Value.bool false := hD 6 rfl (fun c h => by cases h)
        have a37 : a_.tmps[37]?.getD undef = vs 6 := hA 37
        rw [d6] at a37
        clear hA hD hW hcl
        go_simp
        exact hK _ _ rfl (.inl (Below.refl _ _)) hI
      · intro t d a_ vs wt ht hI hdi hW hcl hD hA K hK
        have dg : vs 7 = Value.bool false := hD 7 rfl (fun c h => by cases h)
        have ag : a_.tmps[38]?.getD undef = vs 7 := hA 38
        rw [dg] at ag
        refine if_no (by show (yielded _ _ 7 == some true) = false; rw [guard_val (o := _) rfl rfl ag]; rfl) ?_
        exact hK undef _ trivial (.inl (Below.refl _ _)) hI
      · intro t d a_ vs wt ht hI hdi hW hcl hD hA K hK
        refine if_yes rfl ?_
        have d7 : vs 7 = Value.bool false := hD 7 rfl (fun c h => by cases h)
        have a38 : a_.tmps[38]?.getD undef = vs 7 := hA 38
        rw [d7] at a38
        clear hA hD hW hcl
        go_simp
        exact hK _ _ rfl (.inl (Below.refl _ _)) hI
      · intro t d a_ vs wt ht hI hdi hW hcl hD hA K hK
        refine if_yes rfl ?_
        have d9 : vs 9 = Value.bool false := hD 9 rfl (fun c h => by cases h)
        have a40 : a_.tmps[40]?.getD undef = vs 9 := hA 40
        rw [d9] at a40
        clear hA hD hW hcl
        go_simp
        exact hK _ _ rfl (.inl (Below.refl _ _)) hI
      · intro t d a_ vs wt ht hI hdi hW hcl hD hA K hK
        have dg : vs 10 = Value.bool false := hD 10 rfl (fun c h => by cases h)
        have ag : a_.tmps[41]?.getD undef = vs 10 := hA 41
        rw [dg] at ag
        refine if_yes (by show (yielded _ _ 10 == some false) = true; rw [guard_val (o := _) rfl rfl ag]; rfl) ?_
        have a5 : a_.tmps[5]?.getD undef = Value.bool true := hA 5
        clear hA hD hW hcl
        go_simp
        exact hK _ _ rfl (.inl (Below.refl _ _)) hI
      · intro t d a_ vs wt ht hI hdi hW hcl hD hA K hK
        have dg : vs 10 = Value.bool false := hD 10 rfl (fun c h => by cases h)
        have ag : a_.tmps[41]?.getD undef = vs 10 := hA 41
        rw [dg] at ag
        refine if_yes (by show (yielded _ _ 10 == some false) = true; rw [guard_val (o := _) rfl rfl ag]; rfl) ?_
        have d11 : vs 11 = Value.bool true := hD 11 rfl (fun c h => by cases h)
        have a42 : a_.tmps[42]?.getD undef = vs 11 := hA 42
        rw [d11] at a42
        clear hA hD hW hcl
        go_simp
        exact hK _ _ rfl (.inl (Below.refl _ _)) hI
      · intro t d a_ vs wt ht hI hdi hW hcl hD hA K hK
        have dg : vs 12 = Value.bool true := hD 12 rfl (fun c h => by cases h)
        have ag : a_.tmps[43]?.getD undef = vs 12 := hA 43
        rw [dg] at ag
        refine if_yes (by show (yielded _ _ 12 == some true) = true; rw [guard_val (o := _) rfl rfl ag]; rfl) ?_
        have a4 : a_.tmps[4]?.getD undef = Value.pointer (some ⟨g4, 0, none⟩) := hA 4
        obtain ⟨_, _, _, f0, f1, f2⟩ := hS _ hI
        clear hA hD hW hcl
        go_simp
        exact hK _ _ rfl (.inl (Below.refl _ _)) hI
      · intro t d a_ vs wt ht hI hdi hW hcl hD hA K hK
        have dg : vs 12 = Value.bool true := hD 12 rfl (fun c h => by cases h)
        have ag : a_.tmps[43]?.getD undef = vs 12 := hA 43
        rw [dg] at ag
        refine if_yes (by show (yielded _ _ 12 == some true) = true; rw [guard_val (o := _) rfl rfl ag]; rfl) ?_
        have d13 : vs 13 = Value.agg #[.int .i64 k, .int .i64 a, .int .i64 r] := hD 13 rfl (fun c h => by cases h)
        have a44 : a_.tmps[44]?.getD undef = vs 13 := hA 44
        rw [d13] at a44
        clear hA hD hW hcl
        go_simp
        refine (hmsg _).mono ?_; rintro e w5 ⟨As, cs, rfl, Fs, hb5⟩
        exact hK _ _ ⟨As, cs, rfl, Fs.rd'.2⟩ (.inl hb5) (Ext.trans hI hb5)
      · intro t d a_ vs wt ht hI hdi hW hcl hD hA K hK
        have dg : vs 12 = Value.bool true := hD 12 rfl (fun c h => by cases h)
        have ag : a_.tmps[43]?.getD undef = vs 12 := hA 43
        rw [dg] at ag
        refine if_yes (by show (yielded _ _ 12 == some true) = true; rw [guard_val (o := _) rfl rfl ag]; rfl) ?_
        have a3 : a_.tmps[3]?.getD undef = Value.pointer (some ⟨g, 0, none⟩) := hA 3
        obtain ⟨m0, m1, m2, _, _, _⟩ := hS _ hI
        clear hA hD hW hcl
        go_simp
        exact hK _ _ rfl (.inl (Below.refl _ _)) hI
      · intro t d a_ vs wt ht hI hdi hW hcl hD hA K hK
        have dg : vs 12 = Value.bool true := hD 12 rfl (fun c h => by cases h)
        have ag : a_.tmps[43]?.getD undef = vs 12 := hA 43
        rw [dg] at ag
        refine if_yes (by show (yielded _ _ 12 == some true) = true; rw [guard_val (o := _) rfl rfl ag]; rfl) ?_
        obtain ⟨A', c', d14, hR14⟩ := hD 14 rfl (fun c h => by cases h)
        have a45 : a_.tmps[45]?.getD undef = vs 14 := hA 45
        rw [d14] at a45
        have d15 : vs 15 = Value.agg #[.int .i64 L, .slice A1 n c1, .slice B1 0 d1] := hD 15 rfl (fun c h => by cases h)
        have a46 : a_.tmps[46]?.getD undef = vs 15 := hA 46
        rw [d15] at a46
        clear hA hD hW hcl
        go_simp
        refine (sameMessage_same _ _ _ _ _ _ _ _ _ _ _ _ hR14 (R3.below hI)).mono ?_; rintro e w6 ⟨rfl, hb6⟩
        exact hK _ _ rfl (.inl hb6) (Ext.trans hI hb6)
      · intro t d a_ vs wt ht hI hdi hW hcl hD hA K hK
        have dg : vs 10 = Value.bool false := hD 10 rfl (fun c h => by cases h)
        have ag : a_.tmps[41]?.getD undef = vs 10 := hA 41
        rw [dg] at ag
        refine if_yes (by show (yielded _ _ 10 == some false) = true; rw [guard_val (o := _) rfl rfl ag]; rfl) ?_
        have d12 : vs 12 = Value.bool true := hD 12 rfl (fun c h => by cases h)
        have a43 : a_.tmps[43]?.getD undef = vs 12 := hA 43
        rw [d12] at a43
        have d16 : vs 16 = Value.bool true := hD 16 rfl (fun c h => by cases h)
        have a47 : a_.tmps[47]?.getD undef = vs 16 := hA 47
        rw [d16] at a47
        clear hA hD hW hcl
        go_simp
        exact hK _ _ rfl (.inl (Below.refl _ _)) hI
      · intro t d a_ vs wt ht hI hdi hW hcl hD hA K hK
        refine if_yes rfl ?_
        have d10 : vs 10 = Value.bool false := hD 10 rfl (fun c h => by cases h)
        have a41 : a_.tmps[41]?.getD undef = vs 10 := hA 41
        rw [d10] at a41
        have d17 : vs 17 = Value.bool true := hD 17 rfl (fun c h => by cases h)
        have a48 : a_.tmps[48]?.getD undef = vs 17 := hA 48
        rw [d17] at a48
        clear hA hD hW hcl
        go_simp
        exact hK _ _ rfl (.inl (Below.refl _ _)) hI
      · intro t d a_ vs wt ht hI hdi hW hcl hD hA K hK
        refine if_yes rfl ?_
        have d18 : vs 18 = Value.bool true := hD 18 rfl (fun c h => by cases h)
        have a49 : a_.tmps[49]?.getD undef = vs 18 := hA 49
        rw [d18] at a49
        clear hA hD hW hcl
        go_simp
        exact hK _ _ rfl (.inl (Below.refl _ _)) hI
    · intro t vs wz ht hI hF
      obtain ⟨f0, f1, f2, f3, f4, f5, f6, f7, f8, f9, f10, f11, f12, f13, f14, f15, f16, f17, f18, f19, -⟩ := hF
      have e19 : vs 19 = Value.bool true := f19 rfl
      clear f0 f1 f2 f3 f4 f5 f6 f7 f8 f9 f10 f11 f12 f13 f14 f15 f16 f17 f18 f19
      simp only [putAll, Act.put, List.setIfInBounds_toArray, List.set_cons_zero, List.set_cons_succ]
      rw [e19]
      go_wp2
      go_ret
      exact ⟨rfl, hbb3.trans hI⟩
end Go.Proofs.Yteahiiflgiimnaa
