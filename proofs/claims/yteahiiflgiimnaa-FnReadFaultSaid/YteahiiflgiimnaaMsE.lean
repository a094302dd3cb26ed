/-
  Messages without capabilities: alike, valid; the faults that the reference draws for messages.
-/
import Derived.Test.YteahiiflgiimnaaMsB
import Derived.Test.YteahiiflgiimnaaIxIM
import Derived.Test.YteahiiflgiimnaaDrF
import Derived.Test.YteahiiflgiimnaaDrO
namespace Go.Proofs.Yteahiiflgiimnaa
open Go.RowKit

set_option maxHeartbeats 1000000 in
theorem sameMessage_same (l : Int) (A A' B B' : Option Addr) (n c c' d d' : Nat) (xs : List Int) (w : World) (h : Rd w 1 A n c (cI xs)) (h' : Rd w 1 A' n c' (cI xs)) :
    Calls Try.prog 41 #[.agg #[.int .i64 l, .slice A n c, .slice B 0 d], .agg #[.int .i64 l, .slice A' n c', .slice B' 0 d']] w fun e w' => e = .returned (.bool true) ∧ Ext w w' := by
  have hb0 : Ext w ((w.alloc (.cells #[.int .i64 l, .slice A n c, .slice B 0 d] 51)).alloc (.cells #[.int .i64 l, .slice A' n c', .slice B' 0 d'] 51)) := ((Below.refl _ _).alloc (Nat.le_refl _) _).alloc (by simp) _
  have M0 : MsAt ((w.alloc (.cells #[.int .i64 l, .slice A n c, .slice B 0 d] 51)).alloc (.cells #[.int .i64 l, .slice A' n c', .slice B' 0 d'] 51)) w.heap.size (.int .i64 l) (.slice A n c) (.slice B 0 d) := (MsAt.new w 51 _ _ _).below ((Below.refl _ _).alloc (Nat.le_refl _) _)
  have M1 : MsAt ((w.alloc (.cells #[.int .i64 l, .slice A n c, .slice B 0 d] 51)).alloc (.cells #[.int .i64 l, .slice A' n c', .slice B' 0 d'] 51)) (w.heap.size + 1) (.int .i64 l) (.slice A' n c') (.slice B' 0 d') := by
    have := MsAt.new (w.alloc (.cells #[.int .i64 l, .slice A n c, .slice B 0 d] 51)) 51 (.int .i64 l) (.slice A' n c') (.slice B' 0 d')
    simpa using this
  have hA := h.below hb0
  have hA' := h'.below hb0
  obtain ⟨w1, hw1⟩ : ∃ w1, w1 = ((w.alloc (.cells #[.int .i64 l, .slice A n c, .slice B 0 d] 51)).alloc (.cells #[.int .i64 l, .slice A' n c', .slice B' 0 d'] 51)) := ⟨_, rfl⟩
  rw [← hw1] at hb0 M0 M1 hA hA'
  obtain ⟨p0, p1, p2⟩ := M0
  obtain ⟨q0, q1, q2⟩ := M1
  clear h h'
  go_enter Try.func41, Try.ntmps41
  go_upto_region 1 with fail
  rw [← hw1]
  clear hw1
  go_wp2
  go_loopw [5] (fun i wr => i = .int .i64 ((0 : Nat) : Int) ∧ wr = w1) (fun _ _ => 0)
  case atStart => exact ⟨rfl, rfl⟩
  case round =>
    obtain ⟨rfl, rfl⟩ := hrel
    go_wp2_with fail
    refine (sameInts_any _ _ _ _ _ _ _ _ _ hA hA').mono ?_; rintro e w2 ⟨rfl, hb2⟩; rw [(eqIs_iff _ _).2 rfl]
    go_wp2
    go_ret
    exact ⟨rfl, hb0.trans hb2⟩

def mOk (z : Int) : Bool := inB z 0 9999
theorem MessageValidFn_any (z : Int) (w : World) : Calls Try.prog 85 #[.int .i64 z] w fun e w' => e = .returned (.bool (!mOk z)) ∧ w = w' := by
  go_enter Try.func85, Try.ntmps85
  go_wp2_with ((go_at_call 72; refine (in_any _ _ _ _).mono ?_; rintro e w' ⟨rfl, rfl⟩))
  go_ret
  exact ⟨rfl, rfl⟩

set_option maxHeartbeats 400000 in
theorem ContainsFuncM_any (A : Option Addr) (n c : Nat) (zs : List Int) (w : World) (h : Rd w 1 A n c (cI zs)) :
    Calls Try.prog 84 #[.slice A n c, .func (.func 85) #[] #[]] w fun e w' => e = .returned (.bool (zs.any fun z => !mOk z)) ∧ Ext w w' := by
  have e := idxOr_any (fun z => !mOk z) zs
  obtain ⟨ix, hix⟩ : ∃ z, idxOr (fun z => !mOk z) zs = z := ⟨_, rfl⟩
  rw [hix] at e
  have E := Lib.hid e
  have HIX := Lib.hid hix
  clear e hix
  go_enter Try.func84, Try.ntmps84
  go_wp2_with fail
  refine (IndexIM_any (fun z => !mOk z) _ _ _ _ _ h (fun z w1 _ => (MessageValidFn_any z w1).mono fun e w2 ⟨he, hw⟩ => ⟨he, hw ▸ Below.refl _ _⟩)).mono ?_; rintro e w2 ⟨rfl, hb2⟩; rw [HIX.out]
  go_wp2
  go_ret
  exact ⟨ret_bool E.out, hb2⟩

theorem IndexCap_nil (v : Value) (w : World) :
    Calls Try.prog 102 #[.slice none 0 0, v] w fun e w' => e = .returned (.int .i64 (-1)) ∧ w = w' := by
  go_enter Try.func102, Try.ntmps102
  go_wp2
  go_loopw [8] (fun i wr => i = .int .i64 ((0 : Nat) : Int) ∧ w = wr) (fun _ _ => 0)
  case atStart => exact ⟨rfl, rfl⟩
  case round =>
    obtain ⟨rfl, rfl⟩ := hrel
    go_wp2
    go_ret
    exact ⟨rfl, rfl⟩
theorem ContainsCap_nil (v : Value) (w : World) :
    Calls Try.prog 86 #[.slice none 0 0, v] w fun e w' => e = .returned (.bool false) ∧ w = w' := by
  go_enter Try.func86, Try.ntmps86
  go_wp2_with fail
  refine (IndexCap_nil _ _).mono ?_; rintro e w' ⟨rfl, rfl⟩
  go_wp2
  go_ret
  exact ⟨rfl, rfl⟩
theorem anyInvalid_nil (w : World) :
    Calls Try.prog 83 #[.slice none 0 0] w fun e w' => e = .returned (.bool false) ∧ w = w' := by
  go_enter Try.func83, Try.ntmps83
  go_wp2_with fail
  refine (ContainsCap_nil _ _).mono ?_; rintro e w' ⟨rfl, rfl⟩
  go_wp2
  go_ret
  exact ⟨rfl, rfl⟩

set_option maxHeartbeats 1000000 in
theorem MessageValid_told (l : Int) (A : Option Addr) (n c : Nat) (xs : List Int) (w : World) (h : Rd w 1 A n c (cI xs)) (hl : inB l 0 9999 = true) (hn : n ≤ 8) (hx : (xs.any fun z => !mOk z) = false) :
    Calls Try.prog 42 #[.agg #[.int .i64 l, .slice A n c, .slice none 0 0]] w fun e w' => e = .returned (.bool true) ∧ Ext w w' := by
  have hb0 : Ext w (w.alloc (.cells #[.int .i64 l, .slice A n c, .slice none 0 0] 51)) := (Below.refl _ _).alloc (Nat.le_refl _) _
  have M0 : MsAt (w.alloc (.cells #[.int .i64 l, .slice A n c, .slice none 0 0] 51)) w.heap.size (.int .i64 l) (.slice A n c) (.slice none 0 0) := MsAt.new w 51 _ _ _
  have hA := h.below hb0
  have HL := Lib.hid hl
  have HX := Lib.hid hx
  obtain ⟨p0, p1, p2⟩ := M0
  clear h hl hx
  go_enter Try.func42, Try.ntmps42
  go_wp2_with fail
  refine (in_any _ _ _ _).mono ?_; rintro e w' ⟨rfl, rfl⟩; rw [HL.out]
  go_wp2_with fail
  refine (anyInvalid_nil _).mono ?_; rintro e w' ⟨rfl, rfl⟩
  go_wp2_with fail
  refine (ContainsFuncM_any _ _ _ _ _ hA).mono ?_; rintro e w2 ⟨rfl, hb2⟩; rw [HX.out]
  have x2 := kept_of_below hb2 _ _ p2
  clear p0 p1 p2 hA
  go_wp2_with fail
  refine (ContainsCap_nil _ _).mono ?_; rintro e w' ⟨rfl, rfl⟩
  go_wp2
  go_ret
  exact ⟨rfl, hb0.trans hb2⟩

set_option maxHeartbeats 1000000 in
theorem DrawFaultMessage_any (A : Option Addr) (n c : Nat) (bs : List UInt8) (w : World) (h : Rd w 1 A n c (cU bs)) :
    Calls Try.prog 40 #[.slice A n c] w fun e w' => ∃ k a r : Int, e = .returned (.agg #[.int .i64 k, .int .i64 a, .int .i64 r]) ∧ Ext w w' := by
  obtain ⟨W0, hW0⟩ : ∃ W0, W0 = (w.alloc (.cells #[.int .i64 0, .int .i64 0, .int .i64 0] 32)) := ⟨_, rfl⟩
  have hb0 : Ext w W0 := by rw [hW0]; exact (Below.refl _ _).alloc (Nat.le_refl _) _
  have P0 : W0.heap[w.heap.size]? = some (.cells #[.int .i64 0, .int .i64 0, .int .i64 0] 32 (0, 0)) := by rw [hW0]; exact heap_alloc_new w _
  have h0 := h.below hb0
  have hs0 : W0.heap.size = w.heap.size + 1 := by rw [hW0]; simp
  clear h
  go_enter Try.func40, Try.ntmps40
  go_wp2_with fail
  rw [← hW0]
  refine (l20Open_any _ _ _ _ _ h0).mono ?_; rintro e w1 ⟨rfl, hr1, hb1⟩
  obtain ⟨g, hg⟩ : ∃ g, W0.heap.size = g := ⟨_, rfl⟩
  rw [hg] at hr1 ⊢
  have hgp : w.heap.size ≠ g := by omega
  have P1 := (hb1.block _ (Array.getElem?_eq_some_iff.1 P0).1).trans P0
  have hbb := hb0.trans hb1
  have hsz1 : g + 1 ≤ w1.heap.size := by have := hr1.lt; omega
  clear hW0 h0 P0 hb0 hb1
  go_wp2_with fail
  refine (l20Fault_any _ _ _ _ _ hr1 (by omega) (by omega) (by omega) (by omega)).mono ?_; rintro e w2 ⟨k, a, r, rfl, hr2, ht2⟩
  have P2 := (ht2.block _ (Array.getElem?_eq_some_iff.1 P1).1 hgp).trans P1
  have hbb2 := ext_tch hbb ht2 (fun k e => by omega)
  have q0 : w2.cell? ⟨w.heap.size, 0, none⟩ = some (.int .i64 0) := by rw [cell_of_row w2 _ _ _ _ _ P2]; rfl
  have q1 : w2.cell? ⟨w.heap.size, 1, none⟩ = some (.int .i64 0) := by rw [cell_of_row w2 _ _ _ _ _ P2]; rfl
  have q2 : w2.cell? ⟨w.heap.size, 2, none⟩ = some (.int .i64 0) := by rw [cell_of_row w2 _ _ _ _ _ P2]; rfl
  have f0 := frozen_of_row w2 w.heap.size 0 _ _ P2
  have f1 := frozen_of_row w2 w.heap.size 1 _ _ P2
  have f2 := frozen_of_row w2 w.heap.size 2 _ _ P2
  clear P1 P2 hbb hr1 hr2 ht2
  go_wp2
  refine bodyPost_ret (v := .agg #[.int .i64 k, .int .i64 a, .int .i64 r]) (by simp [results, Try.results40, go_sem, q0, q1, q2]) rfl ⟨k, a, r, rfl, Ext.sets3 hbb2 (by omega) _ _ _⟩
end Go.Proofs.Yteahiiflgiimnaa
