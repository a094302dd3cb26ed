/-
  Pages unmapped: one page, as the program and as the reference do it.
-/
import Derived.Test.YteahiiflgiimnaaMpC
import Derived.Test.YteahiiflgiimnaaSlMp
import Derived.Test.YteahiiflgiimnaaDelMp
namespace Go.Proofs.Yteahiiflgiimnaa
open Go.RowKit

/-- The address space without a page. -/
def unmapL (page : Int) (ms : List Mp) : List Mp := if pThere page ms then ms.eraseIdx (pAt page ms) else ms
theorem unmapL_len (page : Int) (ms : List Mp) : (unmapL page ms).length ≤ ms.length := by
  unfold unmapL
  split
  · exact List.length_eraseIdx_le _ _
  · exact Nat.le_refl _
theorem pThere_cons (page : Int) (m : Mp) (r : List Mp) : pThere page (m :: r) = if m.1 < page then pThere page r else m.1 == page := by
  unfold pThere
  rw [pAt]
  by_cases h : m.1 < page
  · rw [if_pos h, if_pos h, List.getElem?_cons_succ]
  · rw [if_neg h, if_neg h, List.getElem?_cons_zero]
theorem unmapL_cons (page : Int) (m : Mp) (r : List Mp) : unmapL page (m :: r) = if m.1 < page then m :: unmapL page r else if m.1 == page then r else m :: r := by
  unfold unmapL
  rw [pThere_cons, pAt]
  by_cases h : m.1 < page
  · rw [if_pos h, if_pos h, if_pos h]
    split <;> simp
  · rw [if_neg h, if_neg h, if_neg h]
    by_cases h2 : (m.1 == page) = true
    · rw [if_pos h2, if_pos h2]; rfl
    · rw [if_neg h2, if_neg h2]
/-- In a valid address space that is what the reference keeps. -/
theorem unmapL_filter (page : Int) : ∀ {ms : List Mp} {l : Int}, spFrom l ms = true → ms.filter (fun m => m.1 != page) = unmapL page ms
  | [], _, _ => rfl
  | m :: r, l, h => by
    obtain ⟨h1, h2⟩ := spFrom_cons.1 h
    have ih := unmapL_filter page h2
    rw [unmapL_cons, List.filter_cons]
    by_cases hlt : m.1 < page
    · rw [if_pos hlt, if_pos (by rw [bne_iff_ne]; omega), ih]
    · rw [if_neg hlt]
      have hr : m.1 ≤ m.1 → ∀ x ∈ r, (page : Int) ≤ m.1 → x.1 ≠ page := fun _ x hx hp => by have := spFrom_mem h2 x hx; omega
      have hall : r.filter (fun m => m.1 != page) = r := by
        rw [List.filter_eq_self]
        intro x hx
        rw [bne_iff_ne]
        exact hr (Int.le_refl _) x hx (by omega)
      by_cases heq : m.1 = page
      · rw [if_neg (by simp [heq]), if_pos (by simpa using heq), hall]
      · rw [if_pos (by rw [bne_iff_ne]; exact heq), if_neg (by simpa using heq), hall]
theorem unmapL_there (page : Int) : ∀ ms : List Mp, decide ((unmapL page ms).length < ms.length) = pThere page ms := by
  intro ms
  unfold unmapL
  cases h : pThere page ms with
  | false => simp
  | true =>
    obtain ⟨m, hm, _⟩ := look_some h
    have hlt := (List.getElem?_eq_some_iff.1 hm).1
    simp only [if_true, decide_eq_true_eq]
    rw [List.length_eraseIdx, if_pos hlt]
    omega
theorem c3_erase {ms : List Mp} {i : Nat} : (c3 ms).take (i * 3) ++ (c3 ms).drop ((i + 1) * 3) = c3 (ms.eraseIdx i) := by
  rw [List.eraseIdx_eq_take_drop_succ, c3_append, c3_take, c3_drop]

set_option maxHeartbeats 400000 in
theorem unmapped_any (A : Option Addr) (n c : Nat) (ms : List Mp) (page : Int) (w : World) (h : Rd w 3 A n c (c3 ms)) (hn : n ≤ 1048576) :
    Calls Try.prog 54 #[.slice A n c, .int .i64 page] w fun e w' => ∃ A' c', e = .returned (.tuple #[.slice A' (unmapL page ms).length c', .bool (pThere page ms)]) ∧
      Fr w' w.heap.size 76 3 (.slice A' (unmapL page ms).length c') (unmapL page ms).length (c3 (unmapL page ms)) ∧ Ext w w' := by
  have hl := h.len3
  cases ht : pThere page ms with
  | false =>
    have e : unmapL page ms = ms := by unfold unmapL; rw [ht]; rfl
    rw [e]
    have E := Lib.hid hl
    clear hl e
    go_enter Try.func54, Try.ntmps54
    go_wp2_with (first | ((go_at_call 61; refine (pageAt_any _ _ _ _ _ _ h).mono ?_; rintro e w1 ⟨rfl, hb1⟩); rw [ht]) | ((go_at_call 53; refine (cloneMp_any _ _ _ _ _ (h.below hb1) (one_c3 _) hn).mono ?_; rintro e w2 ⟨A2, c2, rfl, f2, hb2⟩)))
    go_ret2
    rw [E.out]
    exact ⟨_, _, rfl, f2.mono hb1.size, hb1.trans hb2⟩
  | true =>
    obtain ⟨m, hm, _⟩ := look_some ht
    have hlt := (List.getElem?_eq_some_iff.1 hm).1
    obtain ⟨i, hi⟩ : ∃ i, i = pAt page ms := ⟨_, rfl⟩
    rw [← hi] at hlt
    obtain ⟨k, hk⟩ : ∃ k, n = i + 1 + k := ⟨n - (i + 1), by omega⟩
    subst hk
    have e : unmapL page ms = ms.eraseIdx i := by unfold unmapL; rw [ht, hi]; rfl
    have el : (ms.eraseIdx i).length = i + k := by rw [List.length_eraseIdx, if_pos hlt]; omega
    rw [e, el]
    have HI := Lib.hid hi.symm
    clear hl e el hm hi hlt
    go_enter Try.func54, Try.ntmps54
    go_wp2_with fail
    refine (pageAt_any _ _ _ _ _ _ h).mono ?_; rintro e w1 ⟨rfl, hb1⟩; rw [ht, HI.out]
    go_wp2_with fail
    refine (CloneMp_any _ _ _ _ _ (h.below hb1) (one_c3 _) hn).mono ?_; rintro e w2 ⟨A2, c2, rfl, f2, hb2⟩
    obtain ⟨g, rfl, hg, hg2, r2⟩ := f2.form (by omega)
    go_wp2_with fail
    refine (DeleteMp_any g c2 w1.heap.size i k _ _ r2 (one_c3 _)).mono ?_; rintro e w3 ⟨rfl, r3, hg3⟩
    rw [c3_erase] at r3
    have hb3 : Ext w1 w3 := ext_grown hb2 hg3 (fun b hb => by cases hb; exact hg)
    go_wp2_with fail
    refine (cloneMp_any _ _ _ _ _ (Rd.of_row r3) (one_c3 _) (by omega)).mono ?_; rintro e w4 ⟨A4, c4, rfl, f4, hb4⟩
    go_wp2
    go_ret2
    exact ⟨_, _, rfl, f4.mono (Nat.le_trans hb1.size hb3.size), hb1.trans (hb3.trans hb4)⟩

def unmapR (page : Int) (ms : List Mp) : List Mp := if spValid ms then unmapL page ms else []
theorem unmapR_len (page : Int) (ms : List Mp) : (unmapR page ms).length ≤ 20 := by
  unfold unmapR
  cases hv : spValid ms with
  | false => simp
  | true =>
    have := spValid_len hv
    simp only [if_true]
    unfold unmapL
    split
    · have := List.length_eraseIdx_le ms (pAt page ms); omega
    · omega

end Go.Proofs.Yteahiiflgiimnaa
