/-
  A region that draws its order, each operation once, where guards stand ahead of operations.
-/
import Derived.Test.YteahiiflgiimnaaOnce2
namespace Go.Proofs.Yteahiiflgiimnaa
open Go Go.RowKit

theorem guard_val {ops : Array Oper} {tmps : Array Value} {j : Nat} {d : Tmp} {b : Bool} {o : Oper} (ho : ops[j]? = some o) (hd : o.dst = some d) (h : tmps[d]?.getD undef = .bool b) : yielded ops tmps j = some b := by
  unfold yielded
  rw [ho]
  simp only [Option.bind_some, hd]
  cases h2 : tmps[d]? with
  | none => rw [h2] at h; simp [undef] at h
  | some v => rw [h2] at h; simp only [Option.getD_some] at h; subst h; rfl

theorem if_yes {c : Bool} {p q : Prop} (hc : c = true) (h : p) : if c = true then p else q := by rw [if_pos hc]; exact h
theorem if_no {c : Bool} {p q : Prop} (hc : c = false) (h : q) : if c = true then p else q := by rw [if_neg (by rw [hc]; exact Bool.false_ne_true)]; exact h

section
variable {P : Program} {Q : Exit → Act → World → Prop} {l : List Oper} {a0 : Act}
theorem wp_region_once3 {id : Nat} {w : World} (S : World → World → Prop) (G : Nat → Value → World → Prop) (cons : Nat → Option Nat) (Inv : Nat → World → Prop) (hm : P.follows .mixedOrders = true)
    (hB : (dstsB l && backB 0 l) = true) (hR : roomB a0.tmps.size l = true) (h0 : Inv 0 w.drew)
    (hG : ∀ k v w w', S w w' → G k v w → G k v w')
    (hop : Each (fun i o => ∀ (t : Nat) (d : Nat → Bool) (A : Act) (vs : Nat → Value) (w : World), t < l.length → Inv t w → d i = false → (∀ j, waitsB o j = true → d j = true) → Closed2 l d → (∀ j, waitsB o j = true → (∀ c, cons j = some c → c = i ∨ d c = false) → G j (vs j) w) → (∀ q, A.tmps[q]?.getD undef = look l vs 0 a0 q) →
      ∀ K : Act → World → Prop, (∀ v w', G i v w' → (S w w' ∨ (∀ k, k < l.length → d k = true → (∀ c, cons k = some c → d c = false) → cons k ≠ some i → G k (vs k) w → G k (vs k) w')) → Inv (t + 1) w' → K (A.put o.dst v) w') → (if Region.wanted o (yielded l.toArray A.tmps) then o.wp P A w K Q else K (A.put o.dst undef) w)) 0 l)
    (hfin : ∀ t vs w, t ≤ l.length → Inv t w → Each (fun k _ => cons k = none → G k (vs k) w) 0 l → Q .normal (putAll l vs 0 a0) w) : (Code.region id l.toArray true).wp P Q a0 w := by
  simp only [Bool.and_eq_true] at hB
  obtain ⟨hd, hb⟩ := hB
  refine wp_region_any hm ?_
  obtain ⟨vs, e⟩ := putAll_init l a0
  have := wpAny_once2 (P := P) (Q := Q) (a0 := a0) (G := G) (cons := cons) (Inv := Inv) hd hb ?_ ?_ l.length (Array.replicate l.length false) vs w.drew 0 (by omega) (by simp) ?_ h0 (fun k ok hok hdk => by have := (List.getElem?_eq_some_iff.1 hok).1; simp [this] at hdk) (fun k hk h => by simp [hk] at h)
  · rw [e] at this
    simpa using this
  · intro i o ho t d vs w' ht hI hdi hw hcl hF
    have h0' := each_get hop ho
    rw [Nat.zero_add] at h0'
    have h1 := h0' t d (putAll l vs 0 a0) vs w' ht hI hdi (fun j hj => (hw j hj).2) hcl (fun j hj hc => hF j (hw j hj).1 (hw j hj).2 fun c hcc => by
      rcases hc c hcc with rfl | h
      · exact hdi
      · exact h) (look_all l vs 0 a0 hd hR)
      (fun a' w'' => ∃ v, a' = (putAll l vs 0 a0).put o.dst v ∧ G i v w'' ∧ (∀ k, k < l.length → d k = true → Alive2 cons d k → cons k ≠ some i → G k (vs k) w' → G k (vs k) w'') ∧ Inv (t + 1) w'') (fun v w'' hF' hk hI' => ⟨v, rfl, hF', fun k hk1 hk2 hk3 hk4 hk5 => by
      rcases hk with he | hk
      · exact hG k _ _ _ he hk5
      · exact hk k hk1 hk2 hk3 hk4 hk5, hI'⟩)
    unfold wpOp
    have ho' : l.toArray[i]? = some o := by simpa using ho
    simp only [ho']
    by_cases hw' : Region.wanted o (yielded l.toArray (putAll l vs 0 a0).tmps) = true
    · rw [if_pos hw'] at h1 ⊢; exact .inl h1
    · rw [if_neg hw'] at h1 ⊢; exact h1
  · intro t vs w' ht hI hF
    refine hfin t vs w' ht hI ?_
    have : ∀ (r : List Oper) (k : Nat), k + r.length = l.length → Each (fun k _ => cons k = none → G k (vs k) w') k r := by
      intro r
      induction r with
      | nil => intro k _; trivial
      | cons o r ih =>
        intro k hk
        simp only [List.length_cons] at hk
        exact ⟨hF k (by omega), ih (k + 1) (by omega)⟩
    exact this l 0 (by omega)
  · exact Nat.le_trans (List.length_filter_le _ _) (by simp)
end
end Go.Proofs.Yteahiiflgiimnaa
