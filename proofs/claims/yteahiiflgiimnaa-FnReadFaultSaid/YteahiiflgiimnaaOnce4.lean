/-
  A region that draws its order, each operation once, with an invariant that knows which operations have come up.
-/
import Derived.Test.YteahiiflgiimnaaOnce2
namespace Go.Proofs.Yteahiiflgiimnaa
open Go Go.RowKit

/-- This one too has come up. -/
def upB (d : Nat → Bool) (i : Nat) : Nat → Bool := fun j => if j = i then true else d j
theorem upB_self (d : Nat → Bool) (i : Nat) : upB d i i = true := by unfold upB; rw [if_pos rfl]
theorem upB_ne (d : Nat → Bool) {i j : Nat} (h : j ≠ i) : upB d i j = d j := by unfold upB; rw [if_neg h]
theorem upB_set (ls : Array Bool) (i : Nat) (hi : i < ls.size) : upB (fun j => ls.getD j false) i = fun j => (ls.setIfInBounds i true).getD j false := by
  funext j
  unfold upB
  by_cases h : j = i
  · subst h; rw [if_pos rfl]; simp [hi]
  · rw [if_neg h, getD_set_ne false (Ne.symm h)]

section
variable {P : Program} {Q : Exit → Act → World → Prop} {l : List Oper} {a0 : Act} {F : Nat → Value → World → Prop} {S : World → World → Prop} {J : Nat → (Nat → Bool) → World → Prop}

theorem wpAny_onceD (hd : dstsB l = true) (hb : backB 0 l = true) (hS : ∀ k v w w', F k v w → S w w' → F k v w')
    (hop : ∀ (i : Nat) (o : Oper), l[i]? = some o → ∀ (t : Nat) (d : Nat → Bool) (vs : Nat → Value) (w : World), t < l.length → J t d w → d i = false → (∀ j, waitsB o j = true → d j = true) → Closed2 l d → (∀ j, waitsB o j = true → F j (vs j) w) →
      wpOp P l.toArray Q i (fun a' w' => ∃ v, a' = (putAll l vs 0 a0).put o.dst v ∧ F i v w' ∧ S w w' ∧ J (t + 1) (upB d i) w') (putAll l vs 0 a0) w)
    (hfin : ∀ t d vs w, t ≤ l.length → J t d w → (∀ i, i < l.length → d i = true) → (∀ k, k < l.length → F k (vs k) w) → Q .normal (putAll l vs 0 a0) w) :
    ∀ (fuel : Nat) (listed : Array Bool) (vs : Nat → Value) (w : World) (t : Nat), t + fuel = l.length → listed.size = l.length →
      ((List.range l.length).filter fun j => !listed.getD j true).length ≤ fuel → J t (fun j => listed.getD j false) w → Closed2 l (fun j => listed.getD j false) → (∀ k, k < l.length → listed.getD k false = true → F k (vs k) w) →
      wpAny P .any l.toArray Q fuel listed (putAll l vs 0 a0) w := by
  have hall : ∀ listed : Array Bool, listed.size = l.length → Region.ready .any l.toArray listed = [] → ∀ i, i < l.length → listed.getD i false = true := by
    intro listed hsz hr i
    induction i using Nat.strongRecOn with
    | ind i ih =>
      intro hi
      cases hli : listed.getD i false with
      | true => rfl
      | false =>
        exfalso
        have hlt : i < listed.size := by omega
        have h0 : listed.getD i true = false := by simpa [hlt] using hli
        have hm : i ∈ Region.ready .any l.toArray listed := by
          rw [mem_ready]
          refine ⟨h0, l[i], by simp [hi], fun e he hbi => ih e.on ?_ ?_⟩
          · have := back_get hb (i := i) (o := l[i]) (by simp [hi]) e he hbi; omega
          · have := back_get hb (i := i) (o := l[i]) (by simp [hi]) e he hbi; omega
        rw [hr] at hm
        cases hm
  have hend : ∀ (listed : Array Bool) (vs : Nat → Value) (w : World) (t : Nat), t ≤ l.length → listed.size = l.length → J t (fun j => listed.getD j false) w → Region.ready .any l.toArray listed = [] →
      (∀ k, k < l.length → listed.getD k false = true → F k (vs k) w) → Q .normal (putAll l vs 0 a0) w := fun listed vs w t ht hsz hI hr hF =>
    hfin t _ vs w ht hI (hall listed hsz hr) fun k hk => hF k hk (hall listed hsz hr k hk)
  intro fuel
  induction fuel with
  | zero =>
    intro listed vs w t ht hsz hc hI _ hF
    have hr : Region.ready .any l.toArray listed = [] := by
      apply List.eq_nil_iff_forall_not_mem.2
      intro j hj
      obtain ⟨h0, o, ho, _⟩ := mem_ready.1 hj
      have hlt : j < l.length := by
        have := (Array.getElem?_eq_some_iff.1 ho).1
        simpa using this
      have hmem : j ∈ (List.range l.length).filter fun j => !listed.getD j true := by
        rw [List.mem_filter, List.mem_range]
        exact ⟨hlt, by rw [h0]; rfl⟩
      have := List.length_pos_of_mem hmem
      omega
    exact ⟨hr, hend listed vs w t (by omega) hsz hI hr hF⟩
  | succ fuel ih =>
    intro listed vs w t ht hsz hc hI hcl hF
    refine ⟨fun hr => hend listed vs w t (by omega) hsz hI hr hF, fun i hi => ?_⟩
    obtain ⟨h0, o, ho, hed⟩ := mem_ready.1 hi
    have ho' : l[i]? = some o := by simpa using ho
    have hlt : i < l.length := (List.getElem?_eq_some_iff.1 ho').1
    have hi' : i < listed.size := by omega
    have hdi : listed.getD i false = false := by simpa [hi'] using h0
    have hwt : ∀ j, waitsB o j = true → j < l.length ∧ listed.getD j false = true := fun j hj => by
      obtain ⟨e, he, h2⟩ := List.any_eq_true.1 hj
      simp only [Bool.and_eq_true, beq_iff_eq] at h2
      obtain ⟨h2, rfl⟩ := h2
      have he' : e ∈ o.after := by simpa using he
      have := back_get hb ho' e he' h2
      exact ⟨by omega, hed e he' h2⟩
    refine wpOp_mono ?_ (hop i o ho' t (fun j => listed.getD j false) vs w (by omega) hI hdi (fun j hj => (hwt j hj).2) hcl (fun j hj => hF j (hwt j hj).1 (hwt j hj).2))
    rintro a' w' ⟨v, rfl, hFi, hSS, hI'⟩
    rw [putAll_upd l vs 0 i a0 hd ho', Nat.zero_add]
    rw [upB_set listed i hi'] at hI'
    refine ih _ _ w' (t + 1) (by omega) (by simpa using hsz) ?_ hI' ?_ ?_
    · have := count_step listed i hlt h0 hsz; omega
    · intro k ok hok hdk j hj
      by_cases hki : k = i
      · subst hki
        rw [ho'] at hok
        cases hok
        exact getD_set_true (hwt j hj).2
      · have hdk' : (listed.setIfInBounds i true).getD k false = true := hdk
        rw [getD_set_ne false (Ne.symm hki)] at hdk'
        exact getD_set_true (hcl k ok hok hdk' j hj)
    · intro k hk hl
      unfold upd
      by_cases hki : k = i
      · subst hki; rw [if_pos rfl]; exact hFi
      · rw [if_neg hki]
        rw [getD_set_ne false (Ne.symm hki)] at hl
        exact hS _ _ _ _ (hF k hk hl) hSS

/-- **Each operation once**, with an invariant that knows which operations have come up. -/
theorem wp_region_onceD {id : Nat} {w : World} (F : Nat → Value → World → Prop) (S : World → World → Prop) (J : Nat → (Nat → Bool) → World → Prop) (hm : P.follows .mixedOrders = true)
    (hB : (dstsB l && backB 0 l && plainB l) = true) (hR : roomB a0.tmps.size l = true) (h0 : J 0 (fun _ => false) w.drew)
    (hS : ∀ k v w w', F k v w → S w w' → F k v w')
    (hop : Each (fun i o => ∀ (t : Nat) (d : Nat → Bool) (A : Act) (vs : Nat → Value) (w : World), t < l.length → J t d w → d i = false → (∀ j, waitsB o j = true → d j = true) → Closed2 l d → (∀ j, waitsB o j = true → F j (vs j) w) → (∀ q, A.tmps[q]?.getD undef = look l vs 0 a0 q) →
      ∀ K : Act → World → Prop, (∀ v w', F i v w' → S w w' → J (t + 1) (upB d i) w' → K (A.put o.dst v) w') → o.wp P A w K Q) 0 l)
    (hfin : ∀ t d vs w, t ≤ l.length → J t d w → (∀ i, i < l.length → d i = true) → Each (fun i _ => F i (vs i) w) 0 l → Q .normal (putAll l vs 0 a0) w) : (Code.region id l.toArray true).wp P Q a0 w := by
  simp only [Bool.and_eq_true] at hB
  obtain ⟨⟨hd, hb⟩, hp⟩ := hB
  refine wp_region_any hm ?_
  obtain ⟨vs, e⟩ := putAll_init l a0
  have hz : (fun j => (Array.replicate l.length false).getD j false) = fun _ => false := by
    funext j
    by_cases hj : j < l.length <;> simp [hj]
  have := wpAny_onceD (P := P) (Q := Q) (a0 := a0) (F := F) (S := S) (J := J) hd hb hS ?_ ?_ l.length (Array.replicate l.length false) vs w.drew 0 (by omega) (by simp) ?_ (by rw [hz]; exact h0) (fun k ok hok hdk => by have := (List.getElem?_eq_some_iff.1 hok).1; simp [this] at hdk) (fun k hk h => by simp [hk] at h)
  · rw [e] at this
    simpa using this
  · intro i o ho t d vs w' ht hI hdi hw hcl hF
    have h0' := each_get hop ho
    rw [Nat.zero_add] at h0'
    have h1 := h0' t d (putAll l vs 0 a0) vs w' ht hI hdi hw hcl hF (look_all l vs 0 a0 hd hR)
    have hg : o.guard = none := by
      have := List.all_eq_true.1 hp o (List.mem_of_getElem? ho)
      simpa using this
    unfold wpOp
    have ho' : l.toArray[i]? = some o := by simpa using ho
    have hw' : Region.wanted o (yielded l.toArray (putAll l vs 0 a0).tmps) = true := by unfold Region.wanted; rw [hg]
    simp only [ho', hw', if_true]
    exact .inl (h1 _ fun v w'' hF' hSS hI' => ⟨v, rfl, hF', hSS, hI'⟩)
  · intro t d vs w' ht hI hdd hF
    refine hfin t d vs w' ht hI hdd ?_
    have : ∀ (r : List Oper) (k : Nat), k + r.length = l.length → Each (fun i _ => F i (vs i) w') k r := by
      intro r
      induction r with
      | nil => intro k _; trivial
      | cons o r ih =>
        intro k hk
        simp only [List.length_cons] at hk
        exact ⟨hF k (by omega), ih (k + 1) (by omega)⟩
    exact this l 0 (by omega)
  · exact Nat.le_trans (List.length_filter_le _ _) (by simp)
end
end Go.Proofs.Yteahiiflgiimnaa
