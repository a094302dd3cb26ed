/-
  A region that draws its order and whose operations write: each operation is looked at once. What is known of its value holds on, whatever the others do; so any order will do.
-/
import Derived.Orders
import Derived.WalkKit
namespace Go.Proofs.Yteahiiflgiimnaa
open Go

/-- All operations of the region have put their values. -/
def putAll : List Oper → (Nat → Value) → Nat → Act → Act
  | [], _, _, a => a
  | o :: r, vs, k, a => putAll r vs (k + 1) (a.put o.dst (vs k))
/-- No two operations put into the same place. -/
def dstsB : List Oper → Bool
  | [] => true
  | o :: r => (match o.dst with | none => true | some d => r.all fun x => x.dst != some d) && dstsB r
/-- Every operation waits for earlier ones alone. -/
def backB : Nat → List Oper → Bool
  | _, [] => true
  | k, o :: r => (o.after.toList.all fun e => !Region.binds .any e || decide (e.on < k)) && backB (k + 1) r
def plainB (l : List Oper) : Bool := l.all fun o => o.guard.isNone
/-- What an operation may lean on: the facts about those that it waits for. -/
def waitsB (o : Oper) (j : Nat) : Bool := o.after.toList.any fun e => Region.binds .any e && e.on == j
/-- All places lie in the frame. -/
def roomB (n : Nat) : List Oper → Bool
  | [] => true
  | o :: r => (match o.dst with | none => true | some d => decide (d < n)) && roomB n r
/-- What lies in a place. -/
def look : List Oper → (Nat → Value) → Nat → Act → Tmp → Value
  | [], _, _, a, d => a.tmps[d]?.getD undef
  | o :: r, vs, k, a, d => if o.dst = some d then vs k else look r vs (k + 1) a d
def Each (p : Nat → Oper → Prop) : Nat → List Oper → Prop
  | _, [] => True
  | k, o :: r => p k o ∧ Each p (k + 1) r
def upd (vs : Nat → Value) (j : Nat) (v : Value) : Nat → Value := fun n => if n = j then v else vs n

theorem each_get {p : Nat → Oper → Prop} : ∀ {l : List Oper} {k i : Nat} {o : Oper}, Each p k l → l[i]? = some o → p (k + i) o
  | [], _, _, _, _, h => by simp at h
  | x :: r, k, 0, o, he, h => by
    simp only [List.getElem?_cons_zero, Option.some.injEq] at h
    subst h; exact he.1
  | x :: r, k, i + 1, o, he, h => by
    rw [List.getElem?_cons_succ] at h
    have := each_get he.2 h
    rwa [Nat.add_assoc, Nat.add_comm 1 i] at this
theorem back_get : ∀ {l : List Oper} {k i : Nat} {o : Oper}, backB k l = true → l[i]? = some o → ∀ e ∈ o.after, Region.binds .any e = true → e.on < k + i
  | [], _, _, _, _, h => by simp at h
  | x :: r, k, 0, o, he, h => by
    simp only [List.getElem?_cons_zero, Option.some.injEq] at h
    subst h
    intro e hm hbi
    simp only [backB, Bool.and_eq_true] at he
    have := List.all_eq_true.1 he.1 e (by simpa using hm)
    rw [hbi] at this
    simpa using this
  | x :: r, k, i + 1, o, he, h => by
    rw [List.getElem?_cons_succ] at h
    simp only [backB, Bool.and_eq_true] at he
    intro e hm hbi
    have := back_get he.2 h e hm hbi
    omega
theorem putAll_congr {vs us : Nat → Value} : ∀ (l : List Oper) (k : Nat) (a : Act), (∀ n, k ≤ n → vs n = us n) → putAll l vs k a = putAll l us k a
  | [], _, _, _ => rfl
  | o :: r, k, a, h => by
    unfold putAll
    rw [h k (Nat.le_refl _)]
    exact putAll_congr r (k + 1) _ fun n hn => h n (by omega)
theorem putAll_put {vs : Nat → Value} (d : Tmp) (v : Value) : ∀ (l : List Oper) (k : Nat) (a : Act), (l.all fun x => x.dst != some d) = true → (putAll l vs k a).put (some d) v = putAll l vs k (a.put (some d) v)
  | [], _, _, _ => rfl
  | o :: r, k, a, h => by
    simp only [List.all_cons, Bool.and_eq_true, bne_iff_ne, ne_eq] at h
    unfold putAll
    rw [putAll_put d v r (k + 1) _ h.2, Act.put_comm a (x := o.dst) (y := some d) _ _ (fun d' he hd => h.1 (by rw [he]; exact hd.symm))]
theorem put_put (a : Act) (d : Option Tmp) (u v : Value) : (a.put d u).put d v = a.put d v := by
  cases d with
  | none => rfl
  | some d => simp [Act.put]
theorem putAll_upd {v : Value} {o : Oper} : ∀ (l : List Oper) (vs : Nat → Value) (k i : Nat) (a : Act), dstsB l = true → l[i]? = some o → (putAll l vs k a).put o.dst v = putAll l (upd vs (k + i) v) k a
  | [], _, _, _, _, _, h => by simp at h
  | x :: r, vs, k, 0, a, hd, h => by
    simp only [List.getElem?_cons_zero, Option.some.injEq] at h
    subst h
    simp only [dstsB, Bool.and_eq_true] at hd
    have e1 : putAll r (upd vs (k + 0) v) (k + 1) (a.put x.dst v) = putAll r vs (k + 1) (a.put x.dst v) :=
      putAll_congr r (k + 1) _ fun n hn => by unfold upd; rw [if_neg (by omega)]
    have e2 : upd vs (k + 0) v k = v := by unfold upd; simp
    show (putAll r vs (k + 1) (a.put x.dst (vs k))).put x.dst v = putAll r (upd vs (k + 0) v) (k + 1) (a.put x.dst (upd vs (k + 0) v k))
    rw [e2, e1]
    cases hx : x.dst with
    | none =>
      show (putAll r vs (k + 1) a) = putAll r vs (k + 1) a
      rfl
    | some d =>
      rw [hx] at hd
      rw [putAll_put d v r (k + 1) _ hd.1, put_put]
  | x :: r, vs, k, i + 1, a, hd, h => by
    rw [List.getElem?_cons_succ] at h
    simp only [dstsB, Bool.and_eq_true] at hd
    have e2 : upd vs (k + (i + 1)) v k = vs k := by unfold upd; rw [if_neg (by omega)]
    have := putAll_upd (v := v) r vs (k + 1) i (a.put x.dst (vs k)) hd.2 h
    show (putAll r vs (k + 1) (a.put x.dst (vs k))).put o.dst v = putAll r (upd vs (k + (i + 1)) v) (k + 1) (a.put x.dst (upd vs (k + (i + 1)) v k))
    rw [e2, this, show k + 1 + i = k + (i + 1) from by omega]
theorem put_self (a : Act) (dst : Option Tmp) (v : Value) (h : ∀ d, dst = some d → a.tmps[d]? = some v ∨ a.tmps.size ≤ d) : a.put dst v = a := by
  cases dst with
  | none => rfl
  | some d =>
    show { a with tmps := a.tmps.setIfInBounds d v } = a
    have : a.tmps.setIfInBounds d v = a.tmps := by
      apply Array.ext_getElem?
      intro j
      by_cases hj : d = j
      · subst hj
        rcases h d rfl with h | h
        · have hlt := (Array.getElem?_eq_some_iff.1 h).1
          rw [Array.getElem?_setIfInBounds_self_of_lt hlt, h]
        · rw [Array.getElem?_eq_none (by simpa using h), Array.getElem?_eq_none h]
      · rw [Array.getElem?_setIfInBounds_ne hj]
    rw [this]
theorem putAll_self {vs : Nat → Value} : ∀ (l : List Oper) (k : Nat) (a : Act), (∀ (i : Nat) (o : Oper) (d : Tmp), l[i]? = some o → o.dst = some d → a.tmps[d]? = some (vs (k + i)) ∨ a.tmps.size ≤ d) → putAll l vs k a = a
  | [], _, _, _ => rfl
  | o :: r, k, a, h => by
    show putAll r vs (k + 1) (a.put o.dst (vs k)) = a
    rw [put_self a o.dst (vs k) (fun d hd => h 0 o d rfl hd)]
    exact putAll_self r (k + 1) a fun i x d hx hd => by
      have := h (i + 1) x d hx hd
      rwa [show k + 1 + i = k + (i + 1) from by omega]
theorem putAll_init (l : List Oper) (a : Act) : ∃ vs, putAll l vs 0 a = a := by
  refine ⟨fun n => (((l[n]?).bind (·.dst)).bind fun d => a.tmps[d]?).getD undef, putAll_self l 0 a fun i o d ho hd => ?_⟩
  rw [Nat.zero_add, ho]
  simp only [Option.bind_some, hd]
  cases h : a.tmps[d]? with
  | none => exact .inr (Array.getElem?_eq_none_iff.1 h)
  | some v => exact .inl rfl
theorem count_step {n : Nat} (ls : Array Bool) (i : Nat) (hi : i < n) (h : ls.getD i true = false) (hs : ls.size = n) :
    ((List.range n).filter fun j => !(ls.setIfInBounds i true).getD j true).length < ((List.range n).filter fun j => !ls.getD j true).length := by
  have key : ∀ (l : List Nat), (l.filter fun j => !(ls.setIfInBounds i true).getD j true).length ≤ (l.filter fun j => !ls.getD j true).length ∧
      (i ∈ l → (l.filter fun j => !(ls.setIfInBounds i true).getD j true).length < (l.filter fun j => !ls.getD j true).length) := by
    intro l
    induction l with
    | nil => exact ⟨Nat.le_refl _, by simp⟩
    | cons x r ih =>
      by_cases hx : x = i
      · subst hx
        have e1 : (ls.setIfInBounds x true).getD x true = true := by
          have hlt : x < ls.size := by omega
          simp [hlt]
        rw [List.filter_cons, List.filter_cons, e1, h]
        simp only [Bool.not_true, Bool.not_false, if_true, Bool.false_eq_true, if_false, List.length_cons]
        exact ⟨by have := ih.1; omega, fun _ => by have := ih.1; omega⟩
      · have e1 : (ls.setIfInBounds i true).getD x true = ls.getD x true := getD_set_ne true (Ne.symm hx)
        rw [List.filter_cons, List.filter_cons, e1]
        cases ls.getD x true
        · simp only [Bool.not_false, if_true, List.length_cons]
          exact ⟨by have := ih.1; omega, fun hm => by
            have := ih.2 (by simpa [Ne.symm hx] using hm); omega⟩
        · simp only [Bool.not_true, Bool.false_eq_true, if_false]
          exact ⟨ih.1, fun hm => ih.2 (by simpa [Ne.symm hx] using hm)⟩
  exact (key (List.range n)).2 (by simpa using hi)

theorem look_put : ∀ (l : List Oper) (vs : Nat → Value) (k : Nat) (a : Act) (d d' : Tmp) (v : Value), d ≠ d' → look l vs k (a.put (some d) v) d' = look l vs k a d'
  | [], vs, k, a, d, d', v, h => by
    show ((a.tmps.setIfInBounds d v)[d']?).getD undef = (a.tmps[d']?).getD undef
    rw [Array.getElem?_setIfInBounds_ne h]
  | o :: r, vs, k, a, d, d', v, h => by
    unfold look
    rw [look_put r vs (k + 1) a d d' v h]
theorem look_all : ∀ (l : List Oper) (vs : Nat → Value) (k : Nat) (a : Act), dstsB l = true → roomB a.tmps.size l = true → ∀ d, (putAll l vs k a).tmps[d]?.getD undef = look l vs k a d
  | [], _, _, _, _, _, _ => rfl
  | o :: r, vs, k, a, hd, hr, d => by
    simp only [dstsB, Bool.and_eq_true] at hd
    simp only [roomB, Bool.and_eq_true] at hr
    have hsz : (a.put o.dst (vs k)).tmps.size = a.tmps.size := by unfold Act.put; split <;> simp
    have ih := look_all r vs (k + 1) (a.put o.dst (vs k)) hd.2 (by rw [hsz]; exact hr.2) d
    show (putAll r vs (k + 1) (a.put o.dst (vs k))).tmps[d]?.getD undef = if o.dst = some d then vs k else look r vs (k + 1) a d
    rw [ih]
    cases ho : o.dst with
    | none => rw [if_neg (by simp)]; rfl
    | some d' =>
      rw [ho] at hd hr
      by_cases he : d' = d
      · subst he
        rw [if_pos rfl]
        have hlt : d' < a.tmps.size := by simpa using hr.1
        have key : ∀ (r : List Oper) (k' : Nat), (r.all fun x => x.dst != some d') = true → look r vs k' (a.put (some d') (vs k)) d' = vs k := by
          intro r
          induction r with
          | nil =>
            intro k' _
            show ((a.tmps.setIfInBounds d' (vs k))[d']?).getD undef = vs k
            rw [Array.getElem?_setIfInBounds_self_of_lt hlt]; rfl
          | cons x r ih2 =>
            intro k' hx
            simp only [List.all_cons, Bool.and_eq_true, bne_iff_ne, ne_eq] at hx
            show (if x.dst = some d' then vs k' else look r vs (k' + 1) (a.put (some d') (vs k)) d') = vs k
            rw [if_neg hx.1]
            exact ih2 (k' + 1) hx.2
        exact key r (k + 1) hd.1
      · rw [if_neg (by simpa using he)]
        exact look_put r vs (k + 1) a d' d (vs k) he

section
variable {P : Program} {Q : Exit → Act → World → Prop} {l : List Oper} {a0 : Act} {F : Nat → Value → World → Prop} {S : World → World → Prop} {Inv : Nat → World → Prop}

theorem wpAny_once (hd : dstsB l = true) (hb : backB 0 l = true)
    (hS : ∀ k v w w', F k v w → S w w' → F k v w')
    (hop : ∀ (i : Nat) (o : Oper), l[i]? = some o → ∀ t vs w, t < l.length → Inv t w → (∀ j, waitsB o j = true → F j (vs j) w) →
      wpOp P l.toArray Q i (fun a' w' => ∃ v, a' = (putAll l vs 0 a0).put o.dst v ∧ F i v w' ∧ S w w' ∧ Inv (t + 1) w') (putAll l vs 0 a0) w)
    (hfin : ∀ t vs w, t ≤ l.length → Inv t w → (∀ i, i < l.length → F i (vs i) w) → Q .normal (putAll l vs 0 a0) w) :
    ∀ (fuel : Nat) (listed : Array Bool) (vs : Nat → Value) (w : World) (t : Nat), t + fuel = l.length → listed.size = l.length →
      ((List.range l.length).filter fun j => !listed.getD j true).length ≤ fuel → Inv t w → (∀ i, i < l.length → listed.getD i false = true → F i (vs i) w) →
      wpAny P .any l.toArray Q fuel listed (putAll l vs 0 a0) w := by
  have hall : ∀ listed : Array Bool, listed.size = l.length → Region.ready .any l.toArray listed = [] → ∀ i, i < l.length → listed.getD i false = true := by
    intro listed hsz hr i
    induction i using Nat.strongRecOn with
    | ind i ih =>
      intro hi
      cases hli : listed.getD i false with
      | true => rfl
      | false =>
        exfalso
        have hlt : i < listed.size := by omega
        have h0 : listed.getD i true = false := by simpa [hlt] using hli
        have hm : i ∈ Region.ready .any l.toArray listed := by
          rw [mem_ready]
          refine ⟨h0, l[i], by simp [hi], fun e he hbi => ih e.on ?_ ?_⟩
          · have := back_get hb (i := i) (o := l[i]) (by simp [hi]) e he hbi; omega
          · have := back_get hb (i := i) (o := l[i]) (by simp [hi]) e he hbi; omega
        rw [hr] at hm
        cases hm
  intro fuel
  induction fuel with
  | zero =>
    intro listed vs w t ht hsz hc hI hF
    have hr : Region.ready .any l.toArray listed = [] := by
      apply List.eq_nil_iff_forall_not_mem.2
      intro j hj
      obtain ⟨h0, o, ho, _⟩ := mem_ready.1 hj
      have hlt : j < l.length := by
        have := (Array.getElem?_eq_some_iff.1 ho).1
        simpa using this
      have hmem : j ∈ (List.range l.length).filter fun j => !listed.getD j true := by
        rw [List.mem_filter, List.mem_range]
        exact ⟨hlt, by rw [h0]; rfl⟩
      have := List.length_pos_of_mem hmem
      omega
    exact ⟨hr, hfin t vs w (by omega) hI fun i hi => hF i hi (hall listed hsz hr i hi)⟩
  | succ fuel ih =>
    intro listed vs w t ht hsz hc hI hF
    refine ⟨fun hr => hfin t vs w (by omega) hI fun i hi => hF i hi (hall listed hsz hr i hi), fun i hi => ?_⟩
    obtain ⟨h0, o, ho, hed⟩ := mem_ready.1 hi
    have ho' : l[i]? = some o := by simpa using ho
    have hlt : i < l.length := (List.getElem?_eq_some_iff.1 ho').1
    refine wpOp_mono ?_ (hop i o ho' t vs w (by omega) hI (fun j hj => by
      obtain ⟨e, he, h2⟩ := List.any_eq_true.1 hj
      simp only [Bool.and_eq_true, beq_iff_eq] at h2
      obtain ⟨h2, rfl⟩ := h2
      have he' : e ∈ o.after := by simpa using he
      have := back_get hb ho' e he' h2
      exact hF e.on (by omega) (hed e he' h2)))
    rintro a' w' ⟨v, rfl, hFi, hSS, hI'⟩
    rw [putAll_upd l vs 0 i a0 hd ho', Nat.zero_add]
    refine ih _ _ w' (t + 1) (by omega) (by simpa using hsz) ?_ hI' ?_
    · have := count_step listed i hlt h0 hsz; omega
    · intro j hj hl
      unfold upd
      by_cases hji : j = i
      · subst hji; rw [if_pos rfl]; exact hFi
      · rw [if_neg hji]
        rw [getD_set_ne false (Ne.symm hji)] at hl
        exact hS _ _ _ _ (hF j hj hl) hSS

/-- **Each operation once**: a region that draws its order and has no guards. -/
theorem wp_region_once {id : Nat} {w : World} (F : Nat → Value → World → Prop) (S : World → World → Prop) (Inv : Nat → World → Prop) (hm : P.follows .mixedOrders = true)
    (hB : (dstsB l && backB 0 l && plainB l) = true) (hR : roomB a0.tmps.size l = true) (h0 : Inv 0 w.drew)
    (hS : ∀ k v w w', F k v w → S w w' → F k v w')
    (hop : Each (fun i o => ∀ (t : Nat) (A : Act) (vs : Nat → Value) (w : World), t < l.length → Inv t w → (∀ j, waitsB o j = true → F j (vs j) w) → (∀ d, A.tmps[d]?.getD undef = look l vs 0 a0 d) → ∀ K : Act → World → Prop, (∀ v w', F i v w' → S w w' → Inv (t + 1) w' → K (A.put o.dst v) w') → o.wp P A w K Q) 0 l)
    (hfin : ∀ t vs w, t ≤ l.length → Inv t w → Each (fun i _ => F i (vs i) w) 0 l → Q .normal (putAll l vs 0 a0) w) : (Code.region id l.toArray true).wp P Q a0 w := by
  simp only [Bool.and_eq_true] at hB
  obtain ⟨⟨hd, hb⟩, hp⟩ := hB
  refine wp_region_any hm ?_
  obtain ⟨vs, e⟩ := putAll_init l a0
  have hq : ∀ listed : Array Bool, (∀ i, i < l.length → listed.getD i false = true → F i (vs i) w.drew) → listed.size = l.length → wpAny P .any l.toArray Q l.length listed (putAll l vs 0 a0) w.drew := by
    intro listed hl hs
    refine wpAny_once (F := F) (S := S) (Inv := Inv) hd hb hS ?_ ?_ l.length listed vs w.drew 0 (by omega) hs ?_ h0 hl
    · intro i o ho t vs w' ht hI hN
      have h0' := each_get hop ho
      rw [Nat.zero_add] at h0'
      have h1 := h0' t (putAll l vs 0 a0) vs w' ht hI hN (look_all l vs 0 a0 hd hR)
      have hg : o.guard = none := by
        have := List.all_eq_true.1 hp o (List.mem_of_getElem? ho)
        simpa using this
      unfold wpOp
      have ho' : l.toArray[i]? = some o := by simpa using ho
      have hw : Region.wanted o (yielded l.toArray (putAll l vs 0 a0).tmps) = true := by unfold Region.wanted; rw [hg]
      simp only [ho', hw, if_true]
      exact .inl (h1 _ fun v w'' hF hSS hI' => ⟨v, rfl, hF, hSS, hI'⟩)
    · intro t vs w' ht hI hF
      refine hfin t vs w' ht hI ?_
      have : ∀ (r : List Oper) (k : Nat), k + r.length = l.length → Each (fun i _ => F i (vs i) w') k r := by
        intro r
        induction r with
        | nil => intro k _; trivial
        | cons o r ih =>
          intro k hk
          simp only [List.length_cons] at hk
          exact ⟨hF k (by omega), ih (k + 1) (by omega)⟩
      exact this l 0 (by omega)
    · exact Nat.le_trans (List.length_filter_le _ _) (by simp)
  have := hq (Array.replicate l.length false) (fun i hi h => by simp [hi] at h) (by simp)
  rw [e] at this
  simpa using this
end
end Go.Proofs.Yteahiiflgiimnaa
