/-
  A region that draws its order, each operation once: a fact may hold until another operation (its user) has come up.
-/
import Derived.Test.YteahiiflgiimnaaOnce
import Derived.Test.YteahiiflgiimnaaRun
namespace Go.Proofs.Yteahiiflgiimnaa
open Go Go.RowKit

/-- Still of use. -/
def Alive2 (cons : Nat → Option Nat) (d : Nat → Bool) (k : Nat) : Prop := ∀ c, cons k = some c → d c = false

/-- Whoever has come up has those behind him that he waits for. -/
def Closed2 (l : List Oper) (d : Nat → Bool) : Prop := ∀ (k : Nat) (o : Oper), l[k]? = some o → d k = true → ∀ j, waitsB o j = true → d j = true

section
variable {P : Program} {Q : Exit → Act → World → Prop} {l : List Oper} {a0 : Act} {G : Nat → Value → World → Prop} {cons : Nat → Option Nat} {Inv : Nat → World → Prop}

theorem wpAny_once2 (hd : dstsB l = true) (hb : backB 0 l = true)
    (hop : ∀ (i : Nat) (o : Oper), l[i]? = some o → ∀ (t : Nat) (d : Nat → Bool) (vs : Nat → Value) (w : World), t < l.length → Inv t w → d i = false → (∀ j, waitsB o j = true → j < l.length ∧ d j = true) → Closed2 l d →
      (∀ k, k < l.length → d k = true → Alive2 cons d k → G k (vs k) w) →
      wpOp P l.toArray Q i (fun a' w' => ∃ v, a' = (putAll l vs 0 a0).put o.dst v ∧ G i v w' ∧ (∀ k, k < l.length → d k = true → Alive2 cons d k → cons k ≠ some i → G k (vs k) w → G k (vs k) w') ∧ Inv (t + 1) w') (putAll l vs 0 a0) w)
    (hfin : ∀ t vs w, t ≤ l.length → Inv t w → (∀ k, k < l.length → cons k = none → G k (vs k) w) → Q .normal (putAll l vs 0 a0) w) :
    ∀ (fuel : Nat) (listed : Array Bool) (vs : Nat → Value) (w : World) (t : Nat), t + fuel = l.length → listed.size = l.length →
      ((List.range l.length).filter fun j => !listed.getD j true).length ≤ fuel → Inv t w → Closed2 l (fun j => listed.getD j false) → (∀ k, k < l.length → listed.getD k false = true → Alive2 cons (fun j => listed.getD j false) k → G k (vs k) w) →
      wpAny P .any l.toArray Q fuel listed (putAll l vs 0 a0) w := by
  have hall : ∀ listed : Array Bool, listed.size = l.length → Region.ready .any l.toArray listed = [] → ∀ i, i < l.length → listed.getD i false = true := by
    intro listed hsz hr i
    induction i using Nat.strongRecOn with
    | ind i ih =>
      intro hi
      cases hli : listed.getD i false with
      | true => rfl
      | false =>
        exfalso
        have hlt : i < listed.size := by omega
        have h0 : listed.getD i true = false := by simpa [hlt] using hli
        have hm : i ∈ Region.ready .any l.toArray listed := by
          rw [mem_ready]
          refine ⟨h0, l[i], by simp [hi], fun e he hbi => ih e.on ?_ ?_⟩
          · have := back_get hb (i := i) (o := l[i]) (by simp [hi]) e he hbi; omega
          · have := back_get hb (i := i) (o := l[i]) (by simp [hi]) e he hbi; omega
        rw [hr] at hm
        cases hm
  have hend : ∀ (listed : Array Bool) (vs : Nat → Value) (w : World) (t : Nat), t ≤ l.length → listed.size = l.length → Inv t w → Region.ready .any l.toArray listed = [] →
      (∀ k, k < l.length → listed.getD k false = true → Alive2 cons (fun j => listed.getD j false) k → G k (vs k) w) → Q .normal (putAll l vs 0 a0) w := fun listed vs w t ht hsz hI hr hF =>
    hfin t vs w ht hI fun k hk hc => hF k hk (hall listed hsz hr k hk) fun c hcc => by rw [hc] at hcc; cases hcc
  intro fuel
  induction fuel with
  | zero =>
    intro listed vs w t ht hsz hc hI _ hF
    have hr : Region.ready .any l.toArray listed = [] := by
      apply List.eq_nil_iff_forall_not_mem.2
      intro j hj
      obtain ⟨h0, o, ho, _⟩ := mem_ready.1 hj
      have hlt : j < l.length := by
        have := (Array.getElem?_eq_some_iff.1 ho).1
        simpa using this
      have hmem : j ∈ (List.range l.length).filter fun j => !listed.getD j true := by
        rw [List.mem_filter, List.mem_range]
        exact ⟨hlt, by rw [h0]; rfl⟩
      have := List.length_pos_of_mem hmem
      omega
    exact ⟨hr, hend listed vs w t (by omega) hsz hI hr hF⟩
  | succ fuel ih =>
    intro listed vs w t ht hsz hc hI hcl hF
    refine ⟨fun hr => hend listed vs w t (by omega) hsz hI hr hF, fun i hi => ?_⟩
    obtain ⟨h0, o, ho, hed⟩ := mem_ready.1 hi
    have ho' : l[i]? = some o := by simpa using ho
    have hlt : i < l.length := (List.getElem?_eq_some_iff.1 ho').1
    have hdi : listed.getD i false = false := by
      have h1 : i < listed.size := by omega
      simpa [h1] using h0
    have hwt : ∀ j, waitsB o j = true → j < l.length ∧ listed.getD j false = true := fun j hj => by
      obtain ⟨e, he, h2⟩ := List.any_eq_true.1 hj
      simp only [Bool.and_eq_true, beq_iff_eq] at h2
      obtain ⟨h2, rfl⟩ := h2
      have he' : e ∈ o.after := by simpa using he
      have := back_get hb ho' e he' h2
      exact ⟨by omega, hed e he' h2⟩
    refine wpOp_mono ?_ (hop i o ho' t (fun j => listed.getD j false) vs w (by omega) hI hdi hwt hcl hF)
    rintro a' w' ⟨v, rfl, hGi, hkeep, hI'⟩
    rw [putAll_upd l vs 0 i a0 hd ho', Nat.zero_add]
    refine ih _ _ w' (t + 1) (by omega) (by simpa using hsz) ?_ hI' ?_ ?_
    · have := count_step listed i hlt h0 hsz; omega
    · intro k ok hok hdk j hj
      by_cases hki : k = i
      · subst hki
        rw [ho'] at hok
        cases hok
        exact getD_set_true (hwt j hj).2
      · have hdk' : (listed.setIfInBounds i true).getD k false = true := hdk
        rw [getD_set_ne false (Ne.symm hki)] at hdk'
        exact getD_set_true (hcl k ok hok hdk' j hj)
    · intro k hk hl hal
      unfold upd
      by_cases hki : k = i
      · subst hki; rw [if_pos rfl]; exact hGi
      · rw [if_neg hki]
        rw [getD_set_ne false (Ne.symm hki)] at hl
        have hal2 : Alive2 cons (fun j => listed.getD j false) k := fun c hc => by
          have h3 := hal c hc
          by_cases hci : i = c
          · subst hci
            have h1 : i < listed.size := by omega
            simp [h1] at h3
          · have h3' : (listed.setIfInBounds i true).getD c false = false := h3
            rwa [getD_set_ne false hci] at h3'
        refine hkeep k hk hl hal2 (fun hc => ?_) (hF k hk hl hal2)
        have h3 := hal i hc
        have h1 : i < listed.size := by omega
        simp [h1] at h3

/-- **Each operation once**, with facts that last until their user has come up. -/
theorem wp_region_once2S {id : Nat} {w : World} (S : World → World → Prop) (G : Nat → Value → World → Prop) (cons : Nat → Option Nat) (Inv : Nat → World → Prop) (hm : P.follows .mixedOrders = true)
    (hB : (dstsB l && backB 0 l && plainB l) = true) (hR : roomB a0.tmps.size l = true) (h0 : Inv 0 w.drew)
    (hG : ∀ k v w w', S w w' → G k v w → G k v w')
    (hop : Each (fun i o => ∀ (t : Nat) (d : Nat → Bool) (A : Act) (vs : Nat → Value) (w : World), t < l.length → Inv t w → d i = false → (∀ j, waitsB o j = true → d j = true) → Closed2 l d → (∀ j, waitsB o j = true → (∀ c, cons j = some c → c = i ∨ d c = false) → G j (vs j) w) → (∀ q, A.tmps[q]?.getD undef = look l vs 0 a0 q) →
      ∀ K : Act → World → Prop, (∀ v w', G i v w' → (S w w' ∨ (∀ k, k < l.length → d k = true → (∀ c, cons k = some c → d c = false) → cons k ≠ some i → G k (vs k) w → G k (vs k) w')) → Inv (t + 1) w' → K (A.put o.dst v) w') → o.wp P A w K Q) 0 l)
    (hfin : ∀ t vs w, t ≤ l.length → Inv t w → Each (fun k _ => cons k = none → G k (vs k) w) 0 l → Q .normal (putAll l vs 0 a0) w) : (Code.region id l.toArray true).wp P Q a0 w := by
  simp only [Bool.and_eq_true] at hB
  obtain ⟨⟨hd, hb⟩, hp⟩ := hB
  refine wp_region_any hm ?_
  obtain ⟨vs, e⟩ := putAll_init l a0
  have := wpAny_once2 (P := P) (Q := Q) (a0 := a0) (G := G) (cons := cons) (Inv := Inv) hd hb ?_ ?_ l.length (Array.replicate l.length false) vs w.drew 0 (by omega) (by simp) ?_ h0 (fun k ok hok hdk => by have := (List.getElem?_eq_some_iff.1 hok).1; simp [this] at hdk) (fun k hk h => by simp [hk] at h)
  · rw [e] at this
    simpa using this
  · intro i o ho t d vs w' ht hI hdi hw hcl hF
    have h0' := each_get hop ho
    rw [Nat.zero_add] at h0'
    have h1 := h0' t d (putAll l vs 0 a0) vs w' ht hI hdi (fun j hj => (hw j hj).2) hcl (fun j hj hc => hF j (hw j hj).1 (hw j hj).2 fun c hcc => by
      rcases hc c hcc with rfl | h
      · exact hdi
      · exact h) (look_all l vs 0 a0 hd hR)
    have hg : o.guard = none := by
      have := List.all_eq_true.1 hp o (List.mem_of_getElem? ho)
      simpa using this
    unfold wpOp
    have ho' : l.toArray[i]? = some o := by simpa using ho
    have hw' : Region.wanted o (yielded l.toArray (putAll l vs 0 a0).tmps) = true := by unfold Region.wanted; rw [hg]
    simp only [ho', hw', if_true]
    exact .inl (h1 _ fun v w'' hF' hk hI' => ⟨v, rfl, hF', fun k hk1 hk2 hk3 hk4 hk5 => by
      rcases hk with he | hk
      · exact hG k _ _ _ he hk5
      · exact hk k hk1 hk2 hk3 hk4 hk5, hI'⟩)
  · intro t vs w' ht hI hF
    refine hfin t vs w' ht hI ?_
    have : ∀ (r : List Oper) (k : Nat), k + r.length = l.length → Each (fun k _ => cons k = none → G k (vs k) w') k r := by
      intro r
      induction r with
      | nil => intro k _; trivial
      | cons o r ih =>
        intro k hk
        simp only [List.length_cons] at hk
        exact ⟨hF k (by omega), ih (k + 1) (by omega)⟩
    exact this l 0 (by omega)
  · exact Nat.le_trans (List.length_filter_le _ _) (by simp)
theorem wp_region_once2 {id : Nat} {w : World} (G : Nat → Value → World → Prop) (cons : Nat → Option Nat) (Inv : Nat → World → Prop) (hm : P.follows .mixedOrders = true)
    (hB : (dstsB l && backB 0 l && plainB l) = true) (hR : roomB a0.tmps.size l = true) (h0 : Inv 0 w.drew)
    (hG : ∀ k v w w', Ext w w' → G k v w → G k v w')
    (hop : Each (fun i o => ∀ (t : Nat) (d : Nat → Bool) (A : Act) (vs : Nat → Value) (w : World), t < l.length → Inv t w → d i = false → (∀ j, waitsB o j = true → d j = true) → Closed2 l d → (∀ j, waitsB o j = true → (∀ c, cons j = some c → c = i ∨ d c = false) → G j (vs j) w) → (∀ q, A.tmps[q]?.getD undef = look l vs 0 a0 q) →
      ∀ K : Act → World → Prop, (∀ v w', G i v w' → (Ext w w' ∨ (∀ k, k < l.length → d k = true → (∀ c, cons k = some c → d c = false) → cons k ≠ some i → G k (vs k) w → G k (vs k) w')) → Inv (t + 1) w' → K (A.put o.dst v) w') → o.wp P A w K Q) 0 l)
    (hfin : ∀ t vs w, t ≤ l.length → Inv t w → Each (fun k _ => cons k = none → G k (vs k) w) 0 l → Q .normal (putAll l vs 0 a0) w) : (Code.region id l.toArray true).wp P Q a0 w :=
  wp_region_once2S (fun w w' => Ext w w') G cons Inv hm hB hR h0 hG hop hfin
end

section
variable {P : Program} (w : World)
/-- append onto an empty literal: nothing that lay there is written. -/
theorem run_append_empty (B : Nat) (t ty e : TypeId) (i : TypeInfo) (z : Value) (size bytes : Nat) (ht : P.underlying t = some (.slice e)) (hi : P.info? e = some i) (hz : i.zero = some z)
    (hsize : i.size = size) (hby : i.bytes = bytes) (hzs : z.cells.size = size) (hsz : 0 < size)
    (ad : Addr) (hF : Fr w B e size (.slice (some ad) 0 0) 0 []) (A : Option Addr) (m c : Nat) (news : List Value) (hr : Rd w size A m c news) (h1 : ∀ u ∈ news, u.oneCell' = true)
    (h63 : m ≤ maxLen) (hbytes : m * bytes ≤ 140737488355328) (hB : B ≤ w.heap.size) :
    ∃ v' w', (Builtin.append_ #[t, t] ty #[.slice (some ad) 0 0, .slice A m c]).run P w = .ok v' w' ∧ Fr w' B e size v' m news ∧ Ext w w' := by
  rcases Nat.eq_zero_or_pos m with hm | hm
  · obtain ⟨v', w', row, hrun, h2, h3, h4⟩ := run_append_fr (P := P) w B t ty e i z size bytes ht hi hz hsize hby hzs hsz _ 0 [] hF A m c news hr h1 (by omega) (by rw [Nat.zero_add]; exact hbytes) hB
    subst hm
    have hn0 : news = [] := List.eq_nil_of_length_eq_zero (by simpa using hr.len)
    subst hn0
    rcases A with _ | ad2
    · have hrun2 : (Builtin.append_ #[t, t] ty #[.slice (some ad) 0 0, .slice none 0 c]).run P w = .ok (.slice (some ad) 0 0) w := by
        simp [Builtin.append_, run_underlying ht, sizeOf, typeInfo, hi, Builtin.lenOf, Builtin.firstCells, storeCells]
      exact ⟨_, _, hrun2, hF, Below.refl _ _⟩
    · have hrun2 : (Builtin.append_ #[t, t] ty #[.slice (some ad) 0 0, .slice (some ad2) 0 c]).run P w = .ok (.slice (some ad) 0 0) w := by
        simp [Builtin.append_, run_underlying ht, sizeOf, typeInfo, hi, Builtin.lenOf, Builtin.firstCells, storeCells, loadCells, loadCellsFrom]
      exact ⟨_, _, hrun2, hF, Below.refl _ _⟩
  · obtain ⟨b, off, rfl, hcell⟩ := hr.cells hm
    have hnews : ∀ j u, news[j]? = some u → w.cell? ((⟨b, off, none⟩ : Addr).add j) = some u := fun j u hu => by rw [Addr.add_lit]; exact hcell j u hu
    obtain ⟨v', w', hrun, h2, h3⟩ := run_append_arg_grows (P := P) w t ty e i z size bytes ht hi hz hsize hby hzs hsz ad 0 0 [] (by simp) (by simp) ⟨b, off, none⟩ m c news hr.len hnews (by omega) (by omega) (by rw [Nat.zero_add]; exact hbytes)
    refine ⟨v', w', hrun, ?_, ext_grown (Below.refl _ _) h3 (by simp)⟩
    have := (Fr.of_own h2).mono hB
    rwa [Nat.zero_add, List.nil_append] at this
theorem wp_append_empty {o : Oper} {a : Act} {K : Act → World → Prop} {Q : Exit → Act → World → Prop} (s x : Operand) (t : TypeId) (ho : o.op = .call { callee := .builtin .append, args := #[s, x], argTypes := #[t, t] })
    (B : Nat) (e : TypeId) (i : TypeInfo) (z : Value) (size bytes : Nat) (ht : P.underlying t = some (.slice e)) (hi : P.info? e = some i) (hz : i.zero = some z)
    (hsize : i.size = size) (hby : i.bytes = bytes) (hzs : z.cells.size = size) (hsz : 0 < size)
    (ad : Addr) (hs : a.eval s = .slice (some ad) 0 0) (hF : Fr w B e size (.slice (some ad) 0 0) 0 []) (A : Option Addr) (m c : Nat) (news : List Value) (hx : a.eval x = .slice A m c) (hr : Rd w size A m c news) (h1 : ∀ u ∈ news, u.oneCell' = true)
    (h63 : m ≤ maxLen) (hbytes : m * bytes ≤ 140737488355328) (hB : B ≤ w.heap.size)
    (h : ∀ A' c' w', Fr w' B e size (.slice A' m c') m news → Ext w w' → K (a.put o.dst (.slice A' m c')) w') : o.wp P a w K Q := by
  obtain ⟨v', w', hrun, h2, h3⟩ := run_append_empty (P := P) w B t o.type e i z size bytes ht hi hz hsize hby hzs hsz ad hF A m c news hr h1 h63 hbytes hB
  obtain ⟨A', c', rfl, _⟩ := h2.rd
  unfold Oper.wp execOp
  simp only [ho, resolve, invoke, builtin, Sem.run_bind, Sem.run_pure, Result.andThen_ok, List.map_toArray, List.map_cons, List.map_nil, hs, hx, hrun]
  exact h A' c' w' h2 h3
end
end Go.Proofs.Yteahiiflgiimnaa
