/-
  append, copy and clear on rows that the call itself made, said of lists of cells.
-/
import Derived.Test.YteahiiflgiimnaaBase
import Derived.ArgAppend
import Derived.Laws.IdiomCopy
import Derived.Deep.AppendLies
import Derived.Lib.SliceRun
namespace Go.Proofs.Yteahiiflgiimnaa
open Go.RowKit

/-- What a store of several cells in a row leaves of the block. -/
theorem setCells_blk {g e : Nat} {fr : Nat × Nat} : ∀ (vs : List Value) (o : Nat) (w : World) (cur : Array Value), w.heap[g]? = some (.cells cur e fr) → o + vs.length ≤ cur.size →
    ∃ cur' : Array Value, (w.setCells g o vs).heap[g]? = some (.cells cur' e fr) ∧ cur'.size = cur.size ∧ cur'.toList = cur.toList.take o ++ vs ++ cur.toList.drop (o + vs.length)
  | [], o, w, cur, h, _ => ⟨cur, h, rfl, by simp⟩
  | v :: r, o, w, cur, h, hs => by
    simp only [List.length_cons] at hs
    have h1 : (w.setCell ⟨g, o, none⟩ v).heap[g]? = some (.cells (cur.setIfInBounds o v) e fr) := by
      simp [World.setCell, Array.getElem?_modify, h]
    obtain ⟨cur', h2, h3, h4⟩ := setCells_blk r (o + 1) _ _ h1 (by simp; omega)
    refine ⟨cur', h2, by simpa using h3, ?_⟩
    rw [h4, Array.toList_setIfInBounds]
    have hl : o < cur.toList.length := by simp; omega
    have hX : (cur.toList.take o).length = o := by rw [List.length_take]; omega
    have e : cur.toList.set o v = cur.toList.take o ++ v :: cur.toList.drop (o + 1) := by rw [List.set_eq_take_append_cons_drop, if_pos hl]
    have e1 : (cur.toList.take o ++ v :: cur.toList.drop (o + 1)).take (o + 1) = cur.toList.take o ++ [v] := by
      have := List.take_length_add_append (l₁ := cur.toList.take o) (l₂ := v :: cur.toList.drop (o + 1)) 1
      rw [hX] at this
      rw [this]; rfl
    have e2 : (cur.toList.take o ++ v :: cur.toList.drop (o + 1)).drop (o + 1 + r.length) = cur.toList.drop (o + (v :: r).length) := by
      have := List.drop_length_add_append (l₁ := cur.toList.take o) (l₂ := v :: cur.toList.drop (o + 1)) (1 + r.length)
      rw [hX, ← Nat.add_assoc] at this
      rw [this, Nat.add_comm 1 r.length, List.drop_succ_cons, List.drop_drop, List.length_cons]
      congr 1
      omega
    rw [e, e1, e2, List.append_assoc, List.append_assoc, List.append_assoc]
    rfl

theorem setCells_grown (g : Nat) : ∀ (vs : List Value) (o : Nat) (w : World), w.grownBy (w.setCells g o vs) (some g)
  | [], _, w => World.grownBy.refl w _
  | v :: r, o, w => by
    have h := setCells_grown g r (o + 1) (w.setCell ⟨g, o, none⟩ v)
    have h1 := grown_set (g := g) (p := ⟨g, o, none⟩) (World.grownBy.refl w (some g)) rfl v
    exact ⟨h.os.trans h1.os, h.tape.trans h1.tape, h.output.trans h1.output, Nat.le_trans h1.size h.size, fun k hk hne => (h.block k (by simpa [World.setCell] using hk) hne).trans (h1.block k hk hne)⟩

section
variable {w : World} {B e sz n c g : Nat} {xs vs : List Value}
/-- Cells written inside. -/
theorem Row.splice (h : Row w B e sz (.slice (some ⟨g, 0, none⟩) n c) n xs) (o : Nat) (ho : o + vs.length ≤ n * sz) :
    Row (w.setCells g o vs) B e sz (.slice (some ⟨g, 0, none⟩) n c) n (xs.take o ++ vs ++ xs.drop (o + vs.length)) := by
  obtain ⟨hB, hn, hc, cur, hh, hs, ht⟩ := h.inv
  have hle : n * sz ≤ c * sz := Nat.mul_le_mul_right _ hn
  obtain ⟨cur', h1, h2, h3⟩ := setCells_blk vs o w cur hh (by omega)
  have hl := h.len
  refine Row.mk_ (by simp only [List.length_append, List.length_take, List.length_drop]; omega) hB h1 hn hc (by omega) ?_
  rw [h3, ← ht]
  have hcl : n * sz ≤ cur.toList.length := by simp; omega
  have hX : (cur.toList.take o ++ vs).length = o + vs.length := by rw [List.length_append, List.length_take]; omega
  rw [List.take_append, hX, List.take_of_length_le (by omega), List.take_take, Nat.min_eq_left (by omega), List.drop_take]
/-- Cells written behind the last one, within the capacity. -/
theorem Row.push (h : Row w B e sz (.slice (some ⟨g, 0, none⟩) n c) n xs) {m : Nat} (hm : vs.length = m * sz) (hc : n + m ≤ c) :
    Row (w.setCells g (n * sz) vs) B e sz (.slice (some ⟨g, 0, none⟩) (n + m) c) (n + m) (xs ++ vs) := by
  obtain ⟨hB, hn, hcm, cur, hh, hs, ht⟩ := h.inv
  have hle : (n + m) * sz ≤ c * sz := Nat.mul_le_mul_right _ hc
  rw [Nat.add_mul] at hle
  obtain ⟨cur', h1, h2, h3⟩ := setCells_blk vs (n * sz) w cur hh (by omega)
  have hl := h.len
  refine Row.mk_ (by rw [List.length_append, hl, hm, Nat.add_mul]) hB h1 hc hcm (by omega) ?_
  rw [h3, ht, Nat.add_mul, ← hm, ← hl, ← List.length_append, List.take_append_of_le_length (Nat.le_refl _), List.take_length]
end

section
variable {P : Program} (w : World)
/-- append onto a row of the call's own, or onto nothing: the source may be nil, empty, or lie anywhere. -/
theorem run_append_fr (B : Nat) (t ty e : TypeId) (i : TypeInfo) (z : Value) (size bytes : Nat) (ht : P.underlying t = some (.slice e)) (hi : P.info? e = some i) (hz : i.zero = some z)
    (hsize : i.size = size) (hby : i.bytes = bytes) (hzs : z.cells.size = size) (hsz : 0 < size)
    (v : Value) (n : Nat) (xs : List Value) (hF : Fr w B e size v n xs) (A : Option Addr) (m c : Nat) (news : List Value) (hr : Rd w size A m c news) (h1 : ∀ u ∈ news, u.oneCell' = true)
    (h63 : n + m ≤ maxLen) (hbytes : (n + m) * bytes ≤ 140737488355328) (hB : B ≤ w.heap.size) :
    ∃ v' w' row, (Builtin.append_ #[t, t] ty #[v, .slice A m c]).run P w = .ok v' w' ∧ Fr w' B e size v' (n + m) (xs ++ news) ∧ w.grownBy w' row ∧ (∀ k, row = some k → B ≤ k ∧ k < w.heap.size ∧ v.ownBlock = some k) := by
  rcases Nat.eq_zero_or_pos m with hm | hm
  · subst hm
    have hn0 : news = [] := List.eq_nil_of_length_eq_zero (by simpa using hr.len)
    subst hn0
    refine ⟨v, w, none, ?_, by simpa using hF, World.grownBy.refl w _, by simp⟩
    obtain ⟨A', c', rfl, hr'⟩ := hF.rd
    rcases A with _ | ad
    · simp [Builtin.append_, run_underlying ht, sizeOf, typeInfo, hi, Builtin.lenOf, Builtin.firstCells, hr'.le, storeCells]
      rcases A' with _ | ad'
      · rcases hF with ⟨A', hv, rfl, rfl⟩ | hF
        · simp only [Value.slice.injEq] at hv
          obtain ⟨rfl, _, rfl⟩ := hv
          simp
        · obtain ⟨g, c2, hv⟩ := hF.shape
          simp at hv
      · simp
    · simp [Builtin.append_, run_underlying ht, sizeOf, typeInfo, hi, Builtin.lenOf, Builtin.firstCells, hr'.le, storeCells, loadCells, loadCellsFrom]
      rcases A' with _ | ad'
      · rcases hF with ⟨A', hv, rfl, rfl⟩ | hF
        · simp only [Value.slice.injEq] at hv
          obtain ⟨rfl, _, rfl⟩ := hv
          simp
        · obtain ⟨g, c2, hv⟩ := hF.shape
          simp at hv
      · simp
  · obtain ⟨b, off, rfl, hcell⟩ := hr.cells hm
    have hl := hr.len
    have hnews : ∀ j u, news[j]? = some u → w.cell? ((⟨b, off, none⟩ : Addr).add j) = some u := fun j u hu => by rw [Addr.add_lit]; exact hcell j u hu
    rcases hF with ⟨A', rfl, rfl, rfl⟩ | hF
    · rcases A' with _ | ad'
      · obtain ⟨v', w', hrun, h2, h3, _⟩ := run_append_own (P := P) w B t ty e i z size bytes ht hi hz hsize hby hzs hsz (.slice none 0 0) 0 [] (World.ownsRow_nil _ _ _ _) ⟨b, off, none⟩ m c news hl hnews h1 h63 hbytes hB
        exact ⟨v', w', none, hrun, Fr.of_own h2, h3, by simp⟩
      · obtain ⟨v', w', hrun, h2, h3⟩ := run_append_arg_grows (P := P) w t ty e i z size bytes ht hi hz hsize hby hzs hsz ad' 0 0 [] (by simp) (by simp) ⟨b, off, none⟩ m c news hl hnews (by omega) h63 hbytes
        exact ⟨v', w', none, hrun, (Fr.of_own h2).mono hB, h3, by simp⟩
    · obtain ⟨g, c', rfl⟩ := hF.shape
      have hlt := hF.lt g rfl
      by_cases hroom : n + m ≤ c'
      · have hF' := hF
        obtain ⟨_, hn, hcm, cur, hh, hs, _⟩ := hF'.inv
        have hfit : n * size + m * size ≤ cur.size := by have := Nat.mul_le_mul_right size hroom; rw [Nat.add_mul] at this; omega
        subst hsize
        have hrun := run_append_room_cells (P := P) w t ty e i ht hi g 0 n c' ⟨b, off, none⟩ m c news hl hnews h1 hroom
          (fun j hj => by rw [Nat.zero_add, cell_of_row w g _ cur e (0, 0) hh, Array.getElem?_eq_getElem (by omega)]; rfl) (fun j _ => hF.frozenAt _)
        rw [Nat.zero_add] at hrun
        exact ⟨_, _, some g, hrun, .inr (hF.push hl hroom), setCells_grown g _ _ _, fun k hk => by cases hk; exact ⟨hlt.1, hlt.2, rfl⟩⟩
      · have hrd := Rd.of_row hF
        obtain ⟨v', w', hrun, h2, h3⟩ := run_append_arg_grows (P := P) w t ty e i z size bytes ht hi hz hsize hby hzs hsz ⟨g, 0, none⟩ n c' xs hF.len (fun j u hu => by
          rw [Addr.add_lit, Nat.zero_add, hF.cellAt j (by rw [← hF.len]; exact (List.getElem?_eq_some_iff.1 hu).1)]; exact hu) ⟨b, off, none⟩ m c news hl hnews (by omega) h63 hbytes
        exact ⟨v', w', none, hrun, (Fr.of_own h2).mono hB, h3, by simp⟩

theorem wp_append_fr {o : Oper} {a : Act} {K : Act → World → Prop} {Q : Exit → Act → World → Prop} (s x : Operand) (t : TypeId) (ho : o.op = .call { callee := .builtin .append, args := #[s, x], argTypes := #[t, t] })
    (B : Nat) (e : TypeId) (i : TypeInfo) (z : Value) (size bytes : Nat) (ht : P.underlying t = some (.slice e)) (hi : P.info? e = some i) (hz : i.zero = some z)
    (hsize : i.size = size) (hby : i.bytes = bytes) (hzs : z.cells.size = size) (hsz : 0 < size)
    (v : Value) (n : Nat) (xs : List Value) (hs : a.eval s = v) (hF : Fr w B e size v n xs) (A : Option Addr) (m c : Nat) (news : List Value) (hx : a.eval x = .slice A m c) (hr : Rd w size A m c news) (h1 : ∀ u ∈ news, u.oneCell' = true)
    (h63 : n + m ≤ maxLen) (hbytes : (n + m) * bytes ≤ 140737488355328) (hB : B ≤ w.heap.size)
    (h : ∀ A' c' w' row, Fr w' B e size (.slice A' (n + m) c') (n + m) (xs ++ news) → w.grownBy w' row → (∀ k, row = some k → B ≤ k ∧ k < w.heap.size ∧ v.ownBlock = some k) → K (a.put o.dst (.slice A' (n + m) c')) w') : o.wp P a w K Q := by
  obtain ⟨v', w', row, hrun, h2, h3, h4⟩ := run_append_fr (P := P) w B t o.type e i z size bytes ht hi hz hsize hby hzs hsz v n xs hF A m c news hr h1 h63 hbytes hB
  obtain ⟨A', c', rfl, _⟩ := h2.rd
  unfold Oper.wp execOp
  simp only [ho, resolve, invoke, builtin, Sem.run_bind, Sem.run_pure, Result.andThen_ok, List.map_toArray, List.map_cons, List.map_nil, hs, hx, hrun]
  exact h A' c' w' row h2 h3 h4

theorem wpList_append_fr {ops : Array Oper} {rest : List Oper} {o : Oper} {a : Act} {Q : Exit → Act → World → Prop} (hgd : o.guard = none) (s x : Operand) (t : TypeId)
    (ho : o.op = .call { callee := .builtin .append, args := #[s, x], argTypes := #[t, t] })
    (B : Nat) (e : TypeId) (i : TypeInfo) (z : Value) (size bytes : Nat) (ht : P.underlying t = some (.slice e)) (hi : P.info? e = some i) (hz : i.zero = some z)
    (hsize : i.size = size) (hby : i.bytes = bytes) (hzs : z.cells.size = size) (hsz : 0 < size)
    (v : Value) (n : Nat) (xs : List Value) (hs : a.eval s = v) (hF : Fr w B e size v n xs) (A : Option Addr) (m c : Nat) (news : List Value) (hx : a.eval x = .slice A m c) (hr : Rd w size A m c news) (h1 : ∀ u ∈ news, u.oneCell' = true)
    (h63 : n + m ≤ maxLen) (hbytes : (n + m) * bytes ≤ 140737488355328) (hB : B ≤ w.heap.size)
    (h : ∀ A' c' w' row, Fr w' B e size (.slice A' (n + m) c') (n + m) (xs ++ news) → w.grownBy w' row → (∀ k, row = some k → B ≤ k ∧ k < w.heap.size ∧ v.ownBlock = some k) → wpList P ops Q rest (a.put o.dst (.slice A' (n + m) c')) w') : wpList P ops Q (o :: rest) a w :=
  wpList_plain hgd fun _ hK => wp_append_fr w s x t ho B e i z size bytes ht hi hz hsize hby hzs hsz v n xs hs hF A m c news hx hr h1 h63 hbytes hB fun A' c' w' row h2 h3 h4 => hK _ _ (h A' c' w' row h2 h3 h4)

theorem step_append_fr {ops : Array Oper} {o : Oper} {a : Act} {K : Act → World → Prop} {Q : Exit → Act → World → Prop} {E : Prop} (hgd : o.guard = none) (s x : Operand) (t : TypeId)
    (ho : o.op = .call { callee := .builtin .append, args := #[s, x], argTypes := #[t, t] })
    (B : Nat) (e : TypeId) (i : TypeInfo) (z : Value) (size bytes : Nat) (ht : P.underlying t = some (.slice e)) (hi : P.info? e = some i) (hz : i.zero = some z)
    (hsize : i.size = size) (hby : i.bytes = bytes) (hzs : z.cells.size = size) (hsz : 0 < size)
    (v : Value) (n : Nat) (xs : List Value) (hs : a.eval s = v) (hF : Fr w B e size v n xs) (A : Option Addr) (m c : Nat) (news : List Value) (hx : a.eval x = .slice A m c) (hr : Rd w size A m c news) (h1 : ∀ u ∈ news, u.oneCell' = true)
    (h63 : n + m ≤ maxLen) (hbytes : (n + m) * bytes ≤ 140737488355328) (hB : B ≤ w.heap.size)
    (h : ∀ A' c' w' row, Fr w' B e size (.slice A' (n + m) c') (n + m) (xs ++ news) → w.grownBy w' row → (∀ k, row = some k → B ≤ k ∧ k < w.heap.size ∧ v.ownBlock = some k) → K (a.put o.dst (.slice A' (n + m) c')) w') :
    if Region.wanted o (yielded ops a.tmps) = true then Oper.wp P o a w K Q else E := by
  have hw : Region.wanted o (yielded ops a.tmps) = true := by simp [Region.wanted, hgd]
  rw [if_pos hw]
  exact wp_append_fr w s x t ho B e i z size bytes ht hi hz hsize hby hzs hsz v n xs hs hF A m c news hx hr h1 h63 hbytes hB h
end

/-- A literal slice in a new block. -/
theorem Rd.lit {w : World} {e sz n : Nat} (cs : Array Value) (hs : cs.size = n * sz) (hn : n ≤ 9223372036854775807) : Rd (w.alloc (.cells cs e)) sz (some ⟨w.heap.size, 0, none⟩) n n cs.toList :=
  ⟨by simpa using hs, Nat.le_refl _, hn, fun _ => ⟨w.heap.size, 0, rfl, fun j u hu => by rw [Nat.zero_add, World.cell?_alloc_new]; simpa using hu⟩⟩
theorem Row.lit {w : World} {B e sz n : Nat} (cs : Array Value) (hs : cs.size = n * sz) (hn : n ≤ maxLen) (hB : B ≤ w.heap.size) : Row (w.alloc (.cells cs e)) B e sz (.slice (some ⟨w.heap.size, 0, none⟩) n n) n cs.toList :=
  Row.mk_ (by simpa using hs) hB (heap_alloc_new w _) (Nat.le_refl _) hn (by omega) (by rw [List.take_of_length_le]; simp; omega)
/-- The beginning, a part and the end of a slice that reads. -/
theorem Rd.init {w : World} {sz n c : Nat} {A : Option Addr} {xs : List Value} (h : Rd w sz A n c xs) {m : Nat} (hm : m ≤ n) : Rd w sz A m c (xs.take (m * sz)) := by
  have h1 : m * sz ≤ n * sz := Nat.mul_le_mul_right _ hm
  refine ⟨by rw [List.length_take, h.len]; omega, Nat.le_trans hm h.le, h.top, fun hp => ?_⟩
  obtain ⟨b, off, e, hc⟩ := h.cells (by omega)
  refine ⟨b, off, e, fun j u hu => hc j u ?_⟩
  rw [List.getElem?_take] at hu
  split at hu
  · exact hu
  · cases hu
theorem one_cI (zs : List Int) : ∀ u ∈ cI zs, u.oneCell' = true := by
  intro u hu; unfold cI at hu; obtain ⟨z, _, rfl⟩ := List.mem_map.1 hu; rfl
theorem one_c3 (ms : List (Int × Int × Int)) : ∀ u ∈ c3 ms, u.oneCell' = true := by
  intro u hu; unfold c3 e3 at hu; obtain ⟨m, _, h⟩ := List.mem_flatMap.1 hu; simp only [List.mem_cons, List.not_mem_nil, or_false] at h; rcases h with rfl | rfl | rfl <;> rfl
end Go.Proofs.Yteahiiflgiimnaa
