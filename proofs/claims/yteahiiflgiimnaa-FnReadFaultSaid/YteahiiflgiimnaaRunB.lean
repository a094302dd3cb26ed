/-
  copy and clear of elements of several cells; how a builtin whose run is known goes on, in a walk and in a region that draws its order.
-/
import Derived.Test.YteahiiflgiimnaaRun
import Derived.Lib.AppendZerosOnto
import Derived.Lib.Overlaps
namespace Go.Proofs.Yteahiiflgiimnaa
open Go.RowKit

section
variable {P : Program} (w : World)
theorem run_copyN (dT sT ty elem : TypeId) (i : TypeInfo) (size : Nat) (b o dLen dCap : Nat) (a : Addr) (sLen sCap : Nat) (cs : List Value)
    (hu : P.underlying dT = some (.slice elem)) (hi : P.info? elem = some i) (hs : i.size = size) (hn : cs.length = Nat.min sLen dLen * size)
    (hsrc : ∀ j v, cs[j]? = some v → w.cell? (a.add j) = some v) (hc : ∀ j, j < cs.length → (w.cell? ⟨b, o + j, none⟩).isSome = true) (hf : ∀ j, j < cs.length → w.frozen? ⟨b, o + j, none⟩ = false) (h1 : ∀ v ∈ cs, v.oneCell' = true) :
    (Builtin.copy_ #[dT, sT] ty #[.slice (some ⟨b, o, none⟩) dLen dCap, .slice (some a) sLen sCap]).run P w = .ok (goInt (Nat.min sLen dLen)) (w.setCells b o cs) := by
  have hl := run_loadCells_list (P := P) w a cs hsrc
  have hst := run_storeCells_cells (P := P) b o cs 0 w (by simpa using hc) (by simpa using hf) h1
  simp [Builtin.copy_, run_underlying hu, Builtin.lenOf, Builtin.firstCells, sizeOf, typeInfo, hi, hs, ← hn, hl, hst]

theorem zeroCells_len (z : Array Value) (n : Nat) : (Builtin.zeroCells z n).toList.length = n * z.size := by simp [Builtin.zeroCells]
theorem zeroCells_one (z : Array Value) (n : Nat) (h : ∀ v ∈ z.toList, v.oneCell' = true) : ∀ v ∈ (Builtin.zeroCells z n).toList, v.oneCell' = true := by
  intro v hv
  simp only [Builtin.zeroCells, Array.toList_map, List.mem_map] at hv
  obtain ⟨i, hi, rfl⟩ := hv
  have hi' : i < n * z.size := by simpa using hi
  have hz : 0 < z.size := by
    rcases Nat.eq_zero_or_pos z.size with h0 | h0
    · rw [h0] at hi'; omega
    · exact h0
  have hm : i % z.size < z.size := Nat.mod_lt _ hz
  rw [getElem!_pos z _ hm]
  exact h _ (by simp)

theorem run_clearN (t e ty : TypeId) (z : Value) (ht : P.underlying t = some (.slice e)) (hv : ∀ w, (zeroValue e).run P w = .ok z w) (h1 : ∀ v ∈ z.cells.toList, v.oneCell' = true) (b o n c : Nat) (hn : 0 < n)
    (hc : ∀ j, j < n * z.cells.size → (w.cell? ⟨b, o + j, none⟩).isSome = true) (hf : ∀ j, j < n * z.cells.size → w.frozen? ⟨b, o + j, none⟩ = false) :
    (Builtin.clear_ #[t] ty #[.slice (some ⟨b, o, none⟩) n c]).run P w = .ok (.tuple #[]) (w.setCells b o (Builtin.zeroCells z.cells n).toList) := by
  have hl := zeroCells_len z.cells n
  have hst := run_storeCells_cells (P := P) b o (Builtin.zeroCells z.cells n).toList 0 w (by intro j hj; simpa using hc j (by omega)) (by intro j hj; simpa using hf j (by omega)) (zeroCells_one _ _ h1)
  simp only [Nat.add_zero] at hst
  obtain ⟨m, rfl⟩ : ∃ m, n = m + 1 := ⟨n - 1, by omega⟩
  simp [Builtin.clear_, run_underlying ht, hv, hst]
theorem run_clear0 (t e ty : TypeId) (ht : P.underlying t = some (.slice e)) (A : Option Addr) (c : Nat) :
    (Builtin.clear_ #[t] ty #[.slice A 0 c]).run P w = .ok (.tuple #[]) w := by
  cases A <;> simp [Builtin.clear_, run_underlying ht]

theorem wp_app_run {o : Oper} {a : Act} {K : Act → World → Prop} {Q : Exit → Act → World → Prop} (x y : Operand) (t t2 : TypeId)
    (ho : o.op = .call { callee := .builtin .append, args := #[x, y], argTypes := #[t, t2] }) (u v : Value) (hx : a.eval x = u) (hy : a.eval y = v) {v' : Value} {w' : World}
    (hr : (Builtin.append_ #[t, t2] o.type #[u, v]).run P w = .ok v' w') (h : K (a.put o.dst v') w') : o.wp P a w K Q := by
  unfold Oper.wp execOp
  simp only [ho, resolve, invoke, builtin, Sem.run_bind, Sem.run_pure, Result.andThen_ok, List.map_toArray, List.map_cons, List.map_nil, hx, hy, hr]
  exact h
theorem wpList_app_run {ops : Array Oper} {rest : List Oper} {o : Oper} {a : Act} {Q : Exit → Act → World → Prop} (hgd : o.guard = none) (x y : Operand) (t t2 : TypeId)
    (ho : o.op = .call { callee := .builtin .append, args := #[x, y], argTypes := #[t, t2] }) (u v : Value) (hx : a.eval x = u) (hy : a.eval y = v) {v' : Value} {w' : World}
    (hr : (Builtin.append_ #[t, t2] o.type #[u, v]).run P w = .ok v' w') (h : wpList P ops Q rest (a.put o.dst v') w') : wpList P ops Q (o :: rest) a w :=
  wpList_plain hgd fun _ hK => wp_app_run w x y t t2 ho u v hx hy hr (hK _ _ h)
theorem step_app_run {ops : Array Oper} {o : Oper} {a : Act} {K : Act → World → Prop} {Q : Exit → Act → World → Prop} {E : Prop} (hgd : o.guard = none) (x y : Operand) (t t2 : TypeId)
    (ho : o.op = .call { callee := .builtin .append, args := #[x, y], argTypes := #[t, t2] }) (u v : Value) (hx : a.eval x = u) (hy : a.eval y = v) {v' : Value} {w' : World}
    (hr : (Builtin.append_ #[t, t2] o.type #[u, v]).run P w = .ok v' w') (h : K (a.put o.dst v') w') : if Region.wanted o (yielded ops a.tmps) = true then Oper.wp P o a w K Q else E := by
  have hw : Region.wanted o (yielded ops a.tmps) = true := by simp [Region.wanted, hgd]
  rw [if_pos hw]
  exact wp_app_run w x y t t2 ho u v hx hy hr h
theorem wp_cpy_run {o : Oper} {a : Act} {K : Act → World → Prop} {Q : Exit → Act → World → Prop} (x y : Operand) (t t2 : TypeId)
    (ho : o.op = .call { callee := .builtin .copy, args := #[x, y], argTypes := #[t, t2] }) (u v : Value) (hx : a.eval x = u) (hy : a.eval y = v) {v' : Value} {w' : World}
    (hr : (Builtin.copy_ #[t, t2] o.type #[u, v]).run P w = .ok v' w') (h : K (a.put o.dst v') w') : o.wp P a w K Q := by
  unfold Oper.wp execOp
  simp only [ho, resolve, invoke, builtin, Sem.run_bind, Sem.run_pure, Result.andThen_ok, List.map_toArray, List.map_cons, List.map_nil, hx, hy, hr]
  exact h
theorem wpList_cpy_run {ops : Array Oper} {rest : List Oper} {o : Oper} {a : Act} {Q : Exit → Act → World → Prop} (hgd : o.guard = none) (x y : Operand) (t t2 : TypeId)
    (ho : o.op = .call { callee := .builtin .copy, args := #[x, y], argTypes := #[t, t2] }) (u v : Value) (hx : a.eval x = u) (hy : a.eval y = v) {v' : Value} {w' : World}
    (hr : (Builtin.copy_ #[t, t2] o.type #[u, v]).run P w = .ok v' w') (h : wpList P ops Q rest (a.put o.dst v') w') : wpList P ops Q (o :: rest) a w :=
  wpList_plain hgd fun _ hK => wp_cpy_run w x y t t2 ho u v hx hy hr (hK _ _ h)
theorem step_cpy_run {ops : Array Oper} {o : Oper} {a : Act} {K : Act → World → Prop} {Q : Exit → Act → World → Prop} {E : Prop} (hgd : o.guard = none) (x y : Operand) (t t2 : TypeId)
    (ho : o.op = .call { callee := .builtin .copy, args := #[x, y], argTypes := #[t, t2] }) (u v : Value) (hx : a.eval x = u) (hy : a.eval y = v) {v' : Value} {w' : World}
    (hr : (Builtin.copy_ #[t, t2] o.type #[u, v]).run P w = .ok v' w') (h : K (a.put o.dst v') w') : if Region.wanted o (yielded ops a.tmps) = true then Oper.wp P o a w K Q else E := by
  have hw : Region.wanted o (yielded ops a.tmps) = true := by simp [Region.wanted, hgd]
  rw [if_pos hw]
  exact wp_cpy_run w x y t t2 ho u v hx hy hr h
theorem wp_clr_run {o : Oper} {a : Act} {K : Act → World → Prop} {Q : Exit → Act → World → Prop} (x : Operand) (t : TypeId)
    (ho : o.op = .call { callee := .builtin .clear, args := #[x], argTypes := #[t] }) (u : Value) (hx : a.eval x = u) {v' : Value} {w' : World}
    (hr : (Builtin.clear_ #[t] o.type #[u]).run P w = .ok v' w') (h : K (a.put o.dst v') w') : o.wp P a w K Q := by
  unfold Oper.wp execOp
  simp only [ho, resolve, invoke, builtin, Sem.run_bind, Sem.run_pure, Result.andThen_ok, List.map_toArray, List.map_cons, List.map_nil, hx, hr]
  exact h
theorem wpList_clr_run {ops : Array Oper} {rest : List Oper} {o : Oper} {a : Act} {Q : Exit → Act → World → Prop} (hgd : o.guard = none) (x : Operand) (t : TypeId)
    (ho : o.op = .call { callee := .builtin .clear, args := #[x], argTypes := #[t] }) (u : Value) (hx : a.eval x = u) {v' : Value} {w' : World}
    (hr : (Builtin.clear_ #[t] o.type #[u]).run P w = .ok v' w') (h : wpList P ops Q rest (a.put o.dst v') w') : wpList P ops Q (o :: rest) a w :=
  wpList_plain hgd fun _ hK => wp_clr_run w x t ho u hx hr (hK _ _ h)
theorem step_clr_run {ops : Array Oper} {o : Oper} {a : Act} {K : Act → World → Prop} {Q : Exit → Act → World → Prop} {E : Prop} (hgd : o.guard = none) (x : Operand) (t : TypeId)
    (ho : o.op = .call { callee := .builtin .clear, args := #[x], argTypes := #[t] }) (u : Value) (hx : a.eval x = u) {v' : Value} {w' : World}
    (hr : (Builtin.clear_ #[t] o.type #[u]).run P w = .ok v' w') (h : K (a.put o.dst v') w') : if Region.wanted o (yielded ops a.tmps) = true then Oper.wp P o a w K Q else E := by
  have hw : Region.wanted o (yielded ops a.tmps) = true := by simp [Region.wanted, hgd]
  rw [if_pos hw]
  exact wp_clr_run w x t ho u hx hr h
end

/-- An append of elements that lie in the row itself, within its capacity. -/
theorem run_append_row {P : Program} (w : World) (t ty e : TypeId) (i : TypeInfo) (ht : P.underlying t = some (.slice e)) (hi : P.info? e = some i) {B g n c : Nat} {xs : List Value}
    (h : Row w B e i.size (.slice (some ⟨g, 0, none⟩) n c) n xs) (a : Addr) (m c' : Nat) (news : List Value) (hl : news.length = m * i.size) (hnews : ∀ j u, news[j]? = some u → w.cell? (a.add j) = some u) (h1 : ∀ u ∈ news, u.oneCell' = true) (hroom : n + m ≤ c) :
    (Builtin.append_ #[t, t] ty #[.slice (some ⟨g, 0, none⟩) n c, .slice (some a) m c']).run P w = .ok (.slice (some ⟨g, 0, none⟩) (n + m) c) (w.setCells g (n * i.size) news) := by
  obtain ⟨_, hn, hcm, cur, hh, hs, _⟩ := h.inv
  have hfit : n * i.size + m * i.size ≤ cur.size := by have := Nat.mul_le_mul_right i.size hroom; rw [Nat.add_mul] at this; omega
  have hrun := run_append_room_cells (P := P) w t ty e i ht hi g 0 n c a m c' news hl hnews h1 hroom
    (fun j hj => by rw [Nat.zero_add, cell_of_row w g _ cur e (0, 0) hh, Array.getElem?_eq_getElem (by omega)]; rfl) (fun j _ => h.frozenAt _)
  rw [Nat.zero_add] at hrun
  exact hrun
end Go.Proofs.Yteahiiflgiimnaa
