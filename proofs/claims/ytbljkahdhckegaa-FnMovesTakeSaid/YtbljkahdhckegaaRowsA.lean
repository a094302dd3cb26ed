/-
  Slices of slices of numbers: the laws' helpers: counted, copied, compared, marked, still marked.
-/
import Derived.Test.YtbljkahdhckegaaRows2
import Derived.Test.YtbljkahdhckegaaInts
import Derived.Test.YtbljkahdhckegaaSmall
namespace Go.Proofs.Ytbljkahdhckegaa
open Go.RowKit

theorem Try.infoRow : (Try.prog.info? 40).map (fun i => (i.zero, i.size, i.bytes)) = some (some (.slice none 0 0), 1, 24) := by kernel_rfl

/-- How many numbers there are. -/
def tot : List (List Int) → Nat
  | [] => 0
  | x :: r => x.length + tot r
theorem tot_append : ∀ a b : List (List Int), tot (a ++ b) = tot a + tot b
  | [], b => by simp [tot]
  | x :: a, b => by rw [List.cons_append, tot, tot, tot_append a b]; omega
theorem tot_take {xss : List (List Int)} {k : Nat} {x : List Int} (h : xss[k]? = some x) : tot (xss.take (k + 1)) = tot (xss.take k) + x.length := by
  rw [take_of_get h, tot_append]; simp [tot]
theorem tot_take_le (xss : List (List Int)) (k : Nat) : tot (xss.take k) ≤ tot xss := by
  have h := tot_append (xss.take k) (xss.drop k)
  rw [List.take_append_drop] at h
  omega
theorem tot_mem {xss : List (List Int)} {x : List Int} (h : x ∈ xss) : x.length ≤ tot xss := by
  induction xss with
  | nil => cases h
  | cons y r ih => 
    rcases List.mem_cons.1 h with rfl | h
    · simp only [tot]; omega
    · have := ih h; simp only [tot]; omega
def szR (left : Int) (xss : List (List Int)) : Int := if left < xss.length + tot xss then -1 else left - xss.length - tot xss

set_option maxHeartbeats 400000 in
theorem szIntS_any (A : Option Addr) (n c : Nat) (left : Int) (w : World) (hn : n ≤ 9223372036854775807) (h0 : 0 ≤ left) (h1 : left ≤ 1048576) :
    Calls Try.prog 36 #[.slice A n c, .int .i64 left] w fun e w' => e = .returned (.int .i64 (szB left n)) ∧ w = w' := by
  go_enter Try.func36, Try.ntmps36
  go_wp2
  · go_ret
    exact ⟨ret_int (by unfold szB; rw [if_pos (by assumption)]), rfl⟩
  · go_ret
    exact ⟨ret_int (by unfold szB; rw [if_neg (by omega)]), rfl⟩

set_option maxHeartbeats 400000 in
theorem szIntSS_any (A : Option Addr) (n c : Nat) (xss : List (List Int)) (left : Int) (w : World) (h : RdR w A n c xss) (h0 : 0 ≤ left) (h1 : left ≤ 1048576) :
    Calls Try.prog 10 #[.slice A n c, .int .i64 left] w fun e w' => e = .returned (.int .i64 (szR left xss)) ∧ w = w' := by
  have hle := h.le
  have htop := h.top
  have HL := Lib.hid h.lenR
  by_cases hn : left - n < 0
  · have e : szR left xss = -1 := by unfold szR; rw [if_pos (by rw [HL.out]; omega)]
    have E := Lib.hid e
    clear e h
    go_enter Try.func10, Try.ntmps10
    go_wp2
    go_ret
    exact ⟨ret_int E.out.symm, rfl⟩
  · go_enter Try.func10, Try.ntmps10
    go_wp2
    go_loop [1, 5] (fun l i => ∃ (k t : Nat), k ≤ n ∧ i = .int .i64 k ∧ l = .int .i64 (left - n - t) ∧ 0 ≤ left - n - t ∧ Hid (tot (xss.take k) = t)) (fun _ i => n - (intOf i).toNat)
    case atStart => exact ⟨0, 0, Nat.zero_le _, rfl, by simp, by omega, rfl⟩
    case round =>
      obtain ⟨k, t, hk, rfl, rfl, ht, HT⟩ := hrel
      by_cases hlt : k < n
      · obtain ⟨b, off, A', m, c', xs, rfl, X, g0, R⟩ := h.atR hlt
        have hm := R.lenI
        have hml := R.le
        have hmt := R.top
        have e := tot_take X.out
        rw [HT.out, hm] at e
        have hle2 := tot_take_le xss (k + 1)
        rw [e] at hle2
        have E := Lib.hid e
        have HLE := Lib.hid hle2
        have HM := Lib.hid hm
        clear e hle2 hm X R h HT
        by_cases hs : left - n - t - m < 0
        · have e1 : szB (left - n - t) m = -1 := by unfold szB; rw [if_pos hs]
          have e2 : szR left xss = -1 := by unfold szR; rw [if_pos (by rw [HL.out]; have := HLE.out; omega)]
          have E2 := Lib.hid e2
          clear e2
          go_wp2_with ((go_at_call 36; refine (szIntS_any _ _ _ _ _ (by omega) (by omega) (by omega)).mono ?_; rintro e w' ⟨rfl, rfl⟩; rw [e1]))
          go_ret
          exact ⟨ret_int E2.out.symm, rfl⟩
        · have e1 : szB (left - n - t) m = left - n - t - m := by unfold szB; rw [if_neg (by omega)]
          go_wp2_with ((go_at_call 36; refine (szIntS_any _ _ _ _ _ (by omega) (by omega) (by omega)).mono ?_; rintro e w' ⟨rfl, rfl⟩; rw [e1]))
          go_round
          case rel => exact ⟨k + 1, t + m, by omega, by go_num, by go_num, by omega, E⟩
          case measure => simp [intOf]; omega
      · have e : szR left xss = left - n - t := by
          obtain rfl : k = n := by omega
          have h2 := HT.out
          rw [take_all HL.out (Nat.le_refl _)] at h2
          unfold szR; rw [HL.out, h2, if_neg (by omega)]
        have E := Lib.hid e
        clear e h
        go_wp2
        go_ret
        exact ⟨ret_int E.out.symm, rfl⟩

set_option maxHeartbeats 400000 in
theorem toIntSS_any (A : Option Addr) (n c : Nat) (xss : List (List Int)) (w : World) (h : RdR w A n c xss) (hn : n ≤ 1048576) (ht : ∀ xs ∈ xss, xs.length ≤ 1048576) :
    Calls Try.prog 12 #[.slice A n c] w fun e w' => ∃ A' c', e = .returned (.slice A' n c') ∧ FrR w' w.heap.size w'.heap.size A' n c' xss ∧ Ext w w' := by
  obtain ⟨i0, hi, hz0, hz1, hz2⟩ := info_parts Try.infoRow
  have HL := Lib.hid h.lenR
  have HT := Lib.hid ht
  clear ht
  go_enter Try.func12, Try.ntmps12
  go_wp2_with (at_make; refine wpList_make_full _ rfl _ _ 22 rfl w.heap.size 40 i0 _ 1 Try.underlying22 hi hz0 hz1 .i64 .i64 _ _ n rfl rfl rfl rfl (by rw [hz2]; omega) (by unfold maxLen; omega) (Nat.le_refl _) ?_; intro w1 hown hg)
  have hb1 : Ext w w1 := (Below.refl _ _).grown hg (Nat.le_refl _) (by simp)
  have hs1 : w.heap.size + 1 ≤ w1.heap.size := (Row.of_own hown).lt _ rfl |>.2
  have e0 : (madeCells (Value.slice none 0 0).cells (n * 1)).toList = List.replicate n (.slice none 0 0) := by
    rw [Nat.mul_one]
    unfold madeCells
    apply List.ext_getElem?
    intro j
    simp only [Array.toList_map, Array.toList_range, List.getElem?_map, List.getElem?_replicate]
    by_cases hj : j < n
    · rw [List.getElem?_range hj, if_pos hj]; simp [Value.cells, Nat.mod_one]
    · rw [List.getElem?_eq_none (by simpa using hj), if_neg hj]; rfl
  rw [e0] at hown
  replace hown := Row.of_own hown
  clear hg e0
  go_loopw [4] (fun i wr => ∃ (k : Nat) (hs : List Hd), k ≤ n ∧ i = .int .i64 k ∧ Hid (hs.length = k) ∧ Row wr w.heap.size 40 1 (.slice (some ⟨w.heap.size, 0, none⟩) n n) n (hs.map hv ++ List.replicate (n - k) (.slice none 0 0)) ∧ Rws wr (w.heap.size + 1) hs (xss.take k) ∧ Ext w wr ∧ w.heap.size + 1 ≤ wr.heap.size) (fun i _ => n - (intOf i).toNat)
  case atStart => exact ⟨0, [], Nat.zero_le _, rfl, rfl, hown, by rw [List.take_zero]; exact Rws.nil, hb1, hs1⟩
  case round =>
    obtain ⟨k, hs, hk, rfl, HK, hown, hrws, hb, hsz⟩ := hrel
    by_cases hlt : k < n
    · obtain ⟨b, off, A', m, c', xs, rfl, X, g0, R⟩ := (h.below hb).atR hlt
      have hm : m ≤ 1048576 := by rw [← R.lenI]; exact HT.out _ (List.mem_of_getElem? X.out)
      clear h
      go_wp2_with fail
      refine (toIntS_any _ _ _ _ _ R hm).mono ?_; rintro e w2 ⟨A2, c2, rfl, r2, hb2⟩
      have own2 := hown.below hb2
      have q0 := own2.cellAt k (by omega)
      rw [List.getElem?_append_right (by rw [List.length_map, HK.out]; exact Nat.le_refl _), List.length_map, HK.out, Nat.sub_self, List.getElem?_replicate, if_pos (by omega)] at q0
      have f0 := own2.frozenAt k
      have own3 := own2.stored k (hv (A2, m, c2))
      rw [hv_fill HK.out hlt] at own3
      have rws2 := hrws.snoc hb2 hsz (.inr r2)
      rw [← take_of_get X.out] at rws2
      have rws3 := rws2.keep (w' := w2.setCell ⟨w.heap.size, k, none⟩ (hv (A2, m, c2))) (fun i x g hi hg _ => Below.heap_setCell w2 ⟨w.heap.size, k, none⟩ _ g (by have := (rws2.blk hi hg).1; show g ≠ w.heap.size; omega))
      have hb3 := (hb.trans hb2).setCell (p := ⟨w.heap.size, k, none⟩) (by exact Nat.le_refl _) (hv (A2, m, c2))
      have hsz3 := Nat.le_trans hsz hb2.size
      clear hown own2 hrws rws2 hb hb2 r2 R X
      go_wp2
      go_roundw
      case rel => exact ⟨k + 1, _, by omega, by go_num, by show (hs ++ [(A2, m, c2)]).length = k + 1; rw [List.length_append, HK.out]; rfl, own3, rws3, hb3, by simpa using hsz3⟩
      case measure => simp [intOf]; omega
    · obtain rfl : k = n := by omega
      rw [Nat.sub_self, List.replicate_zero, List.append_nil] at hown
      rw [take_all HL.out (Nat.le_refl _)] at hrws
      clear h
      go_wp2
      go_ret
      exact ⟨_, _, rfl, ⟨hs, .inr hown, HK.out, hrws.mono (by omega), fun i x g hi hg => (hrws.blk hi hg).2⟩, hb⟩

def eqRs (a b : List (List Int)) : Bool := decide (a = b)
theorem eqRs_iff (a b : List (List Int)) : eqRs a b = true ↔ a = b := by unfold eqRs; simp
theorem eqRs_cons (x y : List Int) (a b : List (List Int)) : eqRs (x :: a) (y :: b) = (eqIs x y && eqRs a b) := by unfold eqRs eqIs; simp
set_option maxHeartbeats 400000 in
theorem eqIntSS_any (A A' : Option Addr) (n c n' c' : Nat) (ms ms' : List (List Int)) (w : World) (h : RdR w A n c ms) (h' : RdR w A' n' c' ms') :
    Calls Try.prog 15 #[.slice A n c, .slice A' n' c'] w fun e w' => e = .returned (.bool (eqRs ms ms')) ∧ Ext w w' := by
  have hl := h.lenR
  have hl' := h'.lenR
  have hle := h.le
  have htop := h.top
  by_cases hnn : n = n'
  · have HL := Lib.hid hl
    have HL' := Lib.hid hl'
    clear hl hl'
    subst hnn
    go_enter Try.func15, Try.ntmps15
    go_wp2
    go_loopw [5] (fun i wr => ∃ k : Nat, k ≤ n ∧ i = .int .i64 k ∧ Ext w wr ∧ Hid (eqRs ms ms' = eqRs (ms.drop k) (ms'.drop k))) (fun i _ => n - (intOf i).toNat)
    case atStart => exact ⟨0, Nat.zero_le _, rfl, Below.refl _ _, rfl⟩
    case round =>
      obtain ⟨k, hk, rfl, hb, H⟩ := hrel
      by_cases hlt : k < n
      · obtain ⟨b, off, A1, m1, c1, xs, rfl, X, g0, R⟩ := (h.below hb).atR hlt
        obtain ⟨b', off', A2, m2, c2, ys, rfl, X', g0', R'⟩ := (h'.below hb).atR hlt
        clear h h'
        have G0 := later_cell g0
        have G0' := later_cell g0'
        have hd : eqRs ms ms' = (eqIs xs ys && eqRs (ms.drop (k + 1)) (ms'.drop (k + 1))) := by rw [H.out, drop_of_get X.out, drop_of_get X'.out, eqRs_cons]
        have HD := Lib.hid hd
        clear hd H X X' HL HL'
        obtain ⟨t, ht⟩ : ∃ t, eqIs xs ys = t := ⟨_, rfl⟩
        go_wp2
        (refine wp_region_later (by kernel_rfl) (by kernel_rfl) ?_; repeat (any_goals (first | (with_reducible refine wpQuiet_nil ?_; intro wq hq) | go_big_quiet_step (((go_at_call 40; exact later_of _ (eqIntS_any _ _ _ _ _ _ _ _ _ (R.below (Later.ext _)) (R'.below (Later.ext _)))))))))
        cases t
        · go_wp2
          go_ret
          exact ⟨ret_bool (by rw [HD.out, ht]; rfl), hb.trans hq⟩
        · go_wp2
          go_roundw
          case rel => exact ⟨k + 1, by omega, by go_num, hb.trans hq, by rw [HD.out, ht]; exact Bool.true_and _⟩
          case measure => simp [intOf]; omega
      · have e : eqRs ms ms' = true := by rw [H.out, drop_all HL.out (by omega), drop_all HL'.out (by omega)]; rfl
        have E := Lib.hid e
        clear e h h'
        go_wp2
        go_ret
        exact ⟨ret_bool E.out.symm, hb⟩
  · have e : eqRs ms ms' = false := by unfold eqRs; rw [decide_eq_false_iff_not]; intro e; apply hnn; rw [← hl, ← hl', e]
    have E := Lib.hid e
    clear e hl hl' h h'
    go_enter Try.func15, Try.ntmps15
    go_wp2
    go_ret
    exact ⟨ret_bool E.out.symm, Below.refl _ _⟩
set_option maxHeartbeats 400000 in
theorem sameRows_any (A A' : Option Addr) (n c n' c' : Nat) (ms ms' : List (List Int)) (w : World) (h : RdR w A n c ms) (h' : RdR w A' n' c' ms') :
    Calls Try.prog 26 #[.slice A n c, .slice A' n' c'] w fun e w' => e = .returned (.bool (eqRs ms ms')) ∧ Ext w w' := by
  have hl := h.lenR
  have hl' := h'.lenR
  have hle := h.le
  have htop := h.top
  by_cases hnn : n = n'
  · have HL := Lib.hid hl
    have HL' := Lib.hid hl'
    clear hl hl'
    subst hnn
    go_enter Try.func26, Try.ntmps26
    go_wp2
    go_loopw [5] (fun i wr => ∃ k : Nat, k ≤ n ∧ i = .int .i64 k ∧ Ext w wr ∧ Hid (eqRs ms ms' = eqRs (ms.drop k) (ms'.drop k))) (fun i _ => n - (intOf i).toNat)
    case atStart => exact ⟨0, Nat.zero_le _, rfl, Below.refl _ _, rfl⟩
    case round =>
      obtain ⟨k, hk, rfl, hb, H⟩ := hrel
      by_cases hlt : k < n
      · obtain ⟨b, off, A1, m1, c1, xs, rfl, X, g0, R⟩ := (h.below hb).atR hlt
        obtain ⟨b', off', A2, m2, c2, ys, rfl, X', g0', R'⟩ := (h'.below hb).atR hlt
        clear h h'
        have G0 := later_cell g0
        have G0' := later_cell g0'
        have hd : eqRs ms ms' = (eqIs xs ys && eqRs (ms.drop (k + 1)) (ms'.drop (k + 1))) := by rw [H.out, drop_of_get X.out, drop_of_get X'.out, eqRs_cons]
        have HD := Lib.hid hd
        clear hd H X X' HL HL'
        obtain ⟨t, ht⟩ : ∃ t, eqIs xs ys = t := ⟨_, rfl⟩
        go_wp2
        (refine wp_region_later (by kernel_rfl) (by kernel_rfl) ?_; repeat (any_goals (first | (with_reducible refine wpQuiet_nil ?_; intro wq hq) | go_big_quiet_step (((go_at_call 51; exact later_of _ (sameInts_any _ _ _ _ _ _ _ _ _ (R.below (Later.ext _)) (R'.below (Later.ext _)))))))))
        cases t
        · go_wp2
          go_ret
          exact ⟨ret_bool (by rw [HD.out, ht]; rfl), hb.trans hq⟩
        · go_wp2
          go_roundw
          case rel => exact ⟨k + 1, by omega, by go_num, hb.trans hq, by rw [HD.out, ht]; exact Bool.true_and _⟩
          case measure => simp [intOf]; omega
      · have e : eqRs ms ms' = true := by rw [H.out, drop_all HL.out (by omega), drop_all HL'.out (by omega)]; rfl
        have E := Lib.hid e
        clear e h h'
        go_wp2
        go_ret
        exact ⟨ret_bool E.out.symm, hb⟩
  · have e : eqRs ms ms' = false := by unfold eqRs; rw [decide_eq_false_iff_not]; intro e; apply hnn; rw [← hl, ← hl', e]
    have E := Lib.hid e
    clear e hl hl' h h'
    go_enter Try.func26, Try.ntmps26
    go_wp2
    go_ret
    exact ⟨ret_bool E.out.symm, Below.refl _ _⟩

/-- Marked rows. -/
def marksR (k : Int) : List (List Int) → List (List Int)
  | [] => []
  | x :: r => marks1 k x.length :: marksR (k + x.length) r
theorem marksR_len (k : Int) : ∀ xss : List (List Int), (marksR k xss).length = xss.length
  | [] => rfl
  | x :: r => by rw [marksR, List.length_cons, List.length_cons, marksR_len]
theorem marksR_get : ∀ (xss : List (List Int)) (k : Int) (i : Nat) (x : List Int), xss[i]? = some x → (marksR k xss)[i]? = some (marks1 (k + tot (xss.take i)) x.length)
  | [], _, _, _, h => by simp at h
  | y :: r, k, 0, x, h => by
    simp only [List.getElem?_cons_zero, Option.some.injEq] at h
    subst h
    simp [marksR, tot]
  | y :: r, k, i + 1, x, h => by
    rw [List.getElem?_cons_succ] at h
    rw [marksR, List.getElem?_cons_succ, marksR_get r _ i x h, List.take_succ_cons, tot]
    congr 2
    omega
theorem marksR_take (k : Int) (xss : List (List Int)) (i : Nat) : (marksR k xss).take i ++ xss.drop i = (marksR k xss).take i ++ xss.drop i := rfl
theorem marksR_step {k : Int} {xss : List (List Int)} {i : Nat} {x y : List Int} (hx : xss[i]? = some x) (hy : (marksR k xss)[i]? = some y) : ((marksR k xss).take i ++ xss.drop i).set i y = (marksR k xss).take (i + 1) ++ xss.drop (i + 1) := by
  have hl := marksR_len k xss
  have hi := (List.getElem?_eq_some_iff.1 hx).1
  have hlen : ((marksR k xss).take i).length = i := by rw [List.length_take]; omega
  rw [drop_of_get hx, List.set_append_right _ _ (by omega), hlen, Nat.sub_self, List.set_cons_zero, take_of_get hy, List.append_assoc]
  rfl

set_option maxHeartbeats 400000 in
theorem markIntSS_any (A : Option Addr) (n c B E : Nat) (xss : List (List Int)) (k : Int) (w : World) (h : FrR w B E A n c xss) (ht : n + tot xss ≤ 8388608) (h0 : 0 ≤ k) (h1 : k ≤ 50000000) :
    Calls Try.prog 20 #[.slice A n c, .int .i64 k] w fun e w' => e = .returned (.int .i64 (k + tot xss)) ∧ FrR w' B E A n c (marksR k xss) ∧ Tch w w' (fun b => B ≤ b ∧ b < E) := by
  have HL := Lib.hid h.lenR
  have hle := h.rdR.le
  have htop := h.rdR.top
  obtain ⟨hs, hO, hHL, hR, hE⟩ := h.ex
  have HH := Lib.hid hHL
  have HE := Lib.hid hE
  clear hHL hE h
  go_enter Try.func20, Try.ntmps20
  go_wp2
  go_loopw [1, 5] (fun kk i wr => ∃ (j t : Nat), j ≤ n ∧ i = .int .i64 j ∧ kk = .int .i64 (k + t) ∧ Hid (tot (xss.take j) = t) ∧ Fr wr B 40 1 (.slice A n c) n (hs.map hv) ∧ Rws wr B hs ((marksR k xss).take j ++ xss.drop j) ∧ Tch w wr (fun b => B ≤ b ∧ b < E)) (fun _ i _ => n - (intOf i).toNat)
  case atStart => exact ⟨0, 0, Nat.zero_le _, rfl, by simp, rfl, hO, hR, Tch.refl _ _⟩
  case round =>
    obtain ⟨j, t, hj, rfl, rfl, HT, hO, hR, hT⟩ := hrel
    by_cases hlt : j < n
    · obtain ⟨hd, hhd⟩ := get_of_lt HH.out hlt
      obtain ⟨x, hx⟩ := get_of_lt HL.out hlt
      have hF := hR.fr j hd x hhd (by
        have hl := marksR_len k xss
        have hlen : ((marksR k xss).take j).length = j := by rw [List.length_take, hl, HL.out]; omega
        rw [List.getElem?_append_right (by omega), hlen, Nat.sub_self, List.getElem?_drop, Nat.add_zero]; exact hx)
      obtain ⟨⟨A', m, c'⟩, rfl⟩ : ∃ y : Hd, y = hd := ⟨_, rfl⟩
      have hF' : Fr wr B 3 1 (.slice A' m c') m (cI x) := hF
      have hm : x.length = m := hF'.rd'.2.lenI
      have hmc := hF'.rd'.2.le
      have hmt := hF'.rd'.2.top
      obtain ⟨b, off, rfl, hcell⟩ := hO.rd'.2.cells (by omega)
      have g0 := hcell j (hv (A', m, c')) (by rw [List.getElem?_map, hhd]; rfl)
      have hg0 : wr.cell? ⟨b, off + j, none⟩ = some (.slice A' m c') := g0
      have et := tot_take hx
      rw [HT.out, hm] at et
      have hle2 := tot_take_le xss (j + 1)
      have hle3 : t + m ≤ tot xss := by omega
      have hy := marksR_get xss k j x hx
      rw [HT.out] at hy
      have hst := marksR_step hx hy
      rw [hm] at hst
      have ET := Lib.hid et
      have HST := Lib.hid hst
      have HM := Lib.hid hm
      have HX := Lib.hid hhd
      clear hcell g0 et hle2 hy hst hm hhd hx hF HT
      go_wp2_with fail
      refine (markIntS_any _ _ _ _ _ _ _ hF' HM.out (by omega) (by omega) (by omega)).mono ?_; rintro e w2 ⟨rfl, m2, hg2⟩
      have hb2 : ∀ k, ownB (.slice A' m c') m = some k → blkC (A', m, c') = some k := fun k hk => blkC_of_ownB (h := (A', m, c')) hmc hk
      have hR2 := hR.write HX.out hg2 hb2 m2
      rw [HST.out] at hR2
      have hO2 := hO.aside hF' (by decide) hg2
      have hT2 := hT.trans (Tch.of_grown (S := fun b => B ≤ b ∧ b < E) hg2 (fun k hk => ⟨(hR.blk HX.out (hb2 k hk)).1, HE.out j _ k HX.out (hb2 k hk)⟩))
      clear hO hR hT hF' m2 hb2 hg0
      go_wp2
      go_roundw
      case rel => exact ⟨j + 1, t + m, by omega, by go_num, by go_num, ET, hO2, hR2, hT2⟩
      case measure => simp [intOf]; omega
    · obtain rfl : j = n := by omega
      have h2 := HT.out
      rw [take_all HL.out (Nat.le_refl _)] at h2
      rw [List.take_of_length_le (by rw [marksR_len, HL.out]; exact Nat.le_refl _), drop_all HL.out (Nat.le_refl _), List.append_nil] at hR
      have H2 := Lib.hid h2
      clear h2
      go_wp2
      go_ret
      exact ⟨ret_int (by rw [H2.out]), ⟨hs, hO, HH.out, hR, HE.out⟩, hT⟩

set_option maxHeartbeats 400000 in
theorem heldIntSS_any (A : Option Addr) (n c : Nat) (xss : List (List Int)) (k : Int) (w : World) (h : RdR w A n c (marksR k xss)) (ht : n + tot xss ≤ 8388608) (h0 : 0 ≤ k) (h1 : k ≤ 50000000) :
    Calls Try.prog 21 #[.slice A n c, .int .i64 k] w fun e w' => e = .returned (.int .i64 (k + tot xss)) ∧ w = w' := by
  have hl := h.lenR
  rw [marksR_len] at hl
  have HL := Lib.hid hl
  have hle := h.le
  have htop := h.top
  clear hl
  go_enter Try.func21, Try.ntmps21
  go_wp2
  go_loop [1, 5] (fun kk i => ∃ (j t : Nat), j ≤ n ∧ i = .int .i64 j ∧ kk = .int .i64 (k + t) ∧ Hid (tot (xss.take j) = t)) (fun _ i => n - (intOf i).toNat)
  case atStart => exact ⟨0, 0, Nat.zero_le _, rfl, by simp, rfl⟩
  case round =>
    obtain ⟨j, t, hj, rfl, rfl, HT⟩ := hrel
    by_cases hlt : j < n
    · obtain ⟨x, hx⟩ := get_of_lt HL.out hlt
      obtain ⟨b, off, A', m, c', xs, rfl, X, g0, R⟩ := h.atR hlt
      have hy := marksR_get xss k j x hx
      rw [HT.out] at hy
      have hxs : xs = marks1 (k + t) x.length := by have := X.out.symm.trans hy; simpa using this
      have hm : m = x.length := by rw [← R.lenI, hxs]; unfold marks1; rw [marks_len]
      rw [hxs, ← hm] at R
      have et := tot_take hx
      rw [HT.out, ← hm] at et
      have hle2 := tot_take_le xss (j + 1)
      have hle3 : t + m ≤ tot xss := by omega
      have ET := Lib.hid et
      clear h X hy hxs hm et hle2 hx HT HL
      go_wp2_with fail
      refine (heldIntS_any _ _ _ _ _ R (by omega) (by omega) (by omega)).mono ?_; rintro e w2 ⟨rfl, rfl⟩
      clear R
      go_wp2
      go_round
      case rel => exact ⟨j + 1, t + m, by omega, by go_num, by go_num, ET⟩
      case measure => simp [intOf]; omega
    · obtain rfl : j = n := by omega
      have h2 := HT.out
      rw [take_all HL.out (Nat.le_refl _)] at h2
      have H2 := Lib.hid h2
      clear h h2
      go_wp2
      go_ret
      exact ⟨ret_int (by rw [H2.out]), rfl⟩
end Go.Proofs.Ytbljkahdhckegaa
