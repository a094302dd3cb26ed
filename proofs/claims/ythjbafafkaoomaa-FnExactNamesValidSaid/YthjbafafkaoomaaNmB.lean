/-
  Names: the laws' helpers; whether names are valid, as the program and as the reference ask it.
-/
import Derived.Test.YthjbafafkaoomaaNmA
import Derived.Test.YthjbafafkaoomaaSmall
namespace Go.Proofs.Ythjbafafkaoomaa
open Go.RowKit

theorem Try.infoNm : (Try.prog.info? 67).map (fun i => (i.zero, i.size, i.bytes)) = some (some (.agg #[.string ⟨#[]⟩, .int .i64 0, .int .i64 0]), 3, 32) := by kernel_rfl

set_option maxHeartbeats 400000 in
theorem szName_any (s : ByteArray) (p q left : Int) (w : World) (hs : s.size ≤ 9223372036854775807) (h0 : 0 ≤ left) (h1 : left ≤ 1048576) :
    Calls Try.prog 48 #[.agg #[.string s, .int .i64 p, .int .i64 q], .int .i64 left] w fun e w' => e = .returned (.int .i64 (szB left s.size)) ∧ Ext w w' := by
  go_enter Try.func48, Try.ntmps48
  go_wp2
  · go_ret
    exact ⟨ret_int (by unfold szB; rw [if_pos (by assumption)]), (Below.refl _ _).alloc (Nat.le_refl _) _⟩
  · go_ret
    exact ⟨ret_int (by unfold szB; rw [if_neg (by omega)]), (Below.refl _ _).alloc (Nat.le_refl _) _⟩

set_option maxHeartbeats 1000000 in
theorem szNameS_any (A : Option Addr) (n c : Nat) (ms : List Nm) (left : Int) (w : World) (h : Rd w 3 A n c (cN ms)) (hf : ∀ m ∈ ms, FitsN m) (h0 : 0 ≤ left) (h1 : left ≤ 1048576) :
    Calls Try.prog 19 #[.slice A n c, .int .i64 left] w fun e w' => ∃ r : Int, e = .returned (.int .i64 r) ∧ -1 ≤ r ∧ (0 ≤ r → (n : Int) ≤ left) ∧ Ext w w' := by
  have hle := h.le
  have htop := h.top
  by_cases hn : left - (n : Int) < 0
  · go_enter Try.func19, Try.ntmps19
    go_wp2
    go_ret
    exact ⟨-1, rfl, by omega, by omega, Below.refl _ _⟩
  · have HF := Lib.hid hf
    go_enter Try.func19, Try.ntmps19
    go_wp2
    go_loopw [1, 5] (fun l i wr => ∃ (k : Nat) (z : Int), k ≤ n ∧ i = .int .i64 k ∧ l = .int .i64 z ∧ 0 ≤ z ∧ z ≤ left ∧ Ext w wr) (fun _ i _ => n - (intOf i).toNat)
    case atStart => exact ⟨0, left - n, Nat.zero_le _, rfl, rfl, by omega, by omega, Below.refl _ _⟩
    case round =>
      obtain ⟨k, z, hk, rfl, rfl, hz0, hz1, hb⟩ := hrel
      by_cases hlt : k < n
      · obtain ⟨b, off, s, p, q, rfl, X, g0, g1, g2⟩ := (h.below hb).atN hlt
        have hs : s.size ≤ 9223372036854775807 := HF.out _ (List.mem_of_getElem? X.out)
        obtain ⟨r, hr⟩ : ∃ r, szB z s.size = r := ⟨_, rfl⟩
        have HR := Lib.hid hr
        have hr1 : r = -1 ∨ (0 ≤ r ∧ r ≤ z) := by
          unfold szB at hr
          split at hr <;> omega
        clear h X hr
        go_wp2_with fail
        refine (szName_any _ _ _ _ _ hs hz0 (by omega)).mono ?_; rintro e w2 ⟨rfl, hb2⟩; rw [HR.out]
        rcases hr1 with rfl | ⟨hr0, hr1⟩
        · go_wp2
          go_ret
          exact ⟨-1, rfl, by omega, by omega, hb.trans hb2⟩
        · go_wp2
          go_roundw
          case rel => exact ⟨k + 1, r, by omega, by go_num, rfl, hr0, by omega, hb.trans hb2⟩
          case measure => simp [intOf]; omega
      · clear h
        go_wp2
        go_ret
        exact ⟨z, rfl, by omega, by omega, hb⟩

set_option maxHeartbeats 400000 in
theorem toName_any (s : ByteArray) (p q : Int) (w : World) :
    Calls Try.prog 50 #[.agg #[.string s, .int .i64 p, .int .i64 q]] w fun e w' => e = .returned (.agg #[.string s, .int .i64 p, .int .i64 q]) ∧ Ext w w' := by
  go_enter Try.func50, Try.ntmps50
  go_wp2
  refine bodyPost_ret (v := .agg #[.string s, .int .i64 p, .int .i64 q]) (by simp [results, Try.results50, go_sem]) rfl ⟨rfl, ?_⟩
  exact (((Below.refl _ _).alloc (Nat.le_refl _) _).alloc (by simp) _).alloc (by simp; omega) _

set_option maxHeartbeats 400000 in
theorem eqName_any (s t : ByteArray) (b c y z : Int) (w : World) :
    Calls Try.prog 52 #[.agg #[.string s, .int .i64 b, .int .i64 c], .agg #[.string t, .int .i64 y, .int .i64 z]] w fun e w' => e = .returned (.bool (eqN (s, b, c) (t, y, z))) ∧ Ext w w' := by
  go_enter Try.func52, Try.ntmps52
  go_wp2
  all_goals go_ret
  all_goals refine ⟨ret_bool (by simp_all [eqN]), ?_⟩
  all_goals exact ((Below.refl _ _).alloc (Nat.le_refl _) _).alloc (by simp) _

set_option maxHeartbeats 400000 in
theorem eqNameS_self (A A' : Option Addr) (n c c' : Nat) (ms : List Nm) (w : World) (h : Rd w 3 A n c (cN ms)) (h' : Rd w 3 A' n c' (cN ms)) :
    Calls Try.prog 23 #[.slice A n c, .slice A' n c'] w fun e w' => e = .returned (.bool true) ∧ Ext w w' := by
  have hle := h.le
  have htop := h.top
  go_enter Try.func23, Try.ntmps23
  go_wp2
  go_loopw [5] (fun i wr => ∃ k : Nat, k ≤ n ∧ i = .int .i64 k ∧ Ext w wr) (fun i _ => n - (intOf i).toNat)
  case atStart => exact ⟨0, Nat.zero_le _, rfl, Below.refl _ _⟩
  case round =>
    obtain ⟨k, hk, rfl, hb⟩ := hrel
    by_cases hlt : k < n
    · obtain ⟨b, off, s, p, q, rfl, X, g0, g1, g2⟩ := (h.below hb).atN hlt
      obtain ⟨b', off', s', p', q', rfl, X', g0', g1', g2'⟩ := (h'.below hb).atN hlt
      have hx := X.out.symm.trans X'.out
      simp only [Option.some.injEq, Prod.mk.injEq] at hx
      obtain ⟨rfl, rfl, rfl⟩ := hx
      clear h h' X X'
      have G0 := later_cell g0
      have G1 := later_cell g1
      have G2 := later_cell g2
      have G0' := later_cell g0'
      have G1' := later_cell g1'
      have G2' := later_cell g2'
      have hcall : ∀ nw : Later wr, Calls Try.prog 52 #[.agg #[.string s, .int .i64 p, .int .i64 q], .agg #[.string s, .int .i64 p, .int .i64 q]] nw.out fun e w' => e = .returned (.bool true) ∧ Ext nw.out w' := fun nw => by
        have := eqName_any s s p q p q nw.out
        rw [eqN_self] at this
        exact this
      go_wp2
      (refine wp_region_later (by kernel_rfl) (by kernel_rfl) ?_; repeat (any_goals (first | (with_reducible refine wpQuiet_nil ?_; intro wq hq) | go_big_quiet_step (((go_at_call 52; exact later_of _ (hcall _)))))))
      go_wp2
      go_roundw
      case rel => exact ⟨k + 1, by omega, by go_num, hb.trans hq⟩
      case measure => simp [intOf]; omega
    · clear h h'
      go_wp2
      go_ret
      exact ⟨rfl, hb⟩

set_option maxHeartbeats 400000 in
theorem toNameS_any (A : Option Addr) (n c : Nat) (ms : List Nm) (w : World) (h : Rd w 3 A n c (cN ms)) (hn : n ≤ 1048576) :
    Calls Try.prog 21 #[.slice A n c] w fun e w' => ∃ A' c', e = .returned (.slice A' n c') ∧ Row w' w.heap.size 67 3 (.slice A' n c') n (cN ms) ∧ Ext w w' := by
  obtain ⟨i0, hi, hz0, hz1, hz2⟩ := info_parts Try.infoNm
  have HL := Lib.hid h.lenN
  go_enter Try.func21, Try.ntmps21
  go_wp2_with (at_make; refine wpList_make_full _ rfl _ _ 32 rfl w.heap.size 67 i0 _ 3 Try.underlying32 hi hz0 hz1 .i64 .i64 _ _ n rfl rfl rfl rfl (by rw [hz2]; omega) (by unfold maxLen; omega) (Nat.le_refl _) ?_; intro w1 hown hg)
  have hb1 : Ext w w1 := (Below.refl _ _).grown hg (Nat.le_refl _) (by simp)
  rw [show (Value.agg #[.string ⟨#[]⟩, .int .i64 0, .int .i64 0]).cells = #[.string ⟨#[]⟩, .int .i64 0, .int .i64 0] from rfl, cN_replicate] at hown
  replace hown := Row.of_own hown
  clear hg
  go_loopw [4] (fun i wr => ∃ k : Nat, k ≤ n ∧ i = .int .i64 k ∧ Row wr w.heap.size 67 3 (.slice (some ⟨w.heap.size, 0, none⟩) n n) n (cN (ms.take k ++ List.replicate (n - k) zN)) ∧ Ext w wr) (fun i _ => n - (intOf i).toNat)
  case atStart => exact ⟨0, Nat.zero_le _, rfl, by rw [fill_start]; exact hown, hb1⟩
  case round =>
    obtain ⟨k, hk, rfl, hown, hb⟩ := hrel
    by_cases hlt : k < n
    · obtain ⟨b, off, s, p, q, rfl, X, g0, g1, g2⟩ := (h.below hb).atN hlt
      clear h
      have e := fill_step (z := zN) HL.out hlt X.out
      have E := Lib.hid e
      clear e X HL
      go_wp2_with ((go_at_call 50; refine (toName_any _ _ _ _).mono ?_; rintro e w2 ⟨rfl, hb2⟩); have own2 := hown.below hb2; obtain ⟨_, _, _, q0, q1, q2⟩ := ownN_at own2 hlt; have f0 := own2.frozenAt (k * 3); have f1 := own2.frozenAt (k * 3 + 1); have f2 := own2.frozenAt (k * 3 + 2))
      go_roundw
      case rel => exact ⟨k + 1, by omega, by go_num, by rw [← E.out]; exact ownN_set own2 hlt s p q, (((hb.trans hb2).setCell (by exact Nat.le_refl _) _).setCell (by exact Nat.le_refl _) _).setCell (by exact Nat.le_refl _) _⟩
      case measure => simp [intOf]; omega
    · obtain rfl : k = n := by omega
      rw [fill_end HL.out] at hown
      clear h HL
      go_wp2
      go_ret
      exact ⟨_, _, rfl, hown, hb⟩

set_option maxHeartbeats 1000000 in
theorem may_any (s : ByteArray) (p q : Int) (w : World) (hs : s.size ≤ 9223372036854775807) :
    Calls Try.prog 51 #[.agg #[.string s, .int .i64 p, .int .i64 q]] w fun e w' => e = .returned (.bool (textB s && inB p 0 15)) ∧ Ext w w' := by
  have hb0 : Ext w (w.alloc (.cells #[.string s, .int .i64 p, .int .i64 q] 67)) := (Below.refl _ _).alloc (Nat.le_refl _) _
  have c0 : (w.alloc (.cells #[.string s, .int .i64 p, .int .i64 q] 67)).cell? ⟨w.heap.size, 0, none⟩ = some (.string s) := by rw [World.cell?_alloc_new]; rfl
  have c1 : (w.alloc (.cells #[.string s, .int .i64 p, .int .i64 q] 67)).cell? ⟨w.heap.size, 1, none⟩ = some (.int .i64 p) := by rw [World.cell?_alloc_new]; rfl
  go_enter Try.func51, Try.ntmps51
  go_wp2
  go_loopw [7] (fun i wr => ∃ k : Nat, k ≤ s.size ∧ i = .int .i64 k ∧ lets s k = true ∧ Ext (w.alloc (.cells #[.string s, .int .i64 p, .int .i64 q] 67)) wr) (fun i _ => s.size - (intOf i).toNat)
  case atStart => exact ⟨0, Nat.zero_le _, rfl, rfl, Below.refl _ _⟩
  case round =>
    obtain ⟨k, hk, rfl, hl, hb⟩ := hrel
    have d0 := kept_of_below hb _ _ c0
    have d1 := kept_of_below hb _ _ c1
    by_cases hlt : k < s.size
    · have hok := okAt_eq hlt
      obtain ⟨y, hy⟩ : ∃ y : Nat, (s[k]'hlt).toNat = y := ⟨_, rfl⟩
      rw [hy] at hok
      have HOK := Lib.hid hok
      have HL := Lib.hid hl
      clear hok hl
      by_cases hin : 97 ≤ y ∧ y ≤ 122
      · obtain ⟨hin1, hin2⟩ := hin
        go_wp2
        go_roundw
        case rel => exact ⟨k + 1, by omega, by go_num, by show (lets s k && okAt s k) = true; rw [HL.out, HOK.out]; simp [hin1, hin2], hb⟩
        case measure => simp [intOf]; omega
      · have hbad : textB s = false := by
          unfold textB
          rw [lets_bad (k := k) (by rw [HOK.out]; simp; omega) _ hlt]; rfl
        have HB := Lib.hid hbad
        clear hbad
        go_wp2
        all_goals first
          | (go_ret; exact ⟨ret_bool (by rw [HB.out]; rfl), hb0.trans hb⟩)
          | (exfalso; omega)
    · obtain rfl : k = s.size := by omega
      have ht : textB s = inB s.size 1 12 := by unfold textB; rw [hl, Bool.true_and]
      have HT := Lib.hid ht
      clear ht
      go_wp2_with (first | ((go_at_call 46; refine (in_any _ _ _ _).mono ?_; rintro e w' ⟨rfl, rfl⟩)) | ((go_at_call 44; refine (isThread_any _ _).mono ?_; rintro e w' ⟨rfl, rfl⟩)))
      all_goals go_ret
      all_goals exact ⟨ret_bool (by rw [HT.out]; simp_all), hb0.trans hb⟩

set_option maxHeartbeats 1000000 in
theorem l22Text_any (s : ByteArray) (w : World) (hs : s.size ≤ 9223372036854775807) :
    Calls Try.prog 49 #[.string s] w fun e w' => e = .returned (.bool (textB s)) ∧ Ext w w' := by
  go_enter Try.func49, Try.ntmps49
  go_wp2
  go_loopw [3] (fun i wr => ∃ k : Nat, k ≤ s.size ∧ i = .int .i64 k ∧ lets s k = true ∧ Ext w wr) (fun i _ => s.size - (intOf i).toNat)
  case atStart => exact ⟨0, Nat.zero_le _, rfl, rfl, Below.refl _ _⟩
  case round =>
    obtain ⟨k, hk, rfl, hl, hb⟩ := hrel
    by_cases hlt : k < s.size
    · have hok := okAt_eq hlt
      obtain ⟨y, hy⟩ : ∃ y : Nat, (s[k]'hlt).toNat = y := ⟨_, rfl⟩
      rw [hy] at hok
      have HOK := Lib.hid hok
      have HL := Lib.hid hl
      clear hok hl
      by_cases hin : 97 ≤ y ∧ y ≤ 122
      · obtain ⟨hin1, hin2⟩ := hin
        go_wp2
        go_roundw
        case rel => exact ⟨k + 1, by omega, by go_num, by show (lets s k && okAt s k) = true; rw [HL.out, HOK.out]; simp [hin1, hin2], hb⟩
        case measure => simp [intOf]; omega
      · have hbad : textB s = false := by
          unfold textB
          rw [lets_bad (k := k) (by rw [HOK.out]; simp; omega) _ hlt]; rfl
        have HB := Lib.hid hbad
        clear hbad
        go_wp2
        all_goals first
          | (go_ret; exact ⟨ret_bool HB.out.symm, hb⟩)
          | (exfalso; omega)
    · obtain rfl : k = s.size := by omega
      have ht : textB s = inB s.size 1 12 := by unfold textB; rw [hl, Bool.true_and]
      have HT := Lib.hid ht
      clear ht
      go_wp2_with ((go_at_call 42; refine (l1In_any _ _ _ _).mono ?_; rintro e w' ⟨rfl, rfl⟩))
      go_ret
      exact ⟨ret_bool HT.out.symm, hb⟩
end Go.Proofs.Ythjbafafkaoomaa
