/-
  RunMoves, the program's and the reference's.
-/
import Derived.Test.YtbljkahdhckegaaMvE
namespace Go.Proofs.Ytbljkahdhckegaa
open Go.RowKit

def runOk (g : List (List Int)) (l : List Mv) : Bool := gValid g && decide (l.length ≤ 40)
def runR (g : List (List Int)) (l : List Mv) : List (List Int) := if runOk g l then runG g l else []
def runC (g : List (List Int)) (l : List Mv) : Int := if runOk g l then (runN g l : Nat) else 0
theorem runR_size (g : List (List Int)) (l : List Mv) : (runR g l).length + tot (runR g l) ≤ 1048576 := by
  unfold runR runOk
  cases hv : gValid g with
  | false => simp [tot]
  | true =>
    obtain ⟨n, m, ht, _, h6, hm, _⟩ := tab_of_valid hv
    split
    · exact tab_size (runG_tab ht l) h6 hm
    · simp [tot]
theorem doR_tab {n m : Nat} {g : List (List Int)} (ht : Tab n m g) (hnm : n ≤ m) (h6 : n ≤ 6) (hm : m ≤ 10) (v : Mv) : doR g v = doMv g v := by
  unfold doR; rw [valid_of_tab ht hnm h6 hm]; rfl
theorem allow_tab {n m : Nat} {g : List (List Int)} (ht : Tab n m g) (hnm : n ≤ m) (h6 : n ≤ 6) (hm : m ≤ 10) (v : Mv) : allowR g v = okMv g v := by
  unfold allowR; rw [valid_of_tab ht hnm h6 hm]; rfl
theorem ok_zero (g : List (List Int)) : okMv g (0, 0, 0, 0, 0) = false := by
  unfold okMv kindOk; simp
theorem run_step {g : List (List Int)} {l : List Mv} {k : Nat} {v : Mv} (h : l[k]? = some v) : runG g (l.take (k + 1)) = doMv (runG g (l.take k)) v := by rw [take_of_get h, runG_snoc]
theorem run_count {g : List (List Int)} {l : List Mv} {k : Nat} {v : Mv} (h : l[k]? = some v) : runN g (l.take (k + 1)) = runN g (l.take k) + if okMv (runG g (l.take k)) v then 1 else 0 := by rw [take_of_get h, runN_snoc]

set_option maxHeartbeats 2000000 in
theorem RunMoves_any (A : Option Addr) (n c : Nat) (g : List (List Int)) (A2 : Option Addr) (n2 c2 : Nat) (l : List Mv) (w : World) (h : RdR w A n c g) (h2 : Rd w 5 A2 n2 c2 (c5 l)) :
    Calls Try.prog 24 #[.slice A n c, .slice A2 n2 c2] w fun e w' => ∃ A' c', e = .returned (.tuple #[.slice A' (runR g l).length c', .int .i64 (runC g l)]) ∧
      FrR w' w.heap.size w'.heap.size A' (runR g l).length c' (runR g l) ∧ Ext w w' := by
  have hl2 := h2.len5
  have hle2 := h2.le
  have htop2 := h2.top
  have htt2 := Nat.le_trans hle2 htop2
  unfold runR runC
  cases hok : runOk g l with
  | false =>
    unfold runOk at hok
    cases hv : gValid g with
    | false =>
      clear hok hl2
      go_enter Try.func24, Try.ntmps24
      go_wp2_with fail
      refine (GraphValid_any _ _ _ _ _ h).mono ?_; rintro e w1 ⟨rfl, hb1⟩; rw [hv]
      go_wp2
      go_ret2
      exact ⟨none, 0, rfl, ⟨[], .inl ⟨none, rfl, rfl, rfl⟩, rfl, Rws.nil, by simp⟩, hb1⟩
    | true =>
      rw [hv, Bool.true_and, decide_eq_false_iff_not, hl2] at hok
      have HV := Lib.hid hv
      have hgt : (40 : Int) < (n2 : Int) := by omega
      clear hok hl2 hv
      go_enter Try.func24, Try.ntmps24
      go_wp2_with fail
      refine (GraphValid_any _ _ _ _ _ h).mono ?_; rintro e w1 ⟨rfl, hb1⟩; rw [HV.out]
      go_wp2
      go_ret2
      exact ⟨none, 0, rfl, ⟨[], .inl ⟨none, rfl, rfl, rfl⟩, rfl, Rws.nil, by simp⟩, hb1⟩
  | true =>
    unfold runOk at hok
    rw [Bool.and_eq_true, decide_eq_true_eq, hl2] at hok
    obtain ⟨hv, hn40⟩ := hok
    obtain ⟨n', m, ht, hnm, h6, hm, _⟩ := tab_of_valid hv
    have hn : n' = n := by rw [← ht.len, h.lenR]
    subst hn
    have HV := Lib.hid hv
    have HT := Lib.hid ht
    have HL := Lib.hid hl2
    clear hv ht hl2
    go_enter Try.func24, Try.ntmps24
    go_wp2_with fail
    refine (GraphValid_any _ _ _ _ _ h).mono ?_; rintro e w1 ⟨rfl, hb1⟩; rw [HV.out]
    go_wp2_with fail
    refine (copyGraph_any _ _ _ _ _ (h.below hb1) (by omega) (fun x hx => by rw [HT.out.row x hx]; omega)).mono ?_; rintro e w2 ⟨A1, c1, rfl, o2, hb2⟩
    have hb12 := Ext.trans hb1 hb2
    have hs1 := hb1.size
    have hs2 := hb2.size
    clear h
    go_wp2
    go_loopw [7, 9, 22] (fun dn _ ii wr => ∃ (k d : Nat), k ≤ n2 ∧ ii = .int .i64 k ∧ dn = .int .i64 d ∧ d ≤ k ∧ Hid (runN g (l.take k) = d) ∧ FrR wr w1.heap.size w2.heap.size A1 n' c1 (runG g (l.take k)) ∧ Ext w wr ∧ w2.heap.size ≤ wr.heap.size) (fun _ _ ii _ => n2 - (intOf ii).toNat)
    case atStart => exact ⟨0, 0, Nat.zero_le _, rfl, rfl, Nat.le_refl _, rfl, o2, hb12, Nat.le_refl _⟩
    case round =>
      clear o2 hb12 hb1 hb2
      obtain ⟨k, d, hk, rfl, rfl, hd, HD, o, hb, hsz⟩ := hrel
      by_cases hlt : k < n2
      · obtain ⟨b, off, x0, x1, x2, x3, x4, rfl, X, g0, g1, g2, g3, g4⟩ := (h2.below hb).at5 hlt
        have hx : Ext wr (wr.alloc (.cells #[.int .i64 x0, .int .i64 x1, .int .i64 x2, .int .i64 x3, .int .i64 x4] 28)) := (Below.refl _ _).alloc (Nat.le_refl _) _
        have o3 := o.below hx
        have hB : w1.heap.size ≤ (wr.alloc (.cells #[.int .i64 x0, .int .i64 x1, .int .i64 x2, .int .i64 x3, .int .i64 x4] 28)).heap.size := by have := hx.size; omega
        have e1 := run_step (g := g) X.out
        have e2 := run_count (g := g) X.out
        rw [HD.out] at e2
        obtain ⟨t, hte⟩ : ∃ t, okMv (runG g (l.take k)) (x0, x1, x2, x3, x4) = t := ⟨_, rfl⟩
        rw [hte] at e2
        have HTE := Lib.hid hte
        have E1 := Lib.hid e1
        have E2 := Lib.hid e2
        have HTK := Lib.hid (runG_tab HT.out (l.take k))
        clear h2 X o e1 e2 hte HD
        go_wp2_with fail
        refine (do_any _ _ _ m _ _ _ _ _ _ _ _ _ o3 HTK.out hnm hm hB).mono ?_; rintro e w3 ⟨rfl, o4, hT3⟩; rw [HTE.out]
        rw [← E1.out] at o4
        have hb3 : Ext w w3 := ext_tch (hb.trans hx) hT3 (fun k hk => Nat.le_trans hs1 hk.1)
        have hsz3 : w2.heap.size ≤ w3.heap.size := Nat.le_trans hsz (Nat.le_trans hx.size hT3.size)
        clear o3 hT3 hx hB hb
        cases t with
        | true =>
          go_wp2
          go_roundw
          case rel => exact ⟨k + 1, d + 1, by omega, by go_num, by go_num, by omega, E2, o4, hb3, hsz3⟩
          case measure => simp [intOf]; omega
        | false =>
          go_wp2
          go_roundw
          case rel => exact ⟨k + 1, d, by omega, by go_num, rfl, by omega, E2, o4, hb3, hsz3⟩
          case measure => simp [intOf]; omega
      · have e : k = n2 := by omega
        rw [e, take_all HL.out (Nat.le_refl _)] at o
        have hd2 := HD.out
        rw [e, take_all HL.out (Nat.le_refl _)] at hd2
        have HD2 := Lib.hid hd2
        have hrl : (runG g l).length = n' := (runG_tab HT.out l).len
        have HRL := Lib.hid hrl
        clear e h2 hd2 hrl
        go_wp2
        go_ret2
        simp only [↓reduceIte]
        rw [HRL.out, HD2.out]
        exact ⟨_, _, rfl, (o.mono hs1).monoE hsz, hb⟩

set_option maxHeartbeats 2000000 in
theorem specRunMoves_any (A : Option Addr) (n c : Nat) (g : List (List Int)) (A2 : Option Addr) (n2 c2 : Nat) (l : List Mv) (w : World) (h : RdR w A n c g) (h2 : Rd w 5 A2 n2 c2 (c5 l)) :
    Calls Try.prog 29 #[.slice A n c, .slice A2 n2 c2] w fun e w' => ∃ A' c', e = .returned (.tuple #[.slice A' (runR g l).length c', .int .i64 (runC g l)]) ∧
      FrR w' w.heap.size w'.heap.size A' (runR g l).length c' (runR g l) ∧ Ext w w' := by
  have hl2 := h2.len5
  have hle2 := h2.le
  have htop2 := h2.top
  have htt2 := Nat.le_trans hle2 htop2
  unfold runR runC
  cases hok : runOk g l with
  | false =>
    unfold runOk at hok
    have fin : ∀ w1 : World, FrR (w1.alloc (.cells #[] 40)) w1.heap.size (w1.alloc (.cells #[] 40)).heap.size (some ⟨w1.heap.size, 0, none⟩) 0 0 [] := fun w1 =>
      ⟨[], .inr (Row.lit (w := w1) (n := 0) #[] (by simp) (by unfold maxLen; omega) (Nat.le_refl _)), rfl, Rws.nil, by simp⟩
    cases hv : gValid g with
    | false =>
      clear hok hl2
      go_enter Try.func29, Try.ntmps29
      go_wp2_with fail
      refine (specGraphValid_any _ _ _ _ _ h).mono ?_; rintro e w1 ⟨rfl, hb1⟩; rw [hv]
      have fin1 := fin w1
      clear fin
      go_wp2
      go_ret2
      exact ⟨_, _, rfl, fin1.mono hb1.size, hb1.alloc hb1.size _⟩
    | true =>
      rw [hv, Bool.true_and, decide_eq_false_iff_not, hl2] at hok
      have HV := Lib.hid hv
      have hgt : (40 : Int) < (n2 : Int) := by omega
      clear hok hl2 hv
      go_enter Try.func29, Try.ntmps29
      go_wp2_with fail
      refine (specGraphValid_any _ _ _ _ _ h).mono ?_; rintro e w1 ⟨rfl, hb1⟩; rw [HV.out]
      have fin1 := fin w1
      clear fin
      go_wp2
      go_ret2
      exact ⟨_, _, rfl, fin1.mono hb1.size, hb1.alloc hb1.size _⟩
  | true =>
    unfold runOk at hok
    rw [Bool.and_eq_true, decide_eq_true_eq, hl2] at hok
    obtain ⟨hv, hn40⟩ := hok
    obtain ⟨n', m, ht, hnm, h6, hm, _⟩ := tab_of_valid hv
    have hn : n' = n := by rw [← ht.len, h.lenR]
    subst hn
    have HV := Lib.hid hv
    have HT := Lib.hid ht
    have HL := Lib.hid hl2
    have hd0 : doR g (0, 0, 0, 0, 0) = g := by rw [doR_tab ht hnm h6 hm]; unfold doMv; rw [ok_zero]; rfl
    have ha0 : allowR g (0, 0, 0, 0, 0) = false := by rw [allow_tab ht hnm h6 hm, ok_zero]
    have hgl := ht.len
    have HD0 := Lib.hid hd0
    have HA0 := Lib.hid ha0
    have HGL := Lib.hid hgl
    clear hv ht hl2 hd0 ha0 hgl
    go_enter Try.func29, Try.ntmps29
    go_wp2_with fail
    refine (specGraphValid_any _ _ _ _ _ h).mono ?_; rintro e w1 ⟨rfl, hb1⟩; rw [HV.out]
    go_wp2_with fail
    refine (specDoMove_any _ _ _ _ _ _ _ _ _ _ (h.below hb1)).mono ?_; rintro e w2 ⟨A1, c1, rfl, o2, hb2⟩
    rw [HD0.out, HGL.out] at o2
    rw [HD0.out, HGL.out, HA0.out]
    have hb12 := Ext.trans hb1 hb2
    have o3 := o2.mono hb1.size
    clear h o2 hb1 hb2
    go_wp2
    go_loopw [6, 7, 9, 10, 11] (fun dn xv ii _ _ wr => ∃ (k d : Nat) (A1 : Option Addr) (c1 : Nat), k ≤ n2 ∧ ii = .int .i64 k ∧ dn = .int .i64 d ∧ xv = .slice A1 n' c1 ∧ d ≤ k ∧ Hid (runN g (l.take k) = d) ∧ FrR wr w.heap.size wr.heap.size A1 n' c1 (runG g (l.take k)) ∧ Ext w wr) (fun _ _ ii _ _ _ => n2 - (intOf ii).toNat)
    case atStart => exact ⟨0, 0, _, _, Nat.zero_le _, rfl, rfl, rfl, Nat.le_refl _, rfl, o3, hb12⟩
    case round =>
      clear o3 hb12
      obtain ⟨k, d, A1, c1, hk, rfl, rfl, rfl, hd, HD, o, hb⟩ := hrel
      by_cases hlt : k < n2
      · obtain ⟨b, off, x0, x1, x2, x3, x4, rfl, X, g0, g1, g2, g3, g4⟩ := (h2.below hb).at5 hlt
        have e1 := run_step (g := g) X.out
        have e2 := run_count (g := g) X.out
        rw [HD.out] at e2
        obtain ⟨t, hte⟩ : ∃ t, okMv (runG g (l.take k)) (x0, x1, x2, x3, x4) = t := ⟨_, rfl⟩
        rw [hte] at e2
        have htk := runG_tab HT.out (l.take k)
        have hda : doR (runG g (l.take k)) (x0, x1, x2, x3, x4) = runG g (l.take (k + 1)) := by rw [doR_tab htk hnm h6 hm, e1]
        have hal : allowR (runG g (l.take k)) (x0, x1, x2, x3, x4) = t := by rw [allow_tab htk hnm h6 hm, hte]
        have hln : (runG g (l.take (k + 1))).length = n' := (runG_tab HT.out _).len
        have HDA := Lib.hid hda
        have HAL := Lib.hid hal
        have HLN := Lib.hid hln
        have E2 := Lib.hid e2
        clear h2 X e1 e2 hte HD htk hda hal hln
        go_wp2_with fail
        refine (specDoMove_any _ _ _ _ _ _ _ _ _ _ o.rdR).mono ?_; rintro e w3 ⟨A3, c3, rfl, o4, hb3⟩
        rw [HDA.out, HLN.out] at o4
        rw [HDA.out, HLN.out, HAL.out]
        have o5 := o4.mono hb.size
        have hb4 := Ext.trans hb hb3
        clear o o4 hb3 hb
        cases t with
        | true =>
          go_wp2
          go_roundw
          case rel => exact ⟨k + 1, d + 1, _, _, by omega, by go_num, by go_num, rfl, by omega, E2, o5, hb4⟩
          case measure => simp [intOf]; omega
        | false =>
          go_wp2
          go_roundw
          case rel => exact ⟨k + 1, d, _, _, by omega, by go_num, rfl, rfl, by omega, E2, o5, hb4⟩
          case measure => simp [intOf]; omega
      · have e : k = n2 := by omega
        rw [e, take_all HL.out (Nat.le_refl _)] at o
        have hd2 := HD.out
        rw [e, take_all HL.out (Nat.le_refl _)] at hd2
        have HD2 := Lib.hid hd2
        have hrl : (runG g l).length = n' := (runG_tab HT.out l).len
        have HRL := Lib.hid hrl
        clear e h2 hd2 hrl
        go_wp2
        go_ret2
        simp only [↓reduceIte]
        rw [HRL.out, HD2.out]
        exact ⟨_, _, rfl, o, hb⟩
end Go.Proofs.Ytbljkahdhckegaa
