/-
  The law FnTimesValid returns true at every input, and leaves all that was there as it was: the walk.
-/
import Derived.Test.YtbpkclhpjelelaaTiD
import Derived.Test.YtbpkclhpjelelaaTiA
import Derived.Test.YtbpkclhpjelelaaAlive
import Derived.OpenShut
namespace Go.Proofs.Ytbpkclhpjelelaa
open Go.RowKit

theorem bytes_of {zs : List Int} (h : ∀ z ∈ zs, (Lit.int .u8 z).wf = true) : ∃ bs : List UInt8, zs.map (Value.int .u8) = cU bs := by
  refine ⟨zs.map fun z => UInt8.ofNat z.toNat, ?_⟩
  unfold cU
  rw [List.map_map]
  refine List.map_congr_left fun z hz => ?_
  have h2 := bounds_u8 (h z hz)
  show Value.int .u8 z = Value.int .u8 ((UInt8.ofNat z.toNat).toNat : Int)
  rw [UInt8.toNat_ofNat']
  congr 1
  omega
theorem tValid_take {zs : List Int} (h : tValid zs = true) (k : Nat) : tValid (zs.take k) = true := by
  unfold tValid at h ⊢
  simp only [Bool.and_eq_true, decide_eq_true_eq, List.all_eq_true] at h ⊢
  exact ⟨fun z hz => h.1 z (List.mem_of_mem_take hz), by rw [List.length_take]; omega⟩
theorem tValid_more (zs : List Int) : tValid (zs ++ [10001]) = false := by
  unfold tValid
  rw [List.all_append]
  have : tOk 10001 = false := by decide
  simp [this]

section
variable {P : Program} (w : World)
theorem wpList_append_frG {ops : Array Oper} {rest : List Oper} {o : Oper} {a : Act} {Q : Exit → Act → World → Prop} (hw : Region.wanted o (yielded ops a.tmps) = true) (s x : Operand) (t : TypeId)
    (ho : o.op = .call { callee := .builtin .append, args := #[s, x], argTypes := #[t, t] })
    (B : Nat) (e : TypeId) (i : TypeInfo) (z : Value) (size bytes : Nat) (ht : P.underlying t = some (.slice e)) (hi : P.info? e = some i) (hz : i.zero = some z)
    (hsize : i.size = size) (hby : i.bytes = bytes) (hzs : z.cells.size = size) (hsz : 0 < size)
    (v : Value) (n : Nat) (xs : List Value) (hs : a.eval s = v) (hF : Fr w B e size v n xs) (A : Option Addr) (m c : Nat) (news : List Value) (hx : a.eval x = .slice A m c) (hr : Rd w size A m c news) (h1 : ∀ u ∈ news, u.oneCell' = true)
    (h63 : n + m ≤ maxLen) (hbytes : (n + m) * bytes ≤ 140737488355328) (hB : B ≤ w.heap.size)
    (h : ∀ A' c' w' row, Fr w' B e size (.slice A' (n + m) c') (n + m) (xs ++ news) → w.grownBy w' row → (∀ k, row = some k → B ≤ k ∧ k < w.heap.size ∧ v.ownBlock = some k) → wpList P ops Q rest (a.put o.dst (.slice A' (n + m) c')) w') : wpList P ops Q (o :: rest) a w :=
  wpList_step fun K hK => by
    rw [if_pos hw]
    exact wp_append_fr w s x t ho B e i z size bytes ht hi hz hsize hby hzs hsz v n xs hs hF A m c news hx hr h1 h63 hbytes hB fun A' c' w' row h2 h3 h4 => hK _ _ (h A' c' w' row h2 h3 h4)
end

set_option maxHeartbeats 400000 in
theorem DrawTimesValid_any (A : Option Addr) (n c : Nat) (bs : List UInt8) (w : World) (h : Rd w 1 A n c (cU bs)) :
    Calls Try.prog 9 #[.slice A n c] w fun e w' => ∃ A' n' c' xs, e = .returned (.slice A' n' c') ∧ Rd w' 1 A' n' c' (cI xs) ∧ n' ≤ 9 ∧ Ext w w' := by
  go_enter Try.func9, Try.ntmps9
  go_wp2_with fail
  refine (l20Open_any _ _ _ _ _ h).mono ?_; rintro e w1 ⟨rfl, hr, hb⟩
  have hs := hr.lt
  go_wp2_with fail
  refine (l20Times_any _ _ _ _ _ hr (by omega) (by omega) (by omega) (by omega)).mono ?_; rintro e w2 ⟨A', n', c', xs, rfl, hA, _, _, h9, _, ht⟩
  have hb2 := ext_tch hb ht (fun k e => by subst e; exact Nat.le_refl _)
  go_wp2
  go_ret
  exact ⟨_, _, _, _, rfl, hA, h9, hb2⟩

set_option maxHeartbeats 1000000 in
theorem FnTimesValid_walk (A : Option Addr) (n0 c : Nat) (code : List Int) (w : World) (h0 : Rd w 1 A n0 c (code.map (Value.int .u8))) (F0 : ∀ z ∈ code, (Lit.int .u8 z).wf = true) :
    Calls Try.prog 3 #[.slice A n0 c] w fun e w' => e = .returned (.bool true) ∧ Ext w w' := by
  obtain ⟨bs, hbs⟩ := bytes_of F0
  rw [hbs] at h0
  have hle := h0.le
  have htop := h0.top
  by_cases hn : 1048576 < n0
  · go_enter Try.func3, Try.ntmps3
    go_wp2
    go_ret
    exact ⟨rfl, Below.refl _ _⟩
  obtain ⟨i0, hi, hz0, hz1, hz2⟩ := info_parts Try.infoInt
  go_enter Try.func3, Try.ntmps3
  go_wp2_with fail
  refine (DrawTimesValid_any _ _ _ _ _ h0).mono ?_; rintro e w1 ⟨A1, n, c1, zs, rfl, hg, h9, hb1⟩
  go_wp2_with fail
  refine (TimesValid_any _ _ _ _ _ hg).mono ?_; rintro e w2 ⟨rfl, hb2⟩
  obtain ⟨t, ht⟩ : ∃ t, tValid zs = t := ⟨_, rfl⟩
  rw [ht]
  have hg2 := hg.below hb2
  go_wp2_with fail
  refine (specTimesValid_any _ _ _ _ _ hg2).mono ?_; rintro e w3 ⟨rfl, rfl⟩; rw [ht]
  have htt : (t != t) = false := by cases t <;> rfl
  have hb := hb1.trans hb2
  have hgle := hg2.le
  have hgtop := hg2.top
  have LT := Lib.hid (tValid_more zs)
  have hq : (n : Int).tdiv 2 = ((n / 2 : Nat) : Int) := by rw [Int.tdiv_eq_ediv_of_nonneg (by omega)]; omega
  clear hb1 hb2 hg h0
  cases t
  · clear ht hq
    have hal1 : Ext w2 (w2.alloc (.cells #[] 3)) := (Below.refl _ _).alloc (Nat.le_refl _) _
    have hF1 : Fr (w2.alloc (.cells #[] 3)) w2.heap.size 3 1 (.slice (some ⟨w2.heap.size, 0, none⟩) 0 0) 0 [] := .inr (Row.lit (n := 0) #[] (by simp) (by unfold maxLen; omega) (Nat.le_refl _))
    have hR1 := (hg2).below hal1
    have hl1 := hal1.size
    have hkk : ∀ (Ax : Option Addr) (cx : Nat) (wx : World) (row : Option Nat), Fr wx w2.heap.size 3 1 (.slice Ax (0 + n) cx) (0 + n) ([] ++ cI zs) → (w2.alloc (.cells #[] 3)).grownBy wx row → (∀ k, row = some k → w2.heap.size ≤ k) →
        Fr (wx.alloc (.cells #[.int .i64 10001] 3)) w2.heap.size 3 1 (.slice Ax n cx) n (cI zs) ∧ Rd (wx.alloc (.cells #[.int .i64 10001] 3)) 1 (some ⟨wx.heap.size, 0, none⟩) 1 1 (cI [(10001 : Int)]) ∧ w2.heap.size ≤ (wx.alloc (.cells #[.int .i64 10001] 3)).heap.size ∧ Ext w2 (wx.alloc (.cells #[.int .i64 10001] 3)) := fun Ax cx wx row hF hg hr => by
      rw [Nat.zero_add, List.nil_append] at hF
      have hx : Ext w2 wx := ext_grown hal1 hg hr
      have ha : Ext wx (wx.alloc (.cells #[.int .i64 10001] 3)) := (Below.refl _ _).alloc (Nat.le_refl _) _
      exact ⟨hF.below ha, Rd.lit (sz := 1) (n := 1) #[.int .i64 10001] rfl (by omega), Nat.le_trans hx.size ha.size, hx.trans ha⟩
    clear hal1
    go_wp2_with (first | (at_builtin; refine wpList_append_frG _ (by rfl) _ _ 23 rfl w2.heap.size 3 i0 _ 1 8 Try.underlying23 hi hz0 hz1 hz2 rfl (by omega) _ 0 [] rfl hF1 _ n c1 _ rfl hR1 (one_cI _) (by unfold maxLen; omega) (by omega) hl1 ?_; intro Ax cx wx rowx hFx hgx hrowx; obtain ⟨K1, K2, K3, K4⟩ := hkk _ _ _ _ hFx hgx (fun k hk => (hrowx k hk).1); clear hFx hgx hrowx) | (at_builtin; refine wpList_append_frG _ (by rfl) _ _ 23 rfl w2.heap.size 3 i0 _ 1 8 Try.underlying23 hi hz0 hz1 hz2 rfl (by omega) _ n _ rfl K1 _ 1 1 _ rfl K2 (one_cI _) (by unfold maxLen; omega) (by omega) K3 ?_; intro Ay cy wy rowy hFy hgy hrowy))
    have hwy : Ext w2 wy := ext_grown K4 hgy (fun k hk => (hrowy k hk).1)
    rw [show cI zs ++ cI [(10001 : Int)] = cI (zs ++ [10001]) from (List.map_append ..).symm] at hFy
    refine (TimesValid_any _ _ _ _ _ hFy.rd'.2).mono ?_; rintro e wz ⟨rfl, hbz⟩; rw [LT.out]
    go_wp2_with ((go_at_call 12; refine (alive_any _).mono ?_; rintro e w9 ⟨rfl, hb9⟩))
    go_ret
    exact ⟨rfl, hb.trans (hwy.trans (hbz.trans hb9))⟩
  · have hin := hg2.init (m := n / 2) (by omega)
    rw [Nat.mul_one, show (cI zs).take (n / 2) = cI (zs.take (n / 2)) from (List.map_take ..).symm] at hin
    have hta := tValid_take ht (n / 2)
    obtain ⟨nh, hnh⟩ : ∃ k, n / 2 = k := ⟨_, rfl⟩
    have hnn : nh ≤ n := by omega
    rw [hnh] at hin hta hq
    have HTA := Lib.hid hta
    clear ht hta hnh
    go_wp2_with fail
    refine (TimesValid_any _ _ _ _ _ hin).mono ?_; rintro e w5 ⟨rfl, hb5⟩; rw [HTA.out]
    have hg5 := hg2.below hb5
    have hbb := hb.trans hb5
    clear hg2 hb hb5 hin
    have hal1 : Ext w5 (w5.alloc (.cells #[] 3)) := (Below.refl _ _).alloc (Nat.le_refl _) _
    have hF1 : Fr (w5.alloc (.cells #[] 3)) w5.heap.size 3 1 (.slice (some ⟨w5.heap.size, 0, none⟩) 0 0) 0 [] := .inr (Row.lit (n := 0) #[] (by simp) (by unfold maxLen; omega) (Nat.le_refl _))
    have hR1 := (hg5).below hal1
    have hl1 := hal1.size
    have hkk : ∀ (Ax : Option Addr) (cx : Nat) (wx : World) (row : Option Nat), Fr wx w5.heap.size 3 1 (.slice Ax (0 + n) cx) (0 + n) ([] ++ cI zs) → (w5.alloc (.cells #[] 3)).grownBy wx row → (∀ k, row = some k → w5.heap.size ≤ k) →
        Fr (wx.alloc (.cells #[.int .i64 10001] 3)) w5.heap.size 3 1 (.slice Ax n cx) n (cI zs) ∧ Rd (wx.alloc (.cells #[.int .i64 10001] 3)) 1 (some ⟨wx.heap.size, 0, none⟩) 1 1 (cI [(10001 : Int)]) ∧ w5.heap.size ≤ (wx.alloc (.cells #[.int .i64 10001] 3)).heap.size ∧ Ext w5 (wx.alloc (.cells #[.int .i64 10001] 3)) := fun Ax cx wx row hF hg hr => by
      rw [Nat.zero_add, List.nil_append] at hF
      have hx : Ext w5 wx := ext_grown hal1 hg hr
      have ha : Ext wx (wx.alloc (.cells #[.int .i64 10001] 3)) := (Below.refl _ _).alloc (Nat.le_refl _) _
      exact ⟨hF.below ha, Rd.lit (sz := 1) (n := 1) #[.int .i64 10001] rfl (by omega), Nat.le_trans hx.size ha.size, hx.trans ha⟩
    clear hal1
    go_wp2_with (first | (at_builtin; refine wpList_append_frG _ (by rfl) _ _ 23 rfl w5.heap.size 3 i0 _ 1 8 Try.underlying23 hi hz0 hz1 hz2 rfl (by omega) _ 0 [] rfl hF1 _ n c1 _ rfl hR1 (one_cI _) (by unfold maxLen; omega) (by omega) hl1 ?_; intro Ax cx wx rowx hFx hgx hrowx; obtain ⟨K1, K2, K3, K4⟩ := hkk _ _ _ _ hFx hgx (fun k hk => (hrowx k hk).1); clear hFx hgx hrowx) | (at_builtin; refine wpList_append_frG _ (by rfl) _ _ 23 rfl w5.heap.size 3 i0 _ 1 8 Try.underlying23 hi hz0 hz1 hz2 rfl (by omega) _ n _ rfl K1 _ 1 1 _ rfl K2 (one_cI _) (by unfold maxLen; omega) (by omega) K3 ?_; intro Ay cy wy rowy hFy hgy hrowy))
    have hwy : Ext w5 wy := ext_grown K4 hgy (fun k hk => (hrowy k hk).1)
    rw [show cI zs ++ cI [(10001 : Int)] = cI (zs ++ [10001]) from (List.map_append ..).symm] at hFy
    refine (TimesValid_any _ _ _ _ _ hFy.rd'.2).mono ?_; rintro e wz ⟨rfl, hbz⟩; rw [LT.out]
    go_wp2_with ((go_at_call 12; refine (alive_any _).mono ?_; rintro e w9 ⟨rfl, hb9⟩))
    go_ret
    exact ⟨rfl, hbb.trans (hwy.trans (hbz.trans hb9))⟩
end Go.Proofs.Ytbpkclhpjelelaa
