/-
  The law FnTimersAll returns true at every input, and leaves all that was there as it was: the walk.
-/
import Derived.Test.YthjbafafkaoomaaExpireTimersLaw
import Derived.Test.YthjbafafkaoomaaAlive
namespace Go.Proofs.Ythjbafafkaoomaa
open Go.RowKit

section
variable {P : Program} (w : World)
theorem wpList_append_frG {ops : Array Oper} {rest : List Oper} {o : Oper} {a : Act} {Q : Exit → Act → World → Prop} (hw : Region.wanted o (yielded ops a.tmps) = true) (s x : Operand) (t : TypeId)
    (ho : o.op = .call { callee := .builtin .append, args := #[s, x], argTypes := #[t, t] })
    (B : Nat) (e : TypeId) (i : TypeInfo) (z : Value) (size bytes : Nat) (ht : P.underlying t = some (.slice e)) (hi : P.info? e = some i) (hz : i.zero = some z)
    (hsize : i.size = size) (hby : i.bytes = bytes) (hzs : z.cells.size = size) (hsz : 0 < size)
    (v : Value) (n : Nat) (xs : List Value) (hs : a.eval s = v) (hF : Fr w B e size v n xs) (A : Option Addr) (m c : Nat) (news : List Value) (hx : a.eval x = .slice A m c) (hr : Rd w size A m c news) (h1 : ∀ u ∈ news, u.oneCell' = true)
    (h63 : n + m ≤ maxLen) (hbytes : (n + m) * bytes ≤ 140737488355328) (hB : B ≤ w.heap.size)
    (h : ∀ A' c' w' row, Fr w' B e size (.slice A' (n + m) c') (n + m) (xs ++ news) → w.grownBy w' row → (∀ k, row = some k → B ≤ k ∧ k < w.heap.size ∧ v.ownBlock = some k) → wpList P ops Q rest (a.put o.dst (.slice A' (n + m) c')) w') : wpList P ops Q (o :: rest) a w :=
  wpList_step fun K hK => by
    rw [if_pos hw]
    exact wp_append_fr w s x t ho B e i z size bytes ht hi hz hsize hby hzs hsz v n xs hs hF A m c news hx hr h1 h63 hbytes hB fun A' c' w' row h2 h3 h4 => hK _ _ (h A' c' w' row h2 h3 h4)
end

set_option maxHeartbeats 2000000 in
theorem FnTimersAll_walk (A : Option Addr) (n0 c : Nat) (code : List Int) (w : World) (h0 : Rd w 1 A n0 c (code.map (Value.int .u8))) (F0 : ∀ z ∈ code, (Lit.int .u8 z).wf = true) :
    Calls Try.prog 10 #[.slice A n0 c] w fun e w' => e = .returned (.bool true) ∧ Ext w w' := by
  obtain ⟨bs, hbs⟩ := bytes_of F0
  rw [hbs] at h0
  have hle := h0.le
  have htop := h0.top
  by_cases hn : 1048576 < n0
  · go_enter Try.func10, Try.ntmps10
    go_wp2
    go_ret
    exact ⟨rfl, Below.refl _ _⟩
  obtain ⟨i0, hi0, hz0, hz1, hz2⟩ := info_parts Try.infoInt
  go_enter Try.func10, Try.ntmps10
  go_wp2_with fail
  refine (DrawExpireTimers_any _ _ _ _ _ h0).mono ?_; rintro e w1 ⟨A1, n, c1, ms, q, rfl, hg, h19, hq, hb1⟩
  go_wp2_with fail
  refine (ExpireTimers_any _ _ _ _ _ _ hg).mono ?_; rintro e w2 ⟨A2, c2', A3, c3', rfl, hF2, hP2, hb2⟩
  obtain ⟨xs, hxs⟩ : ∃ xs, restR q ms = xs := ⟨_, rfl⟩
  obtain ⟨ys, hys⟩ : ∃ ys, wokenR q ms = ys := ⟨_, rfl⟩
  have HXS := Lib.hid hxs
  have HYS := Lib.hid hys
  rw [hxs] at hF2 ⊢
  rw [hys] at hP2 ⊢
  clear hxs hys
  have hg2 := hg.below hb2
  go_wp2_with fail
  refine (specExpireTimers_any _ _ _ _ _ _ hg2).mono ?_; rintro e w3 ⟨A4, c4', A5, c5', rfl, hF3, hP3, hb3⟩
  rw [HXS.out] at hF3 ⊢
  rw [HYS.out] at hP3 ⊢
  have hR2 := hF2.rd'.2.below hb3
  have hR3 := hF3.rd'.2
  have hQ2 := hP2.rd'.2.below hb3
  have hQ3 := hP3.rd'.2
  have hg3 := hg2.below hb3
  have hbb := (hb1.trans hb2).trans hb3
  obtain ⟨m, hm⟩ : ∃ m, xs.length = m := ⟨_, rfl⟩
  obtain ⟨l, hl⟩ : ∃ m, ys.length = m := ⟨_, rfl⟩
  rw [hm] at hR2 hR3 ⊢
  rw [hl] at hQ2 hQ3 ⊢
  have HM := Lib.hid hm
  have HLY := Lib.hid hl
  clear hm hl hF2 hF3 hP2 hP3 hg hg2 hb1 hb2 hb3 h0 hbs F0
  go_wp2_with fail
  refine (sameTimers_any _ _ _ _ _ _ _ _ _ hR2 hR3).mono ?_; rintro e w4 ⟨rfl, hb4⟩; rw [(eqTms_iff _ _).2 rfl]
  have hR4 := hR2.below hb4
  have hQ4 := hQ2.below hb4
  have hQ4' := hQ3.below hb4
  have hg4 := hg3.below hb4
  have hbc := hbb.trans hb4
  clear hR2 hR3 hQ2 hQ3 hg3 hbb hb4
  go_wp2_with fail
  refine (sameInts_any _ _ _ _ _ _ _ _ _ hQ4 hQ4').mono ?_; rintro e w5 ⟨rfl, hb5⟩; rw [(eqIs_iff _ _).2 rfl]
  have hR5 := hR4.below hb5
  have hQ5 := hQ4.below hb5
  have hg5 := hg4.below hb5
  have hbd := hbc.trans hb5
  clear hR4 hQ4 hQ4' hg4 hbc hb5
  obtain ⟨t1, ht1⟩ : ∃ b, tmValid ms = b := ⟨_, rfl⟩
  have HT := Lib.hid ht1
  go_wp2_with fail
  refine (specTimersValid_any _ _ _ _ _ hg5).mono ?_; rintro e w6 ⟨rfl, hb6⟩; rw [HT.out]
  have hR6 := hR5.below hb6
  have hQ6 := hQ5.below hb6
  have hg6 := hg5.below hb6
  have hbe := hbd.trans hb6
  clear hR5 hQ5 hg5 hbd hb6
  by_cases hno : t1 = false ∨ q < 0
  · obtain ⟨ex, ey⟩ := exp_no (ms := ms) (q := q) (by rcases hno with h | h; exact .inl (by rw [ht1, h]); exact .inr h)
    clear hR6 hQ6 hg6 ht1 ex ey HXS HYS HM HLY HT
    cases t1
    · clear hno
      go_wp2_with ((go_at_call 25; refine (alive_any _).mono ?_; rintro e w9 ⟨rfl, hb9⟩))
      go_ret
      exact ⟨rfl, hbe.trans hb9⟩
    · have hq0 : q < 0 := by simpa using hno
      clear hno
      go_wp2_with ((go_at_call 25; refine (alive_any _).mono ?_; rintro e w9 ⟨rfl, hb9⟩))
      go_ret
      exact ⟨rfl, hbe.trans hb9⟩
  obtain ⟨rfl, hq0⟩ : t1 = true ∧ 0 ≤ q := by
    cases t1
    · simp at hno
    · simp at hno; exact ⟨rfl, by omega⟩
  obtain ⟨f1, f2, f3, f4, f5, f6⟩ := exp_facts ht1 hq0 (by omega)
  rw [HXS.out] at f1 f2 f3 f5 f6
  rw [HYS.out] at f1 f4 f5 f6
  rw [HM.out, HLY.out] at f1
  rw [HLY.out] at f4 f5
  have hlg := hg6.len2
  obtain ⟨a1, a2⟩ := exp_all f2
  obtain ⟨a3, a4⟩ := exp_all ht1
  have A1 := Lib.hid a1
  have A2 := Lib.hid a2
  have A3 := Lib.hid a3
  have A4 := Lib.hid a4
  have F6 := Lib.hid f6
  have hlx : (xs.map (fun x => x.1)).length = m := by rw [List.length_map, HM.out]
  have hla : (ms.map (fun x => x.1)).length = n := by rw [List.length_map, hlg]
  have HLX := Lib.hid hlx
  have HLA := Lib.hid hla
  have hml : l + m = n := by omega
  clear hno f1 f2 f3 f4 f5 f6 ht1 HT HXS HYS a1 a2 a3 a4 hlx hla hlg
  go_wp2_with fail
  refine (ExpireTimers_any _ _ _ _ _ _ hR6).mono ?_; rintro e w7 ⟨A7, c7', A8, c8', rfl, hF7, hP7, hb7⟩
  rw [A1.out, A2.out, HLX.out]
  rw [A2.out, HLX.out] at hP7
  have hg7 := hg6.below hb7
  have hQ7 := hQ6.below hb7
  have hbf := hbe.trans hb7
  have hL7 := hP7.rd'.2
  clear hR6 hQ6 hg6 hbe hF7 hP7
  go_wp2_with fail
  refine (ExpireTimers_any _ _ _ _ _ _ hg7).mono ?_; rintro e w8 ⟨A9, c9', Ab, cb', rfl, hF8, hP8, hb8⟩
  rw [A3.out, A4.out, HLA.out]
  rw [A4.out, HLA.out] at hP8
  have hQ8 := hQ7.below hb8
  have hL8 := hL7.below hb8
  have hbg := hbf.trans hb8
  have hZ8 := hP8.rd'.2
  clear hQ7 hL7 hbf hF8 hP8 hg7
  have hal1 : Ext w8 (w8.alloc (.cells #[] 3)) := (Below.refl _ _).alloc (Nat.le_refl _) _
  have hF1 : Fr (w8.alloc (.cells #[] 3)) w8.heap.size 3 1 (.slice (some ⟨w8.heap.size, 0, none⟩) 0 0) 0 (cI []) := .inr (Row.lit (n := 0) #[] (by simp) (by unfold maxLen; omega) (Nat.le_refl _))
  have hR1 := hQ8.below hal1
  have hl1 := hal1.size
  have hkk : ∀ (Ax : Option Addr) (cx : Nat) (wx : World) (row : Option Nat), Fr wx w8.heap.size 3 1 (.slice Ax (0 + l) cx) (0 + l) (cI [] ++ cI ys) → (w8.alloc (.cells #[] 3)).grownBy wx row → (∀ k, row = some k → w8.heap.size ≤ k) →
      Fr wx w8.heap.size 3 1 (.slice Ax l cx) l (cI ys) ∧ Rd wx 1 A8 m c8' (cI (xs.map (fun x => x.1))) ∧ w8.heap.size ≤ wx.heap.size ∧ Ext w8 wx := fun Ax cx wx row hF hg hr => by
    rw [Nat.zero_add, show cI [] ++ cI ys = cI ys from rfl] at hF
    have hx : Ext w8 wx := ext_grown hal1 hg hr
    exact ⟨hF, hL8.below hx, hx.size, hx⟩
  have hle8 := hL8.le
  have htop8 := hL8.top
  clear hal1
  go_wp2_with (first | (at_builtin; refine wpList_append_frG _ (by rfl) _ _ 46 rfl w8.heap.size 3 i0 _ 1 8 Try.underlying46 hi0 hz0 hz1 hz2 rfl (by omega) _ l _ rfl K1 _ m c8' _ rfl K2 (one_cI _) (by unfold maxLen; omega) (by omega) K3 ?_; intro Ay cy wy rowy hFy hgy hrowy) | (at_builtin; refine wpList_append_frG _ (by rfl) _ _ 46 rfl w8.heap.size 3 i0 _ 1 8 Try.underlying46 hi0 hz0 hz1 hz2 rfl (by omega) _ 0 _ rfl hF1 _ l c3' _ rfl hR1 (one_cI _) (by unfold maxLen; omega) (by omega) hl1 ?_; intro Ax cx wx rowx hFx hgx hrowx; obtain ⟨K1, K2, K3, K4⟩ := hkk _ _ _ _ hFx hgx (fun k hk => (hrowx k hk).1); clear hFx hgx hrowx))
  have hwy : Ext w8 wy := ext_grown K4 hgy (fun k hk => (hrowy k hk).1)
  rw [← cI_append, F6.out, hml] at hFy
  refine (sameInts_any _ _ _ _ _ _ _ _ _ hFy.rd'.2 (hZ8.below hwy)).mono ?_; rintro e wz ⟨rfl, hbz⟩; rw [(eqIs_iff _ _).2 rfl]
  go_wp2
  go_ret
  exact ⟨rfl, hbg.trans (hwy.trans hbz)⟩
end Go.Proofs.Ythjbafafkaoomaa
