/-
  The reference's reader of a code, byte by byte: what it hands back is a number in range, and only its own block is written.
-/
import Derived.Test.YteahiiflgiimnaaSmall
import Derived.Laws.BitsAllLaws
namespace Go.Proofs.Yteahiiflgiimnaa
open Go.RowKit

/-- A slice of bytes, as cells. -/
def cU (bs : List UInt8) : List Value := bs.map fun b => Value.int .u8 b.toNat
theorem Rd.lenU {w : World} {A : Option Addr} {n c : Nat} {bs : List UInt8} (h : Rd w 1 A n c (cU bs)) : bs.length = n := by
  have := h.len; simpa [cU] using this
theorem Rd.atU {w : World} {A : Option Addr} {n c k : Nat} {bs : List UInt8} (h : Rd w 1 A n c (cU bs)) (hk : k < n) :
    ∃ b off, ∃ x : UInt8, A = some ⟨b, off, none⟩ ∧ w.cell? ⟨b, off + k, none⟩ = some (.int .u8 x.toNat) := by
  obtain ⟨b, off, e, hc⟩ := h.cells (by omega)
  obtain ⟨x, hx⟩ := get_of_lt h.lenU hk
  exact ⟨b, off, x, e, hc k _ (by simp [cU, hx])⟩

/-- The reader in block g: at most p steps taken, at most 2000 bytes, which lie elsewhere; all of it lies below B. -/
structure Rdr (w : World) (B g p : Nat) : Prop where
  low : g < B
  blk : ∃ (A : Option Addr) (n c q : Nat) (bs : List UInt8), w.heap[g]? = some (.cells #[.slice A n c, .int .i64 q] 113 (0, 0)) ∧ Rd w 1 A n c (cU bs) ∧ n ≤ 2000 ∧ q ≤ p ∧ (∀ b off, A = some ⟨b, off, none⟩ → 0 < n → b ≠ g ∧ b < B)

theorem Rdr.lt {w : World} {B g p : Nat} (h : Rdr w B g p) : g < w.heap.size := by
  obtain ⟨_, _, _, _, _, hh, _⟩ := h.blk
  exact (Array.getElem?_eq_some_iff.1 hh).1
theorem Rdr.keepLow {w w' : World} {B g p : Nat} (h : Rdr w B g p) (hk : ∀ k, k < B → k < w.heap.size → w'.heap[k]? = w.heap[k]?) : Rdr w' B g p := by
  have hl := h.lt
  obtain ⟨A, n, c, q, bs, hh, r, hn, hq, hne⟩ := h.blk
  exact ⟨h.low, A, n, c, q, bs, (hk g h.low hl).trans hh, r.keepB fun b off e hpos hlt => hk b (hne b off e hpos).2 hlt, hn, hq, hne⟩
theorem Rdr.keep {w w' : World} {B g p : Nat} (h : Rdr w B g p) (hb : Below w.heap.size w w') : Rdr w' B g p := h.keepLow fun k _ hk => hb.block k hk
theorem Rdr.past {w w' : World} {B g p : Nat} {row : Option Nat} (h : Rdr w B g p) (hg : w.grownBy w' row) (hr : ∀ k, row = some k → B ≤ k) : Rdr w' B g p :=
  h.keepLow fun k hB hk => hg.block k hk fun e => by have := hr k e.symm; omega
theorem Rdr.more {w : World} {B g p p' : Nat} (h : Rdr w B g p) (hp : p ≤ p') : Rdr w B g p' := by
  obtain ⟨A, n, c, q, bs, hh, r, hn, hq, hne⟩ := h.blk
  exact ⟨h.low, A, n, c, q, bs, hh, r, hn, by omega, hne⟩

theorem xor_pos {a b : Int} (ha : 0 ≤ a) (hb : 0 ≤ b) (ha' : a < 4611686018427387904) (hb' : b < 4611686018427387904) : ∃ m : Nat, bits .xor .i64 a b = (m : Int) ∧ m < 4611686018427387904 := by
  obtain ⟨x, rfl⟩ := Int.eq_ofNat_of_zero_le ha
  obtain ⟨y, rfl⟩ := Int.eq_ofNat_of_zero_le hb
  have hx : x < 2 ^ 62 := by omega
  have hy : y < 2 ^ 62 := by omega
  have hz : x ^^^ y < 2 ^ 62 := Nat.xor_lt_two_pow hx hy
  refine ⟨x ^^^ y, ?_, by omega⟩
  have e : ∀ n : Nat, n < 9223372036854775808 → (BitVec.ofInt 64 (n : Int)).toNat = n := fun n hn => by
    rw [BitVec.ofInt_natCast, BitVec.toNat_ofNat]; exact Nat.mod_eq_of_lt (by omega)
  show IntKind.i64.wrap ((BitVec.ofInt 64 (x : Int) ^^^ BitVec.ofInt 64 (y : Int)).toNat : Int) = _
  rw [BitVec.toNat_xor, e x (by omega), e y (by omega), IntKind.wrap_i64]
  omega

set_option maxHeartbeats 1000000 in
theorem pick_any (B g p : Nat) (n : Int) (w : World) (h : Rdr w B g p) (hn : 1 ≤ n) (hn' : n ≤ 1000000) (hp : p ≤ 1000000) :
    Calls Try.prog 77 #[.pointer (some ⟨g, 0, none⟩), .int .i64 n] w fun e w' => ∃ k : Nat, (k : Int) < n ∧ e = .returned (.int .i64 k) ∧ Rdr w' B g (p + 1) ∧ w.grownBy w' (some g) := by
  obtain ⟨A, m, c, q, bs, hh, r, hm, hq, hne⟩ := h.blk
  have c0 : w.cell? ⟨g, 0, none⟩ = some (.slice A m c) := by rw [cell_of_row w g 0 _ _ _ hh]; rfl
  have c1 : w.cell? ⟨g, 1, none⟩ = some (.int .i64 q) := by rw [cell_of_row w g 1 _ _ _ hh]; rfl
  have f1 : w.frozen? ⟨g, 1, none⟩ = false := frozen_of_row w g 1 _ _ hh
  have hle := r.le
  have htop := r.top
  -- the world behind the step
  have hw : ∀ n', Rdr ((w.setCell ⟨g, 1, none⟩ (.int .i64 ((q : Int) + 1))).drewN n') B g (p + 1) ∧ w.grownBy ((w.setCell ⟨g, 1, none⟩ (.int .i64 ((q : Int) + 1))).drewN n') (some g) := by
    intro n'
    refine ⟨⟨h.low, A, m, c, q + 1, bs, ?_, ?_, hm, by omega, hne⟩, ?_⟩
    · have := heap_setCell_same w g 1 _ _ (.int .i64 ((q : Int) + 1)) hh
      exact this
    · exact r.keepB fun b off e hpos _ => Below.heap_setCell w ⟨g, 1, none⟩ _ b (hne b off e hpos).1
    · have h3 := grown_set (p := ⟨g, 1, none⟩) (g := g) (World.grownBy.refl w _) rfl (.int .i64 ((q : Int) + 1))
      exact ⟨h3.os, h3.tape, h3.output, h3.size, h3.block⟩
  have HW := Lib.hid hw
  clear hw h hh
  by_cases hm0 : m = 0
  · subst hm0
    clear r hne
    go_enter Try.func77, Try.ntmps77
    go_wp2
    go_ret
    exact ⟨0, by omega, rfl, HW.out 0⟩
  · have hmz : ((m : Int) == 0) = false := by rw [beq_eq_false_iff_ne]; omega
    have hr : ∀ z : Int, 0 ≤ z → ∃ k : Nat, z % n = (k : Int) ∧ (k : Int) < n := fun z hz =>
      ⟨(z % n).toNat, by have := Int.emod_nonneg z (show n ≠ 0 by omega); omega, by have := Int.emod_nonneg z (show n ≠ 0 by omega); have := Int.emod_lt_of_pos z (show 0 < n by omega); omega⟩
    by_cases hqm : q < m
    · obtain ⟨b, off, x, rfl, g0⟩ := r.atU hqm
      have hbg : b ≠ g := (hne b off rfl (by omega)).1
      have hx : x.toNat < 256 := x.toNat_lt
      obtain ⟨y, hy⟩ : ∃ y : Nat, y = x.toNat := ⟨_, rfl⟩
      rw [← hy] at g0 hx
      obtain ⟨k, hk, hkn⟩ := hr y (by omega)
      have HK := Lib.hid hk
      clear r hne hy hr hk
      go_enter Try.func77, Try.ntmps77
      go_wp2
      go_ret
      exact ⟨k, hkn, ret_int HK.out, HW.out 0⟩
    · have hqd : decide (q < m) = false := by simpa using hqm
      obtain ⟨b, off, x0, rfl, g0⟩ := r.atU (k := q % m) (Nat.mod_lt _ (by omega))
      obtain ⟨b', off', x1, hA, g1⟩ := r.atU (k := (q * 7 + 3) % m) (Nat.mod_lt _ (by omega))
      simp only [Option.some.injEq, Addr.mk.injEq, and_true] at hA
      obtain ⟨rfl, rfl⟩ := hA
      have hbg : b ≠ g := (hne b off rfl (by omega)).1
      have hx0 : x0.toNat < 256 := x0.toNat_lt
      have hx1 : x1.toNat < 256 := x1.toNat_lt
      obtain ⟨y0, hy0⟩ : ∃ y : Nat, y = x0.toNat := ⟨_, rfl⟩
      obtain ⟨y1, hy1⟩ : ∃ y : Nat, y = x1.toNat := ⟨_, rfl⟩
      rw [← hy0] at g0 hx0
      rw [← hy1] at g1 hx1
      clear r hne hy0 hy1
      have l0 : q % m < m := Nat.mod_lt _ (by omega)
      have l1 : (q * 7 + 3) % m < m := Nat.mod_lt _ (by omega)
      have l2 : q / m ≤ q := Nat.div_le_self _ _
      have k0 : (q : Int) % (m : Int) < (m : Int) := by exact_mod_cast l0
      have k1 : 0 ≤ (q : Int) % (m : Int) := Int.emod_nonneg _ (by omega)
      have k2 : ((q : Int) * 7 + 3) % (m : Int) < (m : Int) := Int.emod_lt_of_pos _ (by omega)
      have k3 : 0 ≤ ((q : Int) * 7 + 3) % (m : Int) := Int.emod_nonneg _ (by omega)
      have k4 : ((q : Int) % (m : Int)).toNat = q % m := by have : (q : Int) % (m : Int) = ((q % m : Nat) : Int) := by simp
                                                            omega
      have k5 : (((q : Int) * 7 + 3) % (m : Int)).toNat = (q * 7 + 3) % m := by
        have e : ((q : Int) * 7 + 3) % (m : Int) = (((q * 7 + 3) % m : Nat) : Int) := by simp
        rw [e]; exact Int.toNat_natCast _
      have e0 : (q : Int).tmod (m : Int) = (q : Int) % (m : Int) := Int.tmod_eq_emod_of_nonneg (by omega)
      have e1 : IntKind.i64.wrap ((q : Int) * 7) = (q : Int) * 7 := by rw [IntKind.wrap_i64]; omega
      have e2 : IntKind.i64.wrap ((q : Int) * 7 + 3) = (q : Int) * 7 + 3 := by rw [IntKind.wrap_i64]; omega
      have e3 : ((q : Int) * 7 + 3).tmod (m : Int) = ((q : Int) * 7 + 3) % (m : Int) := Int.tmod_eq_emod_of_nonneg (by omega)
      have e4 : IntKind.i64.wrap ((y0 : Int) * 131) = (y0 : Int) * 131 := by rw [IntKind.wrap_i64]; omega
      have e5 : IntKind.i64.wrap ((y1 : Int) * 1117) = (y1 : Int) * 1117 := by rw [IntKind.wrap_i64]; omega
      have e6 : IntKind.i64.wrap ((y0 : Int) * 131 + (y1 : Int) * 1117) = (y0 : Int) * 131 + (y1 : Int) * 1117 := by rw [IntKind.wrap_i64]; omega
      obtain ⟨d, hd⟩ : ∃ d : Nat, d = q / m := ⟨_, rfl⟩
      have e7 : (q : Int) / (m : Int) = (d : Int) := by rw [hd]; simp
      have hdq : d ≤ q := by omega
      obtain ⟨z, hz, hz'⟩ := xor_pos (a := (y0 : Int) * 131 + (y1 : Int) * 1117 + (q : Int) * 29 + (d : Int) * 53) (b := ((y0 : Int) * 131 + (y1 : Int) * 1117 + (q : Int) * 29 + (d : Int) * 53) / 64) (by omega) (by omega) (by omega) (by omega)
      obtain ⟨k, hk, hkn⟩ := hr z (by omega)
      have HK := Lib.hid hk
      clear hk hr hd l2
      go_enter Try.func77, Try.ntmps77
      go_wp2
      go_quiet (fail)
      go_wp2
      go_ret
      exact ⟨k, hkn, ret_int HK.out, HW.out _⟩

set_option maxHeartbeats 400000 in
theorem odd_any (B g p : Nat) (n : Int) (w : World) (h : Rdr w B g p) (hn : 0 ≤ n) (hn' : n ≤ 1000000) (hp : p ≤ 1000000) :
    Calls Try.prog 78 #[.pointer (some ⟨g, 0, none⟩), .int .i64 n] w fun e w' => ∃ t : Bool, e = .returned (.bool t) ∧ (n = 0 → t = false) ∧ Rdr w' B g (p + 1) ∧ w.grownBy w' (some g) := by
  by_cases h0 : n = 0
  · subst h0
    have h' := h.more (p' := p + 1) (by omega)
    clear h
    go_enter Try.func78, Try.ntmps78
    go_wp2
    go_ret
    exact ⟨false, rfl, fun _ => rfl, h', World.grownBy.refl w _⟩
  · have hpos : 0 < n := by omega
    go_enter Try.func78, Try.ntmps78
    go_wp2_with ((go_at_call 77; refine (pick_any _ _ _ _ _ h (by omega) hn' hp).mono ?_; rintro e w1 ⟨k, hk, rfl, hr, hg⟩))
    go_ret
    exact ⟨_, rfl, fun e => absurd e h0, hr, hg⟩

set_option maxHeartbeats 400000 in
theorem l20Open_any (A : Option Addr) (n c : Nat) (bs : List UInt8) (w : World) (h : Rd w 1 A n c (cU bs)) :
    Calls Try.prog 74 #[.slice A n c] w fun e w' => e = .returned (.pointer (some ⟨w.heap.size, 0, none⟩)) ∧ Rdr w' (w.heap.size + 1) w.heap.size 0 ∧ Ext w w' := by
  have hle := h.le
  have htop := h.top
  have hlt : ∀ b off, A = some ⟨b, off, none⟩ → 0 < n → b ≠ w.heap.size ∧ b < w.heap.size + 1 := by
    intro b off e hpos
    obtain ⟨b', off', x, e', g0⟩ := h.atU hpos
    rw [e] at e'
    simp only [Option.some.injEq, Addr.mk.injEq, and_true] at e'
    obtain ⟨rfl, rfl⟩ := e'
    have := World.block_lt_of_cell? w _ g0
    simp only at this
    omega
  have hnew : ∀ v, ((w.alloc (.cells #[v, .int .i64 0] 113)).heap[w.heap.size]?) = some (.cells #[v, .int .i64 0] 113 (0, 0)) := fun v => heap_alloc_new w _
  by_cases hbig : 2000 < n
  · have R : Rdr (w.alloc (.cells #[.slice A 2000 c, .int .i64 0] 113)) (w.heap.size + 1) w.heap.size 0 := by
      refine ⟨Nat.lt_succ_self _, A, 2000, c, 0, bs.take 2000, hnew _, ⟨by simp only [cU, List.length_map, List.length_take]; have := h.lenU; omega, by omega, htop, fun _ => ?_⟩, by omega, by omega, fun b off e _ => hlt b off e (by omega)⟩
      obtain ⟨b, off, e, hc⟩ := h.cells (by omega)
      refine ⟨b, off, e, fun j u hu => kept_of_below ((Below.refl _ _).alloc (Nat.le_refl _) _) _ _ (hc j u ?_)⟩
      simp only [cU, List.getElem?_map, List.getElem?_take] at hu ⊢
      split at hu
      · exact hu
      · simp at hu
    have H := Lib.hid R
    clear R hnew hlt h
    go_enter Try.func74, Try.ntmps74
    go_wp2
    go_ret
    exact ⟨rfl, H.out, (Below.refl _ _).alloc (Nat.le_refl _) _⟩
  · have R : Rdr (w.alloc (.cells #[.slice A n c, .int .i64 0] 113)) (w.heap.size + 1) w.heap.size 0 :=
      ⟨Nat.lt_succ_self _, A, n, c, 0, bs, hnew _, h.keep (kept_of_below ((Below.refl _ _).alloc (Nat.le_refl _) _)), by omega, by omega, hlt⟩
    have H := Lib.hid R
    clear R hnew hlt h
    go_enter Try.func74, Try.ntmps74
    go_wp2
    go_ret
    exact ⟨rfl, H.out, (Below.refl _ _).alloc (Nat.le_refl _) _⟩
end Go.Proofs.Yteahiiflgiimnaa
