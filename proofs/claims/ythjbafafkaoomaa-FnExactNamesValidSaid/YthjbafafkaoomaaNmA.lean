/-
  Words for slices of names: a text and two numbers. No program is in sight here.
-/
import Derived.Test.YthjbafafkaoomaaBase
import Derived.Laws.Cover1
namespace Go.Proofs.Ythjbafafkaoomaa
open Go.RowKit

abbrev Nm := ByteArray × Int × Int
def eN (m : Nm) : List Value := [.string m.1, .int .i64 m.2.1, .int .i64 m.2.2]
def cN (ms : List Nm) : List Value := ms.flatMap eN
theorem eN_len (m : Nm) : (eN m).length = 3 := rfl
theorem cN_len (ms : List Nm) : (cN ms).length = ms.length * 3 := flat_length eN_len ms
theorem Rd.lenN {w : World} {A : Option Addr} {n c : Nat} {ms : List Nm} (h : Rd w 3 A n c (cN ms)) : ms.length = n := by
  have := h.len; rw [cN_len] at this; omega
theorem Rd.atN {w : World} {A : Option Addr} {n c k : Nat} {ms : List Nm} (h : Rd w 3 A n c (cN ms)) (hk : k < n) :
    ∃ b off s p q, A = some ⟨b, off, none⟩ ∧ Hid (ms[k]? = some (s, p, q)) ∧ w.cell? ⟨b, off + k * 3, none⟩ = some (.string s) ∧ w.cell? ⟨b, off + k * 3 + 1, none⟩ = some (.int .i64 p) ∧
      w.cell? ⟨b, off + k * 3 + 2, none⟩ = some (.int .i64 q) := by
  obtain ⟨b, off, e, hc⟩ := h.cells (by omega)
  obtain ⟨⟨s, p, q⟩, hx⟩ := get_of_lt h.lenN hk
  refine ⟨b, off, s, p, q, e, hx, ?_, ?_, ?_⟩
  · exact hc (k * 3 + 0) _ (flat_get eN_len ms k 0 _ _ hx rfl)
  · rw [Nat.add_assoc]; exact hc (k * 3 + 1) _ (flat_get eN_len ms k 1 _ _ hx rfl)
  · rw [Nat.add_assoc]; exact hc (k * 3 + 2) _ (flat_get eN_len ms k 2 _ _ hx rfl)
def zN : Nm := (⟨#[]⟩, 0, 0)
theorem cN_replicate (n : Nat) : (madeCells #[.string ⟨#[]⟩, .int .i64 0, .int .i64 0] (n * 3)).toList = cN (List.replicate n zN) := by
  apply List.ext_getElem?
  intro i
  by_cases hi : i < n * 3
  · have h1 : i = i / 3 * 3 + i % 3 := by omega
    have hk : (List.replicate n zN)[i / 3]? = some zN := by rw [List.getElem?_replicate, if_pos (by omega)]
    have h3 : i % 3 < 3 := Nat.mod_lt _ (by omega)
    have hj : ∃ u, (eN zN)[i % 3]? = some u ∧ (#[Value.string ⟨#[]⟩, .int .i64 0, .int .i64 0][i % 3]!) = u := by
      rcases (show i % 3 = 0 ∨ i % 3 = 1 ∨ i % 3 = 2 from by omega) with h | h | h <;> rw [h] <;> exact ⟨_, rfl, rfl⟩
    obtain ⟨u, hj, hu⟩ := hj
    have h2 := flat_get eN_len _ _ _ _ _ hk hj
    rw [← h1] at h2
    rw [show cN (List.replicate n zN) = (List.replicate n zN).flatMap eN from rfl, h2]
    unfold madeCells
    rw [Array.getElem?_toList, Array.getElem?_map, Array.getElem?_range, if_pos hi]
    show some (#[Value.string ⟨#[]⟩, .int .i64 0, .int .i64 0][i % 3]!) = _
    rw [hu]
  · rw [List.getElem?_eq_none (by rw [Array.length_toList, size_madeCells]; omega), List.getElem?_eq_none (by rw [cN_len, List.length_replicate]; omega)]
theorem cN_set (ms : List Nm) (k : Nat) (s : ByteArray) (p q : Int) (hk : k < ms.length) :
    (((cN ms).set (k * 3) (.string s)).set (k * 3 + 1) (.int .i64 p)).set (k * 3 + 2) (.int .i64 q) = cN (ms.set k (s, p, q)) := by
  induction ms generalizing k with
  | nil => simp at hk
  | cons m ms ih =>
    cases k with
    | zero => rfl
    | succ k =>
      have := ih k (by simpa using hk)
      show (((eN m ++ cN ms).set _ _).set _ _).set _ _ = eN m ++ cN (ms.set k (s, p, q))
      rw [← this]
      have e1 : (k + 1) * 3 = 3 + k * 3 := by omega
      rw [e1]
      rw [List.set_append_right _ _ (by rw [eN_len]; omega), List.set_append_right _ _ (by rw [eN_len]; omega), List.set_append_right _ _ (by rw [eN_len]; omega)]
      simp only [eN_len, show 3 + k * 3 - 3 = k * 3 from by omega, show 3 + k * 3 + 1 - 3 = k * 3 + 1 from by omega, show 3 + k * 3 + 2 - 3 = k * 3 + 2 from by omega]
theorem ownN_at {w : World} {B e g n cap k : Nat} {ms : List Nm} (h : Row w B e 3 (.slice (some ⟨g, 0, none⟩) n cap) n (cN ms)) (hk : k < n) :
    ∃ s p q, w.cell? ⟨g, k * 3, none⟩ = some (.string s) ∧ w.cell? ⟨g, k * 3 + 1, none⟩ = some (.int .i64 p) ∧ w.cell? ⟨g, k * 3 + 2, none⟩ = some (.int .i64 q) := by
  have hl : ms.length = n := by have := h.len; rw [cN_len] at this; omega
  obtain ⟨⟨s, p, q⟩, hx⟩ := get_of_lt hl hk
  refine ⟨s, p, q, ?_, ?_, ?_⟩
  · rw [h.cellAt _ (by omega)]; exact flat_get eN_len ms k 0 _ _ hx rfl
  · rw [h.cellAt _ (by omega)]; exact flat_get eN_len ms k 1 _ _ hx rfl
  · rw [h.cellAt _ (by omega)]; exact flat_get eN_len ms k 2 _ _ hx rfl
theorem ownN_set {w : World} {B e g n cap k : Nat} {ms : List Nm} (h : Row w B e 3 (.slice (some ⟨g, 0, none⟩) n cap) n (cN ms)) (hk : k < n) (s : ByteArray) (p q : Int) :
    Row (((w.setCell ⟨g, k * 3, none⟩ (.string s)).setCell ⟨g, k * 3 + 1, none⟩ (.int .i64 p)).setCell ⟨g, k * 3 + 2, none⟩ (.int .i64 q)) B e 3 (.slice (some ⟨g, 0, none⟩) n cap) n (cN (ms.set k (s, p, q))) := by
  have hl : ms.length = n := by have := h.len; rw [cN_len] at this; omega
  have h3 := ((h.stored (k * 3) (.string s)).stored (k * 3 + 1) (.int .i64 p)).stored (k * 3 + 2) (.int .i64 q)
  rw [cN_set ms k s p q (by omega)] at h3
  exact h3

/-- Byte by byte. -/
def lessB (a b : ByteArray) : Bool := Op.bytesLess a.toList b.toList
theorem less_total : ∀ x y : List UInt8, (Op.bytesLess x y || x == y) = !Op.bytesLess y x
  | [], [] => rfl
  | [], _ :: _ => rfl
  | _ :: _, [] => rfl
  | a :: x, b :: y => by
    have ih := less_total x y
    show (decide (a < b) || (a == b && Op.bytesLess x y) || (a :: x == b :: y)) = !(decide (b < a) || (b == a && Op.bytesLess y x))
    rw [show (a :: x == b :: y) = (a == b && x == y) from rfl]
    by_cases h : a = b
    · subst h
      have h1 : ¬ a < a := UInt8.lt_irrefl a
      simp only [h1, decide_false, Bool.false_or, beq_self_eq_true, Bool.true_and]
      exact ih
    · have e1 : (a == b) = false := by simpa using h
      have e2 : (b == a) = false := by simpa using Ne.symm h
      rw [e1, e2]
      simp only [Bool.false_and, Bool.or_false]
      have hn : a.toNat ≠ b.toNat := fun e => h (UInt8.toNat_inj.1 e)
      have h2 : decide (a < b) = decide (a.toNat < b.toNat) := rfl
      have h3 : decide (b < a) = decide (b.toNat < a.toNat) := rfl
      rw [h2, h3, ← decide_not, decide_eq_decide]
      omega
theorem atMost_not (a b : ByteArray) : (Op.bytesLess a.toList b.toList || a.toList == b.toList) = !lessB b a := less_total _ _

/-- Letters. -/
def okAt (s : ByteArray) (k : Nat) : Bool := match s[k]? with | some x => decide (97 ≤ x.toNat) && decide (x.toNat ≤ 122) | none => true
def lets (s : ByteArray) : Nat → Bool
  | 0 => true
  | k + 1 => lets s k && okAt s k
def textB (s : ByteArray) : Bool := lets s s.size && inB s.size 1 12
theorem lets_bad {s : ByteArray} {k : Nat} (h : okAt s k = false) : ∀ n, k < n → lets s n = false
  | 0, hn => by omega
  | n + 1, hn => by
    show (lets s n && okAt s n) = false
    by_cases he : k = n
    · subst he; rw [h, Bool.and_false]
    · rw [lets_bad h n (by omega)]; rfl
theorem okAt_eq {s : ByteArray} {k : Nat} (h : k < s.size) : okAt s k = (decide (97 ≤ (s[k]'h).toNat) && decide ((s[k]'h).toNat ≤ 122)) := by
  unfold okAt; rw [ByteArray.getElem?_lt' s k h]

/-- What a name must be, behind the one ahead of it. -/
def nOk (q : Option ByteArray) (m : Nm) : Bool := textB m.1 && inB m.2.1 0 15 && (match q with | none => true | some p => lessB p m.1)
def nSeq : Option ByteArray → List Nm → Bool
  | _, [] => true
  | q, m :: r => nOk q m && nSeq (some m.1) r
def nmValid (ms : List Nm) : Bool := nSeq none ms && decide (ms.length ≤ 20)
def eqN (a b : Nm) : Bool := a.1.toList == b.1.toList && a.2.1 == b.2.1 && a.2.2 == b.2.2
theorem eqN_self (a : Nm) : eqN a a = true := by simp [eqN]
def FitsN (m : Nm) : Prop := m.1.size ≤ 9223372036854775807
end Go.Proofs.Ythjbafafkaoomaa
