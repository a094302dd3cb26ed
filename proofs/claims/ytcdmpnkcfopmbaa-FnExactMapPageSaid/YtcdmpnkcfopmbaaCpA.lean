/-
  Slices of Caps: the laws' helpers: counted, copied, compared, marked, still marked.
-/
import Derived.Test.YtcdmpnkcfopmbaaAg4
import Derived.Test.YtcdmpnkcfopmbaaSmall
namespace Go.Proofs.Ytcdmpnkcfopmbaa
open Go.RowKit

theorem Try.infoCp : (Try.prog.info? 53).map (fun i => (i.zero, i.size, i.bytes)) = some (some (Value.agg #[.int .i64 0, .int .i64 0, .int .i64 0, .int .i64 0]), 4, 32) := by kernel_rfl
theorem Try.cellsCp : Try.prog.cellsOf 53 = 4 := by kernel_rfl


set_option maxHeartbeats 400000 in
theorem toCap_any (x0 x1 x2 x3 : Int) (w : World) :
    Calls Try.prog 38 #[.agg #[.int .i64 x0, .int .i64 x1, .int .i64 x2, .int .i64 x3]] w fun e w' => e = .returned (.agg #[.int .i64 x0, .int .i64 x1, .int .i64 x2, .int .i64 x3]) ∧ Ext w w' := by
  go_enter Try.func38, Try.ntmps38
  go_wp2
  refine bodyPost_ret (v := .agg #[.int .i64 x0, .int .i64 x1, .int .i64 x2, .int .i64 x3]) (by simp [results, Try.results38, go_sem]) rfl ⟨rfl, ?_⟩
  exact (((Below.refl _ _).alloc (Nat.le_refl _) _).alloc (by simp) _).alloc (by simp; omega) _

def eqCp (a b : Int × Int × Int × Int) : Bool := a.1 == b.1 && a.2.1 == b.2.1 && a.2.2.1 == b.2.2.1 && a.2.2.2 == b.2.2.2
/-- Two slices, element by element. -/
def eqCps : List (Int × Int × Int × Int) → List (Int × Int × Int × Int) → Bool
  | [], [] => true
  | a :: r, b :: r' => eqCp a b && eqCps r r'
  | _, _ => false
theorem eqCp_iff (a b : Int × Int × Int × Int) : eqCp a b = true ↔ a = b := by
  obtain ⟨a0, a1, a2, a3⟩ := a; obtain ⟨b0, b1, b2, b3⟩ := b
  simp [eqCp, and_assoc]
theorem eqCp_self (a : Int × Int × Int × Int) : eqCp a a = true := (eqCp_iff a a).2 rfl
theorem eqCps_iff : ∀ a b : List (Int × Int × Int × Int), eqCps a b = true ↔ a = b
  | [], [] => by simp [eqCps]
  | [], _ :: _ => by simp [eqCps]
  | _ :: _, [] => by simp [eqCps]
  | a :: r, b :: r' => by simp [eqCps, eqCp_iff, eqCps_iff r r']
theorem eqCps_len {a b : List (Int × Int × Int × Int)} (h : a.length ≠ b.length) : eqCps a b = false := by
  rw [← Bool.not_eq_true, eqCps_iff]; intro e; exact h (by rw [e])




def mk4 (z : Int) : Int × Int × Int × Int := (z, z + 1, z + 1 + 1, z + 1 + 1 + 1)
def marks4 (k : Int) (n : Nat) : List (Int × Int × Int × Int) := marks mk4 4 k n


end Go.Proofs.Ytcdmpnkcfopmbaa
