/-
  GrowGraph, the program's and the reference's.
-/
import Derived.Test.YtbljkahdhckegaaGrB
import Derived.StillTailTactics
namespace Go.Proofs.Ytbljkahdhckegaa
open Go.RowKit

def growR (xss : List (List Int)) : List (List Int) := if gValid xss then growG xss else []
theorem growR_size (xss : List (List Int)) : (growR xss).length + tot (growR xss) ≤ 1048576 := by
  unfold growR
  cases hv : gValid xss with
  | false => simp [tot]
  | true =>
    obtain ⟨h6, hr⟩ := gValid_rows hv
    simp only [↓reduceIte]
    have h1 : (growG xss).length ≤ 6 := by rw [growG_len]; exact h6
    have h2 : ∀ xs ∈ growG xss, xs.length ≤ 10 := by
      intro xs hx
      have hm : xs.length = len0 xss := growG_rows (fun ys hy => (hr ys hy).1) xs hx
      unfold growG at hx
      obtain ⟨i, hi, _⟩ := List.mem_map.1 hx
      have hil : i < xss.length := by simpa using hi
      obtain ⟨ys, hy⟩ := get_of_lt (xs := xss) rfl (show 0 < xss.length by omega)
      have := hr ys (List.mem_of_getElem? hy)
      omega
    have h3 : ∀ l : List (List Int), (∀ xs ∈ l, xs.length ≤ 10) → tot l ≤ l.length * 10 := by
      intro l
      induction l with
      | nil => intro _; simp [tot]
      | cons x r ih => intro h; have := ih fun y hy => h y (by simp [hy]); have := h x (by simp); simp only [tot, List.length_cons]; omega
    have := h3 _ h2
    omega


theorem Rws.asideRow {w w' : World} {B B2 n : Nat} {hs : List Hd} {xss : List (List Int)} {v : Value} {cells : List Value} {row : Option Nat} (h : Rws w B hs xss) (hO : Row w B2 40 1 v n cells) (hg : w.grownBy w' row) (hr : ∀ k, row = some k → v.ownBlock = some k) : Rws w' B hs xss := by
  refine h.keep fun i x g hx hbk hlt => hg.block g hlt fun e => ?_
  obtain ⟨xs, _, hF⟩ := h.get hx
  have hv := hr g e.symm
  obtain ⟨g2, c2, cur2, rfl, _, hh2, _⟩ := hO.blk
  simp only [Value.ownBlock, Option.some.injEq] at hv
  subst hv
  obtain ⟨A, m, c⟩ := x
  have hF' : Fr w B 3 1 (.slice A m c) m (cI xs) := hF
  unfold blkC at hbk
  split at hbk
  · cases hbk
  · next hc =>
    rcases hF' with ⟨_, h1, _⟩ | hrow
    · simp only [Value.slice.injEq] at h1; exact hc h1.2.2
    · obtain ⟨g1, c1, cur1, h1, _, hh1, _⟩ := hrow.blk
      simp only [Value.slice.injEq] at h1
      obtain ⟨rfl, _, _⟩ := h1
      simp only [hv, Value.ownBlock, Option.some.injEq] at hbk
      subst hbk
      rw [hh1] at hh2
      simp only [Option.some.injEq, Obj.cells.injEq] at hh2
      exact absurd hh2.2.1 (by decide)

theorem one_hv (hs : List Hd) : ∀ u ∈ hs.map hv, u.oneCell' = true := by
  intro u hu; obtain ⟨x, _, rfl⟩ := List.mem_map.1 hu; rfl

end Go.Proofs.Ytbljkahdhckegaa
