/-
  Structs of numbers that lie in a place of their own.
-/
import Derived.Test.YteahiiflgiimnaaBase
namespace Go.Proofs.Yteahiiflgiimnaa
open Go.RowKit

structure CapAt (w : World) (p : Nat) (k o r b : Int) : Prop where
  c0 : w.cell? ⟨p, 0, none⟩ = some (.int .i64 k)
  c1 : w.cell? ⟨p, 1, none⟩ = some (.int .i64 o)
  c2 : w.cell? ⟨p, 2, none⟩ = some (.int .i64 r)
  c3 : w.cell? ⟨p, 3, none⟩ = some (.int .i64 b)
theorem CapAt.below {w w' : World} {p : Nat} {k o r b : Int} (h : CapAt w p k o r b) (hb : Below w.heap.size w w') : CapAt w' p k o r b :=
  ⟨kept_of_below hb _ _ h.c0, kept_of_below hb _ _ h.c1, kept_of_below hb _ _ h.c2, kept_of_below hb _ _ h.c3⟩
theorem CapAt.new (w : World) (e : Nat) (k o r b : Int) : CapAt (w.alloc (.cells #[.int .i64 k, .int .i64 o, .int .i64 r, .int .i64 b] e)) w.heap.size k o r b :=
  ⟨by rw [World.cell?_alloc_new]; rfl, by rw [World.cell?_alloc_new]; rfl, by rw [World.cell?_alloc_new]; rfl, by rw [World.cell?_alloc_new]; rfl⟩
structure FtAt (w : World) (p : Nat) (k a n : Int) : Prop where
  c0 : w.cell? ⟨p, 0, none⟩ = some (.int .i64 k)
  c1 : w.cell? ⟨p, 1, none⟩ = some (.int .i64 a)
  c2 : w.cell? ⟨p, 2, none⟩ = some (.int .i64 n)
theorem FtAt.below {w w' : World} {p : Nat} {k a n : Int} (h : FtAt w p k a n) (hb : Below w.heap.size w w') : FtAt w' p k a n :=
  ⟨kept_of_below hb _ _ h.c0, kept_of_below hb _ _ h.c1, kept_of_below hb _ _ h.c2⟩
theorem FtAt.new (w : World) (e : Nat) (k a n : Int) : FtAt (w.alloc (.cells #[.int .i64 k, .int .i64 a, .int .i64 n] e)) w.heap.size k a n :=
  ⟨by rw [World.cell?_alloc_new]; rfl, by rw [World.cell?_alloc_new]; rfl, by rw [World.cell?_alloc_new]; rfl⟩
end Go.Proofs.Yteahiiflgiimnaa
