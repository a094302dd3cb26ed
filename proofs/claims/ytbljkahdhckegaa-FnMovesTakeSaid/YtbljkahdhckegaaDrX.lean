/-
  What the reference draws for the laws about graphs.
-/
import Derived.Test.YtbljkahdhckegaaDrG
import Derived.OpenShut
namespace Go.Proofs.Ytbljkahdhckegaa
open Go.RowKit

theorem bytes_of {zs : List Int} (h : ∀ z ∈ zs, (Lit.int .u8 z).wf = true) : ∃ bs : List UInt8, zs.map (Value.int .u8) = cU bs := by
  refine ⟨zs.map fun z => UInt8.ofNat z.toNat, ?_⟩
  unfold cU
  rw [List.map_map]
  refine List.map_congr_left fun z hz => ?_
  have h1 := h z hz
  have h2 := bounds_u8 h1
  show Value.int .u8 z = Value.int .u8 ((UInt8.ofNat z.toNat).toNat : Int)
  rw [UInt8.toNat_ofNat']
  congr 1
  omega




end Go.Proofs.Ytbljkahdhckegaa
