/-
  The tables stand as long as nothing below the heap's end is turned.
-/
import Derived.Test.YtgjfedaoffgiaaaGreatDoorE33
import Derived.Lib.Hide
namespace Go.Eng.Tryz
open Go.Proofs Go.RowKit
theorem Tabs.below {w w' : World} (t : Tabs w) (h : Below w.heap.size w w') : Tabs w' := by
  have q : ∀ {g : Nat} {zs : List Int}, (∃ ty fz, w.heap[g]? = some (.cells (zs.map (Value.int .u8)).toArray ty fz)) → ∃ ty fz, w'.heap[g]? = some (.cells (zs.map (Value.int .u8)).toArray ty fz) := by
    intro g zs ⟨ty, fz, e⟩
    exact ⟨ty, fz, by rw [h.block g (Array.getElem?_eq_some_iff.1 e).1]; exact e⟩
  exact ⟨q t.space, q t.first, q t.accept⟩
end Go.Eng.Tryz
