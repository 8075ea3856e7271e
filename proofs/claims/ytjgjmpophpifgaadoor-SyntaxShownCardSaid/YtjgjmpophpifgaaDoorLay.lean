/- A world in which the listed tables lie. -/
import Derived.Test.YtjgjmpophpifgaaDoorRows
import Derived.WalkKit
import Derived.ProofKit
namespace Go.Proofs.YtjgjmpophpifgaaDoor
def vals1 : DataW Unit → List Value
  | .lit (.int k n) => [.int k n]
  | _ => []
def vals2 : DataW Unit → List Value
  | .agg ps => ps.flatMap vals1
  | _ => []
def vals3 : DataW Unit → List Value
  | .agg ps => ps.flatMap vals2
  | _ => []
def put (vs : List Value) (h : Array Obj) (b : Nat) : Array Obj := h.modify b fun
  | .cells _ t frozen => .cells vs.toArray t frozen
  | o => o
noncomputable def laidWorld (os : Os) : World :=
  { World.holding Tryd.prog os ⟨#[], #[], []⟩ with
    heap := put (vals3 (Rows.laid_unicode_utf8_acceptRanges (H := Unit))) (put (vals2 Rows.laid_unicode_utf8_first) (World.holding Tryd.prog os ⟨#[], #[], []⟩).heap 2) 3 }
end Go.Proofs.YtjgjmpophpifgaaDoor
