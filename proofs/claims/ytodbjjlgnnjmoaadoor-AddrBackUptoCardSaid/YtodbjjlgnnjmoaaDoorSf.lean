/- AddrBack: what the walks share. -/
import Derived.Test.YtodbjjlgnnjmoaaDoorAu
import Derived.Test.YtodbjjlgnnjmoaaDoorRg
namespace Go.Proofs.YtodbjjlgnnjmoaaDoor
open Go.RowKit
theorem NS.start1 {w : World} {m : Int} (he : Env m w) (v : Int) (b : Nat → Int) : NS w m [(w.heap.size, v, b)] (w.alloc (adrO v b)) :=
  ⟨fun r hr => by
    obtain rfl : r = (w.heap.size, v, b) := by simpa using hr
    exact HB.new w (ac v b) 25, he.b ((Below.rfl' w).al _), (Below.rfl' w).al _⟩
end Go.Proofs.YtodbjjlgnnjmoaaDoor
