/- env.New: an object of its own, whose map is empty. No condition. -/
import Derived.Test.YtbilkpioddjlfaaDoorBase
import Derived.Test.YtbilkpioddjlfaaDoorProg
namespace Go.Proofs.YtbilkpioddjlfaaDoor
open Go.RowKit
theorem new_calls (w : World) : Calls Tryd.prog 25 #[] w fun e w' => e = .returned (.pointer (some ⟨w.heap.size + 1, 0, none⟩)) ∧ w' = (w.alloc (.map #[] 0)).alloc (.cells #[.map (some w.heap.size)] 102) := by
  have hmm := @run_makeMap Tryd.prog
  go_enter Tryd.func25, Tryd.ntmps25
  go_wp2
  go_ret
  exact ⟨rfl, rfl⟩
#print axioms new_calls
end Go.Proofs.YtbilkpioddjlfaaDoor
