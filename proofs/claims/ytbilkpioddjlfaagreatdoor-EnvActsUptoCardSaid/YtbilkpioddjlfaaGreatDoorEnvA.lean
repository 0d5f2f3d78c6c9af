/- env.New: an object of its own, whose map is empty. No condition. -/
import Derived.Test.YtbilkpioddjlfaaGreatDoorBase
import Derived.Test.YtbilkpioddjlfaaGreatDoorProg
namespace Go.Proofs.YtbilkpioddjlfaaGreatDoor
open Go.RowKit
theorem new_calls (w : World) : Calls Tryz.prog 4 #[] w fun e w' => e = .returned (.pointer (some ⟨w.heap.size + 1, 0, none⟩)) ∧ w' = (w.alloc (.map #[] 0)).alloc (.cells #[.map (some w.heap.size)] 50) := by
  have hmm := @run_makeMap Tryz.prog
  go_enter Tryz.func4, Tryz.ntmps4
  go_wp2
  go_ret
  exact ⟨rfl, rfl⟩
#print axioms new_calls
end Go.Proofs.YtbilkpioddjlfaaGreatDoor
