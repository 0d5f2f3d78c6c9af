/- []byte and string: a slice of bytes that is read, as a string; a string as bytes. No condition. -/
import Derived.Test.YtbilkpioddjlfaaDoorBld
import Derived.Laws.IdiomStrings
import Derived.Lib.BufferRead
import Derived.Lib.ConvBytes
namespace Go.Proofs.YtbilkpioddjlfaaDoor
open Go.RowKit

/-- string(b). -/
theorem conv_string {w : World} {F : Nat → Prop} {v : Value} {l : List UInt8} (h : RdRow w F 1 l.length v (bcells l)) : (convert 38 9 v).run Tryd.prog w = .ok (.string (str l)) w := by
  rcases h.opened with ⟨h0, hc, A, c, rfl⟩ | ⟨hn, b, off, c, rfl, hle, hF, hlt, hcell⟩
  · have hl : l = [] := List.eq_nil_of_length_eq_zero h0
    subst hl
    cases A with
    | none => exact Lib.run_convert_nil_bytes w 38 9 5 c Tryd.underlying38 Tryd.underlying5 Tryd.underlying9
    | some a => exact run_convert_bytes_back w 38 9 5 a c [] Tryd.underlying38 Tryd.underlying5 Tryd.underlying9 (fun j hj => absurd hj (by simp))
  · refine run_convert_bytes_back w 38 9 5 ⟨b, off, none⟩ c l Tryd.underlying38 Tryd.underlying5 Tryd.underlying9 (fun j hj => ?_)
    have := hcell j (by omega)
    have e : (⟨b, off, none⟩ : Addr).add j = ⟨b, off + j, none⟩ := by
      unfold Addr.add
      by_cases h0 : j = 0 <;> simp [h0]
    rw [e, this]
    simp [bcells, hj]
/-- A new row of one byte, as a string. -/
theorem conv_one (w : World) (c : UInt8) (z : Int) (hz : z = c.toNat) : (convert 38 9 (.slice (some ⟨w.heap.size, 0, none⟩) 1 1)).run Tryd.prog (w.alloc (.cells #[.int .u8 z] 5)) = .ok (.string (str [c])) (w.alloc (.cells #[.int .u8 z] 5)) := by
  subst hz
  exact conv_string (F := fun _ => True) (l := [c]) ⟨rfl, _, _, rfl, Nat.le_refl _, fun _ => ⟨w.heap.size, 0, rfl, trivial, by simp, fun j hj => by
    match j, hj with
    | 0, _ => simp [bcells]⟩⟩
#print axioms conv_one
end Go.Proofs.YtbilkpioddjlfaaDoor
