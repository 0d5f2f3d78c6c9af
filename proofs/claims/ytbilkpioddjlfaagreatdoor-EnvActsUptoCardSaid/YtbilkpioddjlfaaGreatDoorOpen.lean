/- A law's arguments, opened: an api.Word, a slice of api.Part, as data; what a parameter's datum tells of the value. No condition. -/
import Derived.Test.YtbilkpioddjlfaaGreatDoorEnvW
import Derived.Lib.SmallJoins
import Derived.Deep.Slices
import Derived.Deep.Fields
import Derived.ChangeSame
import Derived.OpenShut
import Derived.Carry
namespace Go.Proofs.YtbilkpioddjlfaaGreatDoor
open Go Go.RowKit Go.ChangeShapes Go.WideShapes Go.Deep Go.Joins

theorem laidOut : laidOutB Tryz.prog = true := by kernel_rfl
section
variable {H : Type} {enc : TypeId × Value → H} {w : World} {base : Nat} {spare : Nat → Bool} {held : Bool}
theorem slice_form' {t e : TypeId} {fuel : Nat} {cs : List Value} {x : DataW H × List MemPlace} (ht : Tryz.prog.underlying t = some (.slice e)) (h : DataW.trod enc Tryz.prog w base spare held fuel t cs = some x) : ∃ A n c, cs = [.slice A n c] := by
  rcases open_slice ht h with ⟨h0, _⟩ | ⟨a, len, cap, m, n, D, Pl, hcs, _⟩
  · exact ⟨_, _, _, h0⟩
  · exact ⟨_, _, _, hcs⟩
set_option maxRecDepth 100000 in
/-- An api.Word. -/
theorem open_word {r : Reach} {b0 : Nat} {v : Value} {d : DataW H} {p : List MemPlace} (hv : Value.okWide Tryz.prog w r b0 33 v) (h : DataW.Trod enc Tryz.prog w base spare held 33 v d p) :
    ∃ ats kd A n c, v = .agg #[.int .i64 ats, .int .i64 kd, .slice A n c] := by
  obtain ⟨v0, v1, v2, y0, y1, y2, n, rfl, rfl, rfl, h0, h1, h2⟩ := open_agg3 Tryz.underlying33 (by kernel_rfl) (by kernel_rfl) hv h
  obtain ⟨a, ha, -, -⟩ := DataW.trod_int Tryz.underlying3 h0
  obtain ⟨k, hk, -, -⟩ := DataW.trod_int Tryz.underlying3 h1
  obtain ⟨A, m, c, hc⟩ := slice_form' Tryz.underlying31 h2
  cases ha; cases hk; cases hc
  exact ⟨_, _, _, _, _, rfl⟩
#print axioms open_word
end
end Go.Proofs.YtbilkpioddjlfaaGreatDoor
