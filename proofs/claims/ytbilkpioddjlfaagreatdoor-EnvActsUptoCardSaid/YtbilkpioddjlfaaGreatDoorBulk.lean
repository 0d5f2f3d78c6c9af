/- What the bound of the second form gives: a part's text is short. Plain laws. No condition. -/
import Derived.Test.YtbilkpioddjlfaaGreatDoorRows
namespace Go.Proofs.YtbilkpioddjlfaaGreatDoor
open Go

theorem bulk_mem {H : Type} {d : DataW H} {l : List (DataW H)} (h : d ∈ l) : Rows.uptoBulk d ≤ Rows.uptoBulkAll l := by
  induction l with
  | nil => cases h
  | cons x r ih =>
    simp only [Rows.uptoBulkAll]
    rcases List.mem_cons.1 h with e | e
    · subst e; omega
    · have := ih e; omega
theorem bulk_text {H : Type} {ds : List (DataW H)} (hk : Rows.uptoSmall H ds = true) {d dx : DataW H} {els sp : List (DataW H)} {b : Bool} {s : List UInt8} (hd : d ∈ ds) (e : d = .slice els sp) (hx : dx ∈ els) (ex : dx = .agg [.lit (.bool b), .lit (.string s)]) : s.length ≤ 1048576 := by
  have h0 : Rows.uptoBulkAll ds ≤ 1048576 := of_decide_eq_true hk
  have h1 := bulk_mem hd
  have h2 := bulk_mem hx
  subst e; subst ex
  simp only [Rows.uptoBulk, Rows.uptoBulkAll] at h1 h2
  omega
#print axioms bulk_text
end Go.Proofs.YtbilkpioddjlfaaGreatDoor
