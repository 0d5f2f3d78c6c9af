/- cuecardlaw16.EnvNone returns true, whatever the name and the word. No condition. -/
import Derived.Test.YtbilkpioddjlfaaDoorEnvL
import Derived.Test.YtbilkpioddjlfaaDoorNames
namespace Go.Proofs.YtbilkpioddjlfaaDoor
open Go.RowKit Go.Maps

theorem get_nil (name : ByteArray) (w : World) : Calls Tryd.prog 21 #[.pointer none, .string name] w fun e w' => e = .returned (.tuple #[.string ⟨#[]⟩, .bool false]) ∧ w = w' := by
  go_enter Tryd.func21, Tryd.ntmps21
  go_wp2
  go_ret2
  exact ⟨rfl, rfl⟩
theorem set_nil (name value : ByteArray) (w : World) : Calls Tryd.prog 23 #[.pointer none, .string name, .string value] w fun e w' => e = .returned (.int .i64 1) ∧ w = w' := by
  go_enter Tryd.func23, Tryd.ntmps23
  go_wp2
  go_ret
  exact ⟨rfl, rfl⟩
theorem word_nil (ats kd : Int) (A : Option Addr) (n c : Nat) (w : World) : Calls Tryd.prog 22 #[.pointer none, .agg #[.int .i64 ats, .int .i64 kd, .slice A n c]] w fun e w' => e = .returned (.tuple #[.string ⟨#[]⟩, .int .i64 1]) ∧ Chg w w' NoB := by
  go_enter Tryd.func22, Tryd.ntmps22
  go_wp2
  go_ret2
  exact ⟨rfl, (Chg.refl _ _).alloc _⟩
#print axioms word_nil

set_option maxRecDepth 100000 in
set_option maxHeartbeats 1000000 in
theorem none_all (name : ByteArray) (ats kd : Int) (A : Option Addr) (n c : Nat) (w : World) :
    Calls Tryd.prog 6 #[.string name, .agg #[.int .i64 ats, .int .i64 kd, .slice A n c]] w fun e w' => e = .returned (.bool true) ∧ Chg w w' NoB := by
  go_enter Tryd.func6, Tryd.ntmps6
  have hc0 : Hid (Chg w (w.alloc (.cells #[.int .i64 ats, .int .i64 kd, .slice A n c] 50)) NoB) := (Chg.refl _ _).alloc _
  have hcell : ∀ w1, Chg (w.alloc (.cells #[.int .i64 ats, .int .i64 kd, .slice A n c] 50)) w1 NoB → w1.cell? ⟨w.heap.size, 0, none⟩ = some (.int .i64 ats) ∧ w1.cell? ⟨w.heap.size, 1, none⟩ = some (.int .i64 kd) ∧ w1.cell? ⟨w.heap.size, 2, none⟩ = some (.slice A n c) := fun w1 h =>
    ⟨(h.cell (p := ⟨w.heap.size, 0, none⟩) (by simp) (fun f => f)).trans (by simp), (h.cell (p := ⟨w.heap.size, 1, none⟩) (by simp) (fun f => f)).trans (by simp), (h.cell (p := ⟨w.heap.size, 2, none⟩) (by simp) (fun f => f)).trans (by simp)⟩
  have HC := Lib.hid hcell
  clear hcell
  go_wp2_with (first | (go_at_call 20; refine (envAlive_calls _).mono ?_; rintro e w1 ⟨rfl, hc1⟩; obtain ⟨h0, h1, h2⟩ := HC.out w1 hc1; have H1 : Hid (Chg w w1 NoB) := hc0.out.trans hc1 (fun _ _ f => f); clear hc1) | (go_at_call 21; refine (get_nil _ _).mono ?_; rintro e w2 ⟨rfl, rfl⟩) | (go_at_call 22; refine (calls_since (w0 := w) (word_nil _ _ _ _ _ _) H1.out).mono ?_; rintro e w3 ⟨rfl, hc3⟩) | (go_at_call 23; refine (set_nil _ _ _).mono ?_; rintro e w2 ⟨rfl, rfl⟩))
  refine (names_nil _).mono ?_
  rintro e w4 ⟨v, rfl, hr, hc4⟩
  obtain ⟨A', c', rfl⟩ : ∃ A' c', v = .slice A' 0 c' := by
    rcases (RdRow.ofOwn (F := fun _ => True) hr (by decide) (fun _ _ => trivial)).where_ with ⟨_, A, c, rfl⟩ | ⟨h, _⟩
    · exact ⟨_, _, rfl⟩
    · omega
  have hc5 : Chg w w4 NoB := hc3.trans hc4 (fun _ _ f => f)
  go_wp2
  go_ret
  exact ⟨rfl, hc5⟩
#print axioms none_all
end Go.Proofs.YtbilkpioddjlfaaDoor
