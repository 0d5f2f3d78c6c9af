/- cuecardlaw16.alive returns true, in whatever memory, and leaves what was there. No condition. -/
import Derived.Test.YtbilkpioddjlfaaGreatDoorEnvW
import Derived.Test.YtbilkpioddjlfaaGreatDoorEnvA
import Derived.Test.YtbilkpioddjlfaaGreatDoorNumB
namespace Go.Proofs.YtbilkpioddjlfaaGreatDoor
open Go.RowKit Go.Maps

theorem number_m7 (w : World) : Calls Tryz.prog 15 #[.string ⟨#[45, 55]⟩, .int .i64 (-9), .int .i64 9] w fun e w' => e = .returned (.tuple #[.int .i64 (-7), .int .i64 0]) ∧ Chg w w' NoB := by
  refine (number_calls ⟨#[45, 55]⟩ (-9) 9 w (by decide)).mono ?_
  rintro e w' ⟨rfl, h⟩
  have : numV [45, 55] (-9) 9 = (-7, 0) := by decide
  exact ⟨by show Ending.returned (.tuple #[.int .i64 (numV [45, 55] (-9) 9).1, .int .i64 (numV [45, 55] (-9) 9).2]) = _; rw [this], h⟩
theorem number_07 (w : World) : Calls Tryz.prog 15 #[.string ⟨#[48, 55]⟩, .int .i64 (-9), .int .i64 9] w fun e w' => e = .returned (.tuple #[.int .i64 0, .int .i64 4]) ∧ Chg w w' NoB := by
  refine (number_calls ⟨#[48, 55]⟩ (-9) 9 w (by decide)).mono ?_
  rintro e w' ⟨rfl, h⟩
  have : numV [48, 55] (-9) 9 = (0, 4) := by decide
  exact ⟨by show Ending.returned (.tuple #[.int .i64 (numV [48, 55] (-9) 9).1, .int .i64 (numV [48, 55] (-9) 9).2]) = _; rw [this], h⟩
theorem set_x5 (p b : Nat) (w : World) (h : EnvAt w p b []) : Calls Tryz.prog 7 #[.pointer (some ⟨p, 0, none⟩), .string ⟨#[120]⟩, .string ⟨#[53]⟩] w fun e w' => e = .returned (.int .i64 0) ∧ EnvAt w' p b [([120], [53])] ∧ Chg w w' (fun k => k = b) := by
  refine (set_calls p b [] ⟨#[120]⟩ ⟨#[53]⟩ w h (by decide) (by decide) (by decide)).mono ?_
  rintro e w' ⟨rfl, h1, h2⟩
  have e1 : setE [] [120] [53] = 0 := by decide
  have e2 : setM [] [120] [53] = [([120], [53])] := by decide
  exact ⟨by show Ending.returned (.int .i64 (setE [] [120] [53])) = _; rw [e1], by rw [← e2]; exact h1, h2⟩

def aliveParts : List PartV := [(false, ⟨#[97]⟩), (true, ⟨#[120]⟩), (false, ⟨#[45]⟩), (true, ⟨#[120]⟩)]
theorem word_alive (p b : Nat) (w : World) (h : EnvAt w p b [([120], [53])]) :
    Calls Tryz.prog 11 #[.pointer (some ⟨p, 0, none⟩), .agg #[.int .i64 0, .int .i64 0, .slice (some ⟨w.heap.size, 0, none⟩) 4 4]] (w.alloc (.cells #[.bool false, .string ⟨#[97]⟩, .bool true, .string ⟨#[120]⟩, .bool false, .string ⟨#[45]⟩, .bool true, .string ⟨#[120]⟩] 52))
      fun e w' => e = .returned (.tuple #[.string ⟨#[97, 53, 45, 53]⟩, .int .i64 0]) ∧ Chg (w.alloc (.cells #[.bool false, .string ⟨#[97]⟩, .bool true, .string ⟨#[120]⟩, .bool false, .string ⟨#[45]⟩, .bool true, .string ⟨#[120]⟩] 52)) w' NoB := by
  refine (word_calls p b [([120], [53])] (fun _ => True) 0 0 _ aliveParts _ (h.alloc _) ?_ (by decide) (by decide) (by decide)).mono ?_
  · refine ⟨rfl, _, _, rfl, by decide, fun _ => ⟨w.heap.size, 0, rfl, trivial, by simp, fun j hj => ?_⟩⟩
    have hj' : j < 8 := hj
    rw [Nat.zero_add]
    match j, hj' with
    | 0, _ | 1, _ | 2, _ | 3, _ | 4, _ | 5, _ | 6, _ | 7, _ => simp [aliveParts, partsC, partC]
  · rintro e w' ⟨rfl, hc⟩
    have e1 : wordV [([120], [53])] aliveParts = ([97, 53, 45, 53], 0) := by decide
    exact ⟨by rw [e1]; rfl, hc⟩

set_option maxRecDepth 100000 in
theorem envAlive_calls (w : World) : Calls Tryz.prog 5 #[] w fun e w' => e = .returned (.bool true) ∧ Chg w w' NoB := by
  have HA := Lib.hid (EnvAt.made w)
  go_enter Tryz.func5, Tryz.ntmps5
  have hc0 : Hid (Chg w ((w.alloc (.map #[] 0)).alloc (.cells #[.map (some w.heap.size)] 50)) NoB) := ((Chg.refl _ _).alloc _).alloc _
  go_wp2_with (go_at_call 4; refine (new_calls _).mono ?_; rintro e w1 ⟨rfl, rfl⟩)
  refine (set_x5 _ _ _ HA.out).mono ?_
  rintro e w2 ⟨rfl, he2, hc2⟩
  have HE2 := Lib.hid he2
  have HC2 : Hid (Chg w w2 NoB) := hc0.out.trans hc2 (fun k hk e => by omega)
  clear he2 hc2 HA hc0
  go_wp2_with (first | (go_at_call 11; refine (calls_since (w0 := w) (word_alive _ _ w2 HE2.out) (HC2.out.alloc _)).mono ?_; rintro e w3 ⟨rfl, hc3⟩) | (go_at_call 15; (with_reducible refine (calls_since (w0 := w) (number_m7 _) (by assumption)).mono ?_); rintro e w3 ⟨rfl, hc3⟩) | (go_at_call 15; (with_reducible refine (calls_since (w0 := w) (number_07 _) (by assumption)).mono ?_); rintro e w3 ⟨rfl, hc3⟩))
  go_ret
  exact ⟨rfl, by assumption⟩
#print axioms envAlive_calls
end Go.Proofs.YtbilkpioddjlfaaGreatDoor
