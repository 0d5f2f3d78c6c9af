/- env.right: a name may be, just if it has 1 to 64 bytes, all of them letters, digits or low lines. For every string. -/
import Derived.Test.YtbilkpioddjlfaaGreatDoorBase
import Derived.Test.YtbilkpioddjlfaaGreatDoorProg
import Derived.Laws.RangeAny
namespace Go.Proofs.YtbilkpioddjlfaaGreatDoor
open Go.RowKit

/-- A name's byte. -/
def nameN (n : Nat) : Bool := (97 ≤ n && n ≤ 122) || (65 ≤ n && n ≤ 90) || (48 ≤ n && n ≤ 57) || n == 95
def nameB (c : UInt8) : Bool := nameN c.toNat
/-- A name that may be. -/
def rightB (l : List UInt8) : Bool := l.all nameB && (0 < l.length && l.length ≤ 64)

theorem all_take_succ (s : ByteArray) (pos : Nat) (h : pos < s.size) (ha : (s.data.toList.take pos).all nameB = true) (hc : nameN (s[pos]'h).toNat = true) : (s.data.toList.take (pos + 1)).all nameB = true := by
  rw [List.take_succ_eq_append_getElem (by simpa using h), List.all_append, ha]
  simp only [List.all_cons, List.all_nil, nameB, Bool.and_true, Bool.true_and]
  exact hc
theorem not_right (s : ByteArray) (pos : Nat) (h : pos < s.size) (hc : nameN (s[pos]'h).toNat = false) : rightB s.data.toList = false := by
  have : s.data.toList.all nameB = false := by
    rw [List.all_eq_false]
    exact ⟨s[pos], by simp [ByteArray.getElem_eq_getElem_data], by simp [nameB, hc]⟩
  simp [rightB, this]
theorem ret_bool {a b : Bool} (h : a = b) : Ending.returned (.bool a) = .returned (.bool b) := by rw [h]
theorem right_end (s : ByteArray) (ha : (s.data.toList.take s.size).all nameB = true) : rightB s.data.toList = (decide (0 < s.size) && decide (s.size ≤ 64)) := by
  have e : s.data.toList.take s.size = s.data.toList := List.take_of_length_le (by simp)
  rw [e] at ha
  unfold rightB
  rw [ha]
  have : s.data.toList.length = s.size := by simp
  rw [this]
  simp

theorem right_close (s : ByteArray) : (!s.toList.isEmpty && decide ((s.size : Int) ≤ 64)) = (decide (0 < s.size) && decide (s.size ≤ 64)) := by
  have h1 : s.toList.isEmpty = decide (s.size = 0) := by
    rw [ByteArray.toList_eq, Bool.eq_iff_iff, List.isEmpty_iff_length_eq_zero]
    simp
  rw [h1]
  by_cases h : s.size = 0
  · simp [h]
  · have a1 : decide (s.size = 0) = false := decide_eq_false h
    have a2 : decide (0 < s.size) = true := decide_eq_true (by omega)
    rw [a1, a2]
    by_cases h2 : s.size ≤ 64
    · rw [decide_eq_true h2, decide_eq_true (by omega)]; rfl
    · rw [decide_eq_false h2, decide_eq_false (by omega)]; rfl
theorem right_close0 (s : ByteArray) (h : s.toList = []) : false = (decide (0 < s.size) && decide (s.size ≤ 64)) := by
  have e := right_close s
  rw [h] at e
  exact e
/-- The tests of a byte, as the code asks them. -/
theorem name_tests (n : Nat) :
    (decide ((97 : Int) ≤ n) = true ∧ decide ((n : Int) ≤ 122) = true ∧ nameN n = true) ∨
    (decide ((97 : Int) ≤ n) = true ∧ decide ((n : Int) ≤ 122) = false ∧ decide ((65 : Int) ≤ n) = true ∧ decide ((n : Int) ≤ 90) = false ∧ decide ((48 : Int) ≤ n) = true ∧ decide ((n : Int) ≤ 57) = false ∧ ((n : Int) == 95) = false ∧ nameN n = false) ∨
    (decide ((97 : Int) ≤ n) = false ∧ decide ((65 : Int) ≤ n) = true ∧ decide ((n : Int) ≤ 90) = true ∧ nameN n = true) ∨
    (decide ((97 : Int) ≤ n) = false ∧ decide ((65 : Int) ≤ n) = true ∧ decide ((n : Int) ≤ 90) = false ∧ decide ((48 : Int) ≤ n) = true ∧ decide ((n : Int) ≤ 57) = false ∧ ((n : Int) == 95) = true ∧ nameN n = true) ∨
    (decide ((97 : Int) ≤ n) = false ∧ decide ((65 : Int) ≤ n) = true ∧ decide ((n : Int) ≤ 90) = false ∧ decide ((48 : Int) ≤ n) = true ∧ decide ((n : Int) ≤ 57) = false ∧ ((n : Int) == 95) = false ∧ nameN n = false) ∨
    (decide ((97 : Int) ≤ n) = false ∧ decide ((65 : Int) ≤ n) = false ∧ decide ((48 : Int) ≤ n) = true ∧ decide ((n : Int) ≤ 57) = true ∧ nameN n = true) ∨
    (decide ((97 : Int) ≤ n) = false ∧ decide ((65 : Int) ≤ n) = false ∧ decide ((48 : Int) ≤ n) = true ∧ decide ((n : Int) ≤ 57) = false ∧ ((n : Int) == 95) = false ∧ nameN n = false) ∨
    (decide ((97 : Int) ≤ n) = false ∧ decide ((65 : Int) ≤ n) = false ∧ decide ((48 : Int) ≤ n) = false ∧ ((n : Int) == 95) = false ∧ nameN n = false) := by
  simp only [decide_eq_true_eq, decide_eq_false_iff_not, beq_iff_eq, beq_eq_false_iff_ne, nameN, Bool.or_eq_true, Bool.and_eq_true, Bool.or_eq_false_iff, Bool.and_eq_false_iff, ne_eq]
  omega

set_option maxRecDepth 100000 in
set_option maxHeartbeats 1000000 in
theorem right_calls (s : ByteArray) (w : World) (hs : s.size ≤ maxLen) :
    Calls Tryz.prog 16 #[.string s] w fun e w' => e = .returned (.bool (rightB s.data.toList)) ∧ ∃ pos, w' = w.iter s pos := by
  unfold maxLen at hs
  go_enter Tryz.func16, Tryz.ntmps16
  go_wp2
  go_loopw [4] (fun _ w' => ∃ pos : Nat, w' = w.iter s pos ∧ pos ≤ s.size ∧ Hid ((s.data.toList.take pos).all nameB = true)) (fun _ w' => s.size - w'.iterPos w.heap.size)
  case atStart => exact ⟨0, rfl, by omega, by simp [Hid]⟩
  case round =>
    obtain ⟨pos, rfl, hle, HA⟩ := hrel
    by_cases hp : pos < s.size
    · have hq : ∃ r q : Nat, Utf8.decode s pos = (r, q) ∧ (nameN r = true → q = 1 ∧ r = (s[pos]'hp).toNat) ∧ (nameN r = false → nameN (s[pos]'hp).toNat = false) := by
        by_cases ha : (s[pos]'hp).toNat < 128
        · exact ⟨_, _, decode_ascii s pos hp ha, fun _ => ⟨rfl, rfl⟩, fun h => h⟩
        · have hr := (decode_high s pos hp (by omega)).1
          rcases hdd : Utf8.decode s pos with ⟨r, q⟩
          rw [hdd] at hr
          exact ⟨r, q, rfl, fun h => by simp [nameN] at h hr; omega, fun _ => by simp [nameN]; omega⟩
      obtain ⟨r, q, hd, h1, h2⟩ := hq
      have HS : Hid (nameN r = true → q = 1 ∧ (s.data.toList.take (pos + 1)).all nameB = true) := fun hc => ⟨(h1 hc).1, all_take_succ s pos hp HA.out (by rw [← (h1 hc).2]; exact hc)⟩
      have HN : Hid (nameN r = false → rightB s.data.toList = false) := fun hc => not_right s pos hp (h2 hc)
      have hnx : ∀ ty, (Instr.next (.pointer (some ⟨w.heap.size, 0, none⟩)) true ty).run Tryz.prog (w.iter s pos) = .ok (.tuple #[.bool true, .int .i64 pos, .int .i32 r]) (w.iter s (pos + q)) := fun ty => by rw [run_next_any w s pos ty hp, hd]
      clear hd HA h1 h2
      rcases name_tests r with ⟨b1, b2, hc⟩ | ⟨b1, b2, b3, b4, b5, b6, b7, hc⟩ | ⟨b1, b3, b4, hc⟩ | ⟨b1, b3, b4, b5, b6, b7, hc⟩ | ⟨b1, b3, b4, b5, b6, b7, hc⟩ | ⟨b1, b3, b5, b6, hc⟩ | ⟨b1, b3, b5, b6, b7, hc⟩ | ⟨b1, b3, b5, b7, hc⟩
      all_goals
        have HC := Lib.hid hc
        clear hc
        go_wp2
        first
          | (go_ret; exact ⟨ret_bool (HN.out HC.out).symm, _, rfl⟩)
          | (obtain ⟨rfl, hA⟩ := HS.out HC.out
             go_roundw
             case rel => exact ⟨pos + 1, rfl, by omega, hA⟩
             case measure => simp; omega)
    · have hnx : ∀ ty, (Instr.next (.pointer (some ⟨w.heap.size, 0, none⟩)) true ty).run Tryz.prog (w.iter s pos) = _ := fun ty => run_next_end w s pos ty hp
      have hpe : pos = s.size := by omega
      subst hpe
      have HR : Hid (rightB s.data.toList = (decide (0 < s.size) && decide (s.size ≤ 64))) := right_end s HA.out
      clear HA
      go_wp2
      all_goals
        go_ret
        exact ⟨ret_bool (by rw [HR.out]; first | exact right_close s | exact right_close0 s (by assumption)), _, rfl⟩
#print axioms right_calls
end Go.Proofs.YtbilkpioddjlfaaGreatDoor
