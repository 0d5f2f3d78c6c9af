/- cuecardref16's Right, at, Get: whether a name may be, where a variable stands, its value. Condition: a name is no longer than texts may be. -/
import Derived.Test.YtbilkpioddjlfaaGreatDoorRefA
namespace Go.Proofs.YtbilkpioddjlfaaGreatDoor
open Go.RowKit

theorem refName_calls (n : Nat) (w : World) : Calls Tryz.prog 26 #[.int .u8 n] w fun e w' => e = .returned (.bool (nameN n)) ∧ w = w' := by
  rcases name_tests n with ⟨b1, b2, hc⟩ | ⟨b1, b2, b3, b4, b5, b6, b7, hc⟩ | ⟨b1, b3, b4, hc⟩ | ⟨b1, b3, b4, b5, b6, b7, hc⟩ | ⟨b1, b3, b4, b5, b6, b7, hc⟩ | ⟨b1, b3, b5, b6, hc⟩ | ⟨b1, b3, b5, b6, b7, hc⟩ | ⟨b1, b3, b5, b7, hc⟩
  all_goals
    rw [hc]
    clear hc
    simp only [decide_eq_true_eq, decide_eq_false_iff_not, beq_iff_eq, beq_eq_false_iff_ne, Int.not_le] at *
    go_enter Tryz.func26, Tryz.ntmps26
    go_wp2
    all_goals first | omega | (go_ret; exact ⟨by first | rfl | (congr 2; simp <;> omega), rfl⟩)

set_option maxRecDepth 100000 in
theorem refRight_calls (s : ByteArray) (w : World) (hs : s.size ≤ maxLen) :
    Calls Tryz.prog 17 #[.string s] w fun e w' => e = .returned (.bool (rightB s.data.toList)) ∧ w = w' := by
  unfold maxLen at hs
  go_enter Tryz.func17, Tryz.ntmps17
  go_wp2
  go_loop [3] (fun i => ∃ k : Nat, i = .int .i64 k ∧ k ≤ s.size ∧ Hid ((s.data.toList.take k).all nameB = true)) (fun i => s.size - (intOf i).toNat)
  case atStart => exact ⟨0, rfl, Nat.zero_le _, rfl⟩
  case round =>
    obtain ⟨k, rfl, hk, HA⟩ := hrel
    by_cases hlt : k < s.size
    · cases hn : nameN (s[k]'hlt).toNat
      · have HR := Lib.hid (not_right s k hlt hn)
        have HN := Lib.hid hn
        clear hn
        go_wp2_with (go_at_call 26; refine (refName_calls _ _).mono ?_; rw [HN.out]; rintro e w' ⟨rfl, rfl⟩)
        go_ret
        exact ⟨ret_bool HR.out.symm, rfl⟩
      · have HT := Lib.hid (all_take_succ s k hlt HA.out hn)
        have HN := Lib.hid hn
        clear hn
        go_wp2_with (go_at_call 26; refine (refName_calls _ _).mono ?_; rw [HN.out]; rintro e w' ⟨rfl, rfl⟩)
        go_round
        case rel => exact ⟨k + 1, rfl, hlt, HT⟩
        case measure => simp only [intOf]; omega
    · obtain rfl : k = s.size := by omega
      have HR : Hid (rightB s.data.toList = (decide (0 < s.size) && decide (s.size ≤ 64))) := right_end s HA.out
      clear HA hlt hk
      by_cases h1 : 1 ≤ s.size
      · by_cases h2 : s.size ≤ 64
        · go_wp2
          go_ret
          exact ⟨ret_bool (by rw [HR.out]; first | (rw [decide_eq_true (show 0 < s.size by omega), Bool.true_and]; exact decide_eq_decide.mpr (by omega)) | (rw [decide_eq_false (show ¬ 0 < s.size by omega)]; rfl)), rfl⟩
        · go_wp2
          go_ret
          exact ⟨ret_bool (by rw [HR.out]; first | (rw [decide_eq_true (show 0 < s.size by omega), Bool.true_and]; exact decide_eq_decide.mpr (by omega)) | (rw [decide_eq_false (show ¬ 0 < s.size by omega)]; rfl)), rfl⟩
      · go_wp2
        go_ret
        exact ⟨ret_bool (by rw [HR.out]; first | (rw [decide_eq_true (show 0 < s.size by omega), Bool.true_and]; exact decide_eq_decide.mpr (by omega)) | (rw [decide_eq_false (show ¬ 0 < s.size by omega)]; rfl)), rfl⟩

theorem str_toList (l : List UInt8) : (str l).toList = l := by rw [ByteArray.toList_eq, data_str]
def atV (m : Vars) (k : List UInt8) : Int := match idxV m k with | none => -1 | some i => i

set_option maxRecDepth 100000 in
theorem refAt_calls (p : Nat) (F : Nat → Prop) (v : Value) (m : Vars) (name : ByteArray) (w : World) (hc : w.cell? ⟨p, 0, none⟩ = some v) (hr : RdRow w F 2 m.length v (varsC m)) (hl : m.length ≤ 1000000) :
    Calls Tryz.prog 18 #[.pointer (some ⟨p, 0, none⟩), .string name] w fun e w' => e = .returned (.int .i64 (atV m name.data.toList)) ∧ w = w' := by
  have HR := Lib.hid hr
  obtain ⟨A, c, rfl, hA⟩ : ∃ A c, v = .slice A m.length c ∧ (m.length = 0 ∨ ∃ bb off, A = some ⟨bb, off, none⟩) := by
    rcases hr.where_ with ⟨h0, A, c, rfl⟩ | ⟨_, bb, off, c, rfl⟩
    · exact ⟨A, c, rfl, .inl h0⟩
    · exact ⟨_, c, rfl, .inr ⟨bb, off, rfl⟩⟩
  clear hr
  go_enter Tryz.func18, Tryz.ntmps18
  go_wp2
  go_loop [5] (fun i => ∃ k : Nat, i = .int .i64 k ∧ k ≤ m.length ∧ Hid (∀ j (hj : j < k) (hm : j < m.length), m[j].1 ≠ name.data.toList)) (fun i => m.length - (intOf i).toNat)
  case atStart => exact ⟨0, rfl, Nat.zero_le _, fun j hj => absurd hj (Nat.not_lt_zero _)⟩
  case round =>
    obtain ⟨k, rfl, hk, HA⟩ := hrel
    by_cases hlt : k < m.length
    · obtain ⟨bb, off, rfl⟩ : ∃ bb off, A = some ⟨bb, off, none⟩ := by
        rcases hA with h0 | h
        · omega
        · exact h
      obtain ⟨_, hbb, hcells⟩ := HR.out.at_ (by omega)
      have hg := varsC_get m k hlt
      have hc0 : w.cell? ⟨bb, off + k * 2, none⟩ = some (.string (str m[k].1)) := (hcells _ (by omega)).trans hg.1
      have HI : Hid (m[k].1 = name.data.toList → atV m name.data.toList = k) := fun h => by unfold atV; rw [idxV_some hlt (fun j hj => HA.out j hj (by omega)) h]
      have HS : Hid (m[k].1 = (str m[k].1).toList) := (str_toList _).symm
      have HN : Hid (name.toList = name.data.toList) := ByteArray.toList_eq _
      clear hg hcells
      have HNX : Hid (m[k].1 ≠ name.data.toList → ∀ j (hj : j < k + 1) (hm : j < m.length), m[j].1 ≠ name.data.toList) := fun h j hj hm => by
        by_cases e : j = k
        · subst e; exact h
        · exact HA.out j (by omega) hm
      generalize m[k].1 = x at *
      generalize hsx : str x = sx at *
      clear hsx
      by_cases hx : sx.toList = name.toList
      · go_wp2
        go_ret
        exact ⟨by rw [HI.out (HS.out.trans (hx.trans HN.out))]; rfl, rfl⟩
      · have hx' : (sx.toList == name.toList) = false := by simpa using hx
        go_wp2
        go_round
        case rel => exact ⟨k + 1, rfl, hlt, HNX.out (fun h => hx (HS.out.symm.trans (h.trans HN.out.symm)))⟩
        case measure => simp only [intOf]; omega
    · have HI : Hid (atV m name.data.toList = -1) := by
        show atV _ _ = _; unfold atV; rw [idxV_none (fun j hj => HA.out j (by omega) hj)]
      go_wp2
      go_ret
      exact ⟨by rw [HI.out]; rfl, rfl⟩

def RefGetPost (m : Vars) (name : List UInt8) (w : World) (e : Ending) (w' : World) : Prop := e = .returned (.tuple #[.string (str ((getV m name).getD [])), .bool (getV m name).isSome]) ∧ w = w'
set_option maxRecDepth 100000 in
theorem refGet_calls (p : Nat) (F : Nat → Prop) (v : Value) (m : Vars) (name : ByteArray) (w : World) (hc : w.cell? ⟨p, 0, none⟩ = some v) (hr : RdRow w F 2 m.length v (varsC m)) (hl : m.length ≤ 1000000) :
    Calls Tryz.prog 10 #[.pointer (some ⟨p, 0, none⟩), .string name] w (RefGetPost m name.data.toList w) := by
  have HR := Lib.hid hr
  rcases idxV_cases m name.data.toList with ⟨h1, h2, _⟩ | ⟨i, x, hi, h1, h2, h3, _⟩
  · have HV : Hid (atV m name.data.toList = -1) := by show atV _ _ = _; unfold atV; rw [h1]
    have HG := Lib.hid h2
    clear h1 h2 hr
    go_enter Tryz.func10, Tryz.ntmps10
    go_wp2_with (go_at_call 18; refine (refAt_calls p F v m name _ hc HR.out hl).mono ?_; rw [HV.out]; rintro e w' ⟨rfl, rfl⟩)
    go_ret2
    unfold RefGetPost
    rw [HG.out]
    exact ⟨rfl, rfl⟩
  · have HV : Hid (atV m name.data.toList = i) := by show atV _ _ = _; unfold atV; rw [h1]
    have HG := Lib.hid h2
    obtain ⟨bb, off, c, rfl⟩ : ∃ bb off c, v = .slice (some ⟨bb, off, none⟩) m.length c := by
      rcases hr.where_ with ⟨h0, A, c, rfl⟩ | ⟨_, bb, off, c, rfl⟩
      · omega
      · exact ⟨_, _, _, rfl⟩
    obtain ⟨_, hbb, hcells⟩ := HR.out.at_ (by omega)
    have hg := varsC_get m i hi
    have hc1 : w.cell? ⟨bb, off + i * 2 + 1, none⟩ = some (.string (str m[i].2)) := (hcells (i * 2 + 1) (by omega)).trans hg.2
    rw [h3] at hc1
    clear h1 h2 h3 hr hg hcells
    go_enter Tryz.func10, Tryz.ntmps10
    go_wp2_with (go_at_call 18; refine (refAt_calls p F _ m name _ hc HR.out hl).mono ?_; rw [HV.out]; rintro e w' ⟨rfl, rfl⟩)
    go_ret2
    unfold RefGetPost
    rw [HG.out]
    exact ⟨rfl, rfl⟩
#print axioms refRight_calls
#print axioms refGet_calls
end Go.Proofs.YtbilkpioddjlfaaGreatDoor
