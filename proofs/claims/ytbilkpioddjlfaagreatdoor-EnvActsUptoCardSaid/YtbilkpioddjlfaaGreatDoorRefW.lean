/- cuecardref16.Env.Word of an object: the text that a word's parts tell, or the error. Conditions: the texts are no longer than texts may be, and together take at most 2^47 bytes. -/
import Derived.Test.YtbilkpioddjlfaaGreatDoorRefB
import Derived.Test.YtbilkpioddjlfaaGreatDoorEnvW
namespace Go.Proofs.YtbilkpioddjlfaaGreatDoor
open Go.RowKit

set_option maxRecDepth 100000 in
set_option maxHeartbeats 1000000 in
theorem refWord_calls (p : Nat) (va : Value) (m : Vars) (F : Nat → Prop) (ats kd : Int) (v : Value) (ps : List PartV) (w : World) (hc : w.cell? ⟨p, 0, none⟩ = some va) (hp : p < w.heap.size) (hra : RdRow w (fun _ => True) 2 m.length va (varsC m)) (hm : m.length ≤ 256) (hr : RdRow w F 2 ps.length v (partsC ps)) (hl : ps.length ≤ 1000000000000) (hsum : sumV m ps ≤ 140737488355328) :
    Calls Tryz.prog 12 #[.pointer (some ⟨p, 0, none⟩), .agg #[.int .i64 ats, .int .i64 kd, v]] w (WordPost m ps w) := by
  have HC := Lib.hid hc
  have HRA := Lib.hid hra
  have HR := Lib.hid hr
  have HS := Lib.hid hsum
  have hml : m.length ≤ 1000000 := by omega
  obtain ⟨A, c, rfl, hA⟩ : ∃ A c, v = .slice A ps.length c ∧ (ps.length = 0 ∨ ∃ bb off, A = some ⟨bb, off, none⟩) := by
    rcases hr.where_ with ⟨h0, A, c, rfl⟩ | ⟨_, bb, off, c, rfl⟩
    · exact ⟨A, c, rfl, .inl h0⟩
    · exact ⟨_, c, rfl, .inr ⟨bb, off, rfl⟩⟩
  clear hr hra hc hsum
  have HCH : Hid (Chg w (w.alloc (.cells #[.int .i64 ats, .int .i64 kd, .slice A ps.length c] 33)) NoB) := (Chg.refl _ _).alloc _
  go_enter Tryz.func12, Tryz.ntmps12
  go_wp2
  go_loop [6, 7] (fun s i => ∃ (k : Nat) (acc : List UInt8), i = .int .i64 k ∧ s = .string (str acc) ∧ k ≤ ps.length ∧ Hid (textV m (ps.drop k) acc = textV m ps []) ∧ Hid (acc.length + sumV m (ps.drop k) ≤ 140737488355328)) (fun _ i => ps.length - (intOf i).toNat)
  case atStart => exact ⟨0, [], rfl, rfl, Nat.zero_le _, rfl, by have := HS.out; show 0 + _ ≤ _; simpa using this⟩
  case round =>
    obtain ⟨k, acc, rfl, rfl, hk, HT, HSM⟩ := hrel
    by_cases hlt : k < ps.length
    · obtain ⟨bb, off, rfl⟩ : ∃ bb off, A = some ⟨bb, off, none⟩ := by
        rcases hA with h0 | h
        · omega
        · exact h
      obtain ⟨_, hbb, hcells⟩ := (HR.out.chg HCH.out (fun _ _ _ f => f)).at_ (by omega)
      have hg := partsC_get ps k hlt
      have hc0 := (hcells (k * 2) (by omega)).trans hg.1
      have hc1 := (hcells (k * 2 + 1) (by omega)).trans hg.2
      simp only [← Nat.add_assoc] at hc1
      have HD := Lib.hid (textV_drop m ps k hlt acc)
      have HSD := Lib.hid (sumV_drop m ps k hlt)
      have hpt : partT m ps[k] = if ps[k].1 then getV m ps[k].2.data.toList else some ps[k].2.data.toList := rfl
      generalize ps[k].1 = q at *
      generalize ps[k].2 = s at *
      generalize partT m ps[k] = pt at *
      have hCC := (HCH.out.cell (p := ⟨p, 0, none⟩) hp (fun f => f)).trans HC.out
      have hRR := HRA.out.chg HCH.out (fun _ _ _ f => f)
      have HCC := Lib.hid hCC
      have HRR := Lib.hid hRR
      clear hg hcells hbb hCC hRR
      cases q
      · obtain rfl : pt = some s.data.toList := hpt
        have hl : (str acc).size + s.size ≤ 140737488355328 := by
          have h1 := HSM.out
          have h2 : sumV m (ps.drop k) = s.data.toList.length + sumV m (ps.drop (k + 1)) := HSD.out
          have h3 : s.data.toList.length = s.size := by simp
          rw [str_size]
          omega
        have HN : Hid (str acc ++ s = str (acc ++ s.data.toList)) := by show _ = _; simp [str, ByteArray.append_eq, ByteArray.ext_iff]
        go_wp2
        go_round
        case rel => exact ⟨k + 1, acc ++ s.data.toList, by go_num, by rw [← HN.out], hlt, HD.out.symm.trans HT.out, by have h1 := HSM.out; have h2 : sumV m (ps.drop k) = s.data.toList.length + sumV m (ps.drop (k + 1)) := HSD.out; show _ ≤ _; rw [List.length_append]; omega⟩
        case measure => simp only [intOf]; omega
      · cases hgv : getV m s.data.toList with
        | none =>
          obtain rfl : pt = none := by rw [hpt, hgv]; rfl
          have hw0 : wordV m ps = ([], 8) := by
            unfold wordV
            rw [← HT.out, HD.out]
          have hw := Lib.hid hw0
          have HG := Lib.hid hgv
          clear hw0 hgv hpt
          go_wp2_with (go_at_call 10; refine (refGet_calls p _ va m s _ HCC.out HRR.out hml).mono ?_; unfold RefGetPost; rw [HG.out]; rintro e w' ⟨rfl, rfl⟩)
          go_ret2
          exact ⟨by rw [hw.out]; rfl, HCH.out⟩
        | some x =>
          obtain rfl : pt = some x := by rw [hpt, hgv]; rfl
          have HG := Lib.hid hgv
          have hl : (str acc).size + (str x).size ≤ 140737488355328 := by
            have h1 := HSM.out
            have h2 : sumV m (ps.drop k) = x.length + sumV m (ps.drop (k + 1)) := HSD.out
            rw [str_size, str_size]
            omega
          have HN : Hid (str acc ++ str x = str (acc ++ x)) := by show _ = _; simp [str, ByteArray.append_eq, ByteArray.ext_iff]
          clear hgv hpt
          go_wp2_with (go_at_call 10; refine (refGet_calls p _ va m s _ HCC.out HRR.out hml).mono ?_; unfold RefGetPost; rw [HG.out]; rintro e w' ⟨rfl, rfl⟩)
          go_round
          case rel => exact ⟨k + 1, acc ++ x, by go_num, by rw [← HN.out], hlt, HD.out.symm.trans HT.out, by have h1 := HSM.out; have h2 : sumV m (ps.drop k) = x.length + sumV m (ps.drop (k + 1)) := HSD.out; show _ ≤ _; rw [List.length_append]; omega⟩
          case measure => simp only [intOf]; omega
    · have hke : ps.drop k = [] := List.drop_eq_nil_of_le (by omega)
      have hw : Hid (wordV m ps = if 16777216 < acc.length then ([], 6) else (acc, 0)) := by
        have := HT.out
        rw [hke] at this
        show _ = _
        unfold wordV
        rw [← this]
        rfl
      clear hke
      have hs := str_size acc
      have HSZ := Lib.hid hs
      clear hs
      by_cases hgt : 16777216 < (str acc).size
      · go_wp2
        go_ret2
        exact ⟨by rw [hw.out, if_pos (by rw [← HSZ.out]; exact hgt)]; rfl, HCH.out⟩
      · go_wp2
        go_ret2
        exact ⟨by rw [hw.out, if_neg (by rw [← HSZ.out]; exact hgt)]; rfl, HCH.out⟩
#print axioms refWord_calls
end Go.Proofs.YtbilkpioddjlfaaGreatDoor
