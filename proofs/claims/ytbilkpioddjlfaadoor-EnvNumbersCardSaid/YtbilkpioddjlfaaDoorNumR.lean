/- cuecardref16.Number: it answers what env.Number answers: for every text and all bounds. -/
import Derived.Test.YtbilkpioddjlfaaDoorNumA
import Derived.Test.YtbilkpioddjlfaaDoorProg
namespace Go.Proofs.YtbilkpioddjlfaaDoor
open Go.RowKit

def RefNumPost (s : List UInt8) (lo hi : Int) (w : World) (e : Ending) (w' : World) : Prop := e = .returned (.tuple #[.int .i64 (numV s lo hi).1, .int .i64 (numV s lo hi).2]) ∧ w = w'
theorem RefNumPost.form {s : List UInt8} {lo hi : Int} {w : World} (h : numOf s = none) : RefNumPost s lo hi w (.returned (.tuple #[.int .i64 0, .int .i64 4])) w := ⟨by unfold numV; rw [h], rfl⟩
theorem RefNumPost.range {s : List UInt8} {lo hi n : Int} {w : World} (h : numOf s = some n) (hr : n < lo ∨ hi < n) : RefNumPost s lo hi w (.returned (.tuple #[.int .i64 0, .int .i64 3])) w := ⟨by unfold numV; rw [h]; simp only []; rw [if_pos hr], rfl⟩
theorem RefNumPost.num {s : List UInt8} {lo hi n : Int} {w : World} (h : numOf s = some n) (h1 : lo ≤ n) (h2 : n ≤ hi) : RefNumPost s lo hi w (.returned (.tuple #[.int .i64 n, .int .i64 0])) w := ⟨by unfold numV; rw [h]; simp only []; rw [if_neg (by omega)], rfl⟩

/-- The tests of the shape, as the reference asks them. -/
theorem ref_shape (s D : ByteArray) (hD : D.data.toList = body s.data.toList) :
    ((s.toList == [48]) = false ∧ decide ((D.size : Int) < 1) = true ∧ numOf s.data.toList = none) ∨
    ((s.toList == [48]) = false ∧ decide ((D.size : Int) < 1) = false ∧ decide ((9 : Int) < D.size) = true ∧ numOf s.data.toList = none) ∨
    (∃ h : 0 < D.size, (s.toList == [48]) = false ∧ decide ((D.size : Int) < 1) = false ∧ decide ((9 : Int) < D.size) = false ∧ (((D[0]'h).toNat : Int) == 48) = true ∧ numOf s.data.toList = none) ∨
    (∃ h : 0 < D.size, D.size ≤ 9 ∧ (s.toList == [48]) = false ∧ decide ((D.size : Int) < 1) = false ∧ decide ((9 : Int) < D.size) = false ∧ (((D[0]'h).toNat : Int) == 48) = false ∧ numOf s.data.toList = (Lib.decFrom 0 D.data.toList).map fun (m : Nat) => if s.data.toList.head? = some 45 then -(m : Int) else m) ∨
    (∃ _h : 0 < D.size, D.size ≤ 9 ∧ (s.toList == [48]) = true ∧ numOf s.data.toList = (Lib.decFrom 0 D.data.toList).map fun (m : Nat) => if s.data.toList.head? = some 45 then -(m : Int) else m) := by
  have hsl : s.toList = s.data.toList := ByteArray.toList_eq s
  have hDs : D.data.toList.length = D.size := by simp
  have hnum : ∀ h : s.data.toList = [48] ∨ (body s.data.toList ≠ [] ∧ (body s.data.toList).length ≤ 9 ∧ (body s.data.toList).head? ≠ some 48), 0 < D.size → numOf s.data.toList = (Lib.decFrom 0 D.data.toList).map fun (m : Nat) => if s.data.toList.head? = some 45 then -(m : Int) else m := by
    intro h h0
    unfold numOf
    rw [if_pos h, ← hD]
    unfold Lib.decNat
    rw [if_neg (by simp; intro e; rw [← hDs, e] at h0; simp at h0)]
  by_cases h0 : s.data.toList = [48]
  · have hd : D.data.toList = [48] := by rw [hD, h0]; decide
    have h1 : D.size = 1 := by rw [← hDs, hd]; rfl
    exact .inr (.inr (.inr (.inr ⟨by omega, by omega, by rw [hsl, h0]; rfl, hnum (.inl h0) (by omega)⟩)))
  · have b1 : (s.toList == [48]) = false := by rw [hsl, beq_eq_false_iff_ne]; exact h0
    have no : ∀ h : ¬ (body s.data.toList ≠ [] ∧ (body s.data.toList).length ≤ 9 ∧ (body s.data.toList).head? ≠ some 48), numOf s.data.toList = none := by
      intro h
      unfold numOf
      rw [if_neg (by rintro (h' | h'); exact h0 h'; exact h h')]
    by_cases h1 : D.size < 1
    · refine .inl ⟨b1, decide_eq_true (by omega), no (fun h => h.1 (by rw [← hD]; exact List.eq_nil_of_length_eq_zero (by omega)))⟩
    · have b2 : decide ((D.size : Int) < 1) = false := decide_eq_false (by omega)
      by_cases h2 : 9 < D.size
      · refine .inr (.inl ⟨b1, b2, decide_eq_true (by omega), no (fun h => by have := h.2.1; rw [← hD] at this; omega)⟩)
      · have b3 : decide ((9 : Int) < D.size) = false := decide_eq_false (by omega)
        have hl0 : 0 < D.size := by omega
        have hh : (body s.data.toList).head? = some (D[0]'hl0) := by
          rw [← hD, List.head?_eq_getElem?, List.getElem?_eq_getElem (by rw [hDs]; exact hl0)]
          rfl
        by_cases h3 : (D[0]'hl0).toNat = 48
        · refine .inr (.inr (.inl ⟨hl0, b1, b2, b3, by rw [beq_iff_eq]; omega, no (fun h => h.2.2 (by rw [hh]; congr 1; rw [← UInt8.toNat_inj]; exact h3))⟩))
        · refine .inr (.inr (.inr (.inl ⟨hl0, by omega, b1, b2, b3, by rw [beq_eq_false_iff_ne]; omega, hnum (.inr ⟨by rw [← hD]; intro e; rw [← hDs, e] at hl0; simp at hl0, by rw [← hD]; omega, by rw [hh]; intro e; injection e with e; rw [e] at h3; exact h3 (by decide)⟩) hl0⟩)))

theorem take_none (l : List UInt8) (k acc : Nat) (c : UInt8) (hc : l[k]? = some c) (hd : Lib.digitVal c = none) : Lib.decFrom acc l = none := by
  induction l generalizing k acc with
  | nil => simp at hc
  | cons a t ih =>
    cases k with
    | zero =>
      simp only [List.getElem?_cons_zero, Option.some.injEq] at hc
      subst hc
      simp [Lib.decFrom, hd]
    | succ k =>
      rw [Lib.decFrom]
      cases Lib.digitVal a with
      | none => rfl
      | some d => exact ih k _ (by simpa using hc)
/-- One byte more. -/
theorem ref_step (D : ByteArray) (k m : Nat) (hk : k < D.size) (h9 : D.size ≤ 9) (hm : Lib.decFrom 0 (D.data.toList.take k) = some m) :
    m < 1000000000 ∧ (((D[k]'hk).toNat < 48 ∨ 57 < (D[k]'hk).toNat) → Lib.decFrom 0 D.data.toList = none) ∧ (48 ≤ (D[k]'hk).toNat → (D[k]'hk).toNat ≤ 57 → Lib.decFrom 0 (D.data.toList.take (k + 1)) = some (m * 10 + ((D[k]'hk).toNat - 48))) := by
  have hDs : D.data.toList.length = D.size := by simp
  have hget : D.data.toList[k]? = some (D[k]'hk) := by
    rw [List.getElem?_eq_getElem (by rw [hDs]; exact hk)]
    rfl
  refine ⟨?_, fun h => take_none _ k 0 _ hget (by unfold Lib.digitVal; rw [if_neg (by omega)]), fun h1 h2 => Lib.decFrom_take _ k 0 m _ _ hm hget (by unfold Lib.digitVal; rw [if_pos ⟨h1, h2⟩])⟩
  have := decFrom_lt _ 0 m 0 hm (by decide)
  have h2 : (D.data.toList.take k).length ≤ 9 := by rw [List.length_take]; omega
  have h3 : (10 : Nat) ^ (0 + (D.data.toList.take k).length) ≤ 10 ^ 9 := Nat.pow_le_pow_right (by decide) (by omega)
  have h4 : (10 : Nat) ^ 9 = 1000000000 := by decide
  omega

set_option maxRecDepth 100000 in
set_option maxHeartbeats 1000000 in
theorem refNumber_yes (s D : ByteArray) (lo hi : Int) (w : World) (h0 : 0 < s.size) (a1 : (((s[0]'h0).toNat : Int) == 45) = true) (hsl : ∀ w, (Instr.slice 9 (.string s) (some (.int .i64 1)) none none).run Tryd.prog w = .ok (.string D) w) (HH : Hid (s.data.toList.head? = some 45)) (hD : D.data.toList = body s.data.toList) :
    Calls Tryd.prog 19 #[.string s, .int .i64 lo, .int .i64 hi] w (RefNumPost s.data.toList lo hi w) := by
  rcases ref_shape s D hD with ⟨b1, b2, hn⟩ | ⟨b1, b2, b3, hn⟩ | ⟨hl0, b1, b2, b3, b4, hn⟩ | ⟨hl0, h9, b1, b2, b3, b4, hn⟩ | ⟨hl0, h9, b1, hn⟩
  all_goals have HN := Lib.hid hn
  all_goals clear hn hD
  case inl | inr.inl | inr.inr.inl =>
    go_enter Tryd.func19, Tryd.ntmps19
    go_wp2
    go_ret2
    exact RefNumPost.form HN.out
  all_goals
    go_enter Tryd.func19, Tryd.ntmps19
    go_wp2
    go_loop [10, 11] (fun n i => ∃ k m : Nat, k ≤ D.size ∧ i = .int .i64 k ∧ n = .int .i64 m ∧ Hid (Lib.decFrom 0 (D.data.toList.take k) = some m)) (fun _ i => D.size - (intOf i).toNat)
    case atStart => exact ⟨0, 0, Nat.zero_le _, rfl, rfl, rfl⟩
    case round =>
      obtain ⟨k, m, hk, rfl, rfl, HM⟩ := hrel
      by_cases hlt : k < D.size
      · obtain ⟨hm, hno, hyes⟩ := ref_step D k m hlt h9 HM.out
        have HNO := Lib.hid hno
        have HYES := Lib.hid hyes
        clear hno hyes
        by_cases hc1 : (D[k]'hlt).toNat < 48
        · have d1 : decide (((D[k]'hlt).toNat : Int) < 48) = true := decide_eq_true (by omega)
          go_wp2
          go_ret2
          exact RefNumPost.form (by rw [HN.out, HNO.out (.inl hc1)]; rfl)
        · have d1 : decide (((D[k]'hlt).toNat : Int) < 48) = false := decide_eq_false (by omega)
          by_cases hc2 : 57 < (D[k]'hlt).toNat
          · have d2 : decide ((57 : Int) < ((D[k]'hlt).toNat : Int)) = true := decide_eq_true (by omega)
            go_wp2
            go_ret2
            exact RefNumPost.form (by rw [HN.out, HNO.out (.inr hc2)]; rfl)
          · have d2 : decide ((57 : Int) < ((D[k]'hlt).toNat : Int)) = false := decide_eq_false (by omega)
            have hb : (D[k]'hlt).toNat ≤ 57 := by omega
            have hb2 : 48 ≤ (D[k]'hlt).toNat := by omega
            go_wp2
            go_round
            case rel => exact ⟨k + 1, m * 10 + ((D[k]'hlt).toNat - 48), by omega, by go_num, by go_num, HYES.out (by omega) (by omega)⟩
            case measure => simp [intOf]; omega
      · have hke : D.data.toList.take k = D.data.toList := List.take_of_length_le (by simp; omega)
        have HN2 : Hid (numOf s.data.toList = some (-(m : Int))) := by
          have h1 := HM.out
          rw [hke] at h1
          have h2 := HN.out
          rw [h1] at h2
          have h3 := h2
          rw [Option.map_some] at h3
          rw [h3, if_pos HH.out]
          exact rfl
        have hm : m < 1000000000 := by
          have := numOf_bound HN2.out
          omega
        clear hke HM HN
        by_cases h1 : -(m : Int) < lo
        · have d1 : decide (-(m : Int) < lo) = true := decide_eq_true h1
          go_wp2
          go_ret2
          exact RefNumPost.range HN2.out (.inl h1)
        · have d1 : decide (-(m : Int) < lo) = false := decide_eq_false h1
          by_cases h2 : hi < -(m : Int)
          · have d2 : decide (hi < -(m : Int)) = true := decide_eq_true h2
            go_wp2
            go_ret2
            exact RefNumPost.range HN2.out (.inr h2)
          · have d2 : decide (hi < -(m : Int)) = false := decide_eq_false h2
            go_wp2
            go_ret2
            exact RefNumPost.num HN2.out (by omega) (by omega)

set_option maxRecDepth 100000 in
set_option maxHeartbeats 1000000 in
theorem refNumber_no (s : ByteArray) (lo hi : Int) (w : World) (hs : s.size ≤ 9223372036854775807) (h0 : 0 < s.size) (a1 : (((s[0]'h0).toNat : Int) == 45) = false) (HH : Hid (¬ s.data.toList.head? = some 45)) (hD : s.data.toList = body s.data.toList) :
    Calls Tryd.prog 19 #[.string s, .int .i64 lo, .int .i64 hi] w (RefNumPost s.data.toList lo hi w) := by
  rcases ref_shape s s hD with ⟨b1, b2, hn⟩ | ⟨b1, b2, b3, hn⟩ | ⟨hl0, b1, b2, b3, b4, hn⟩ | ⟨hl0, h9, b1, b2, b3, b4, hn⟩ | ⟨hl0, h9, b1, hn⟩
  all_goals have HN := Lib.hid hn
  all_goals clear hn hD
  case inl | inr.inl | inr.inr.inl =>
    go_enter Tryd.func19, Tryd.ntmps19
    go_wp2
    go_ret2
    exact RefNumPost.form HN.out
  all_goals
    go_enter Tryd.func19, Tryd.ntmps19
    go_wp2
    go_loop [10, 11] (fun n i => ∃ k m : Nat, k ≤ s.size ∧ i = .int .i64 k ∧ n = .int .i64 m ∧ Hid (Lib.decFrom 0 (s.data.toList.take k) = some m)) (fun _ i => s.size - (intOf i).toNat)
    case atStart => exact ⟨0, 0, Nat.zero_le _, rfl, rfl, rfl⟩
    case round =>
      obtain ⟨k, m, hk, rfl, rfl, HM⟩ := hrel
      by_cases hlt : k < s.size
      · obtain ⟨hm, hno, hyes⟩ := ref_step s k m hlt h9 HM.out
        have HNO := Lib.hid hno
        have HYES := Lib.hid hyes
        clear hno hyes
        by_cases hc1 : (s[k]'hlt).toNat < 48
        · have d1 : decide (((s[k]'hlt).toNat : Int) < 48) = true := decide_eq_true (by omega)
          go_wp2
          go_ret2
          exact RefNumPost.form (by rw [HN.out, HNO.out (.inl hc1)]; rfl)
        · have d1 : decide (((s[k]'hlt).toNat : Int) < 48) = false := decide_eq_false (by omega)
          by_cases hc2 : 57 < (s[k]'hlt).toNat
          · have d2 : decide ((57 : Int) < ((s[k]'hlt).toNat : Int)) = true := decide_eq_true (by omega)
            go_wp2
            go_ret2
            exact RefNumPost.form (by rw [HN.out, HNO.out (.inr hc2)]; rfl)
          · have d2 : decide ((57 : Int) < ((s[k]'hlt).toNat : Int)) = false := decide_eq_false (by omega)
            have hb : (s[k]'hlt).toNat ≤ 57 := by omega
            have hb2 : 48 ≤ (s[k]'hlt).toNat := by omega
            go_wp2
            go_round
            case rel => exact ⟨k + 1, m * 10 + ((s[k]'hlt).toNat - 48), by omega, by go_num, by go_num, HYES.out (by omega) (by omega)⟩
            case measure => simp [intOf]; omega
      · have hke : s.data.toList.take k = s.data.toList := List.take_of_length_le (by simp; omega)
        have HN2 : Hid (numOf s.data.toList = some ((m : Int))) := by
          have h1 := HM.out
          rw [hke] at h1
          have h2 := HN.out
          rw [h1] at h2
          have h3 := h2
          rw [Option.map_some] at h3
          rw [h3, if_neg HH.out]
          exact rfl
        have hm : m < 1000000000 := by
          have := numOf_bound HN2.out
          omega
        clear hke HM HN
        by_cases h1 : (m : Int) < lo
        · have d1 : decide ((m : Int) < lo) = true := decide_eq_true h1
          go_wp2
          go_ret2
          exact RefNumPost.range HN2.out (.inl h1)
        · have d1 : decide ((m : Int) < lo) = false := decide_eq_false h1
          by_cases h2 : hi < (m : Int)
          · have d2 : decide (hi < (m : Int)) = true := decide_eq_true h2
            go_wp2
            go_ret2
            exact RefNumPost.range HN2.out (.inr h2)
          · have d2 : decide (hi < (m : Int)) = false := decide_eq_false h2
            go_wp2
            go_ret2
            exact RefNumPost.num HN2.out (by omega) (by omega)

set_option maxRecDepth 100000 in
theorem refNumber_empty (s : ByteArray) (lo hi : Int) (w : World) (h0 : s.size = 0) : Calls Tryd.prog 19 #[.string s, .int .i64 lo, .int .i64 hi] w (RefNumPost s.data.toList lo hi w) := by
  have hd : s.data.toList = [] := List.eq_nil_of_length_eq_zero (by rw [Array.length_toList]; exact h0)
  have b1 : (s.toList == [48]) = false := by rw [ByteArray.toList_eq, hd]; rfl
  have HN : Hid (numOf s.data.toList = none) := by rw [hd]; exact rfl
  clear hd
  go_enter Tryd.func19, Tryd.ntmps19
  go_wp2
  go_ret2
  exact RefNumPost.form HN.out

theorem refNumber_calls (s : ByteArray) (lo hi : Int) (w : World) (hs : s.size ≤ 9223372036854775807) :
    Calls Tryd.prog 19 #[.string s, .int .i64 lo, .int .i64 hi] w (RefNumPost s.data.toList lo hi w) := by
  by_cases h0 : 0 < s.size
  · have hhd : s.data.toList.head? = some (s[0]'h0) := by
      rw [List.head?_eq_getElem?, List.getElem?_eq_getElem (by rw [Array.length_toList]; exact h0)]
      rfl
    by_cases h1 : (s[0]'h0).toNat = 45
    · have hc : s[0]'h0 = 45 := by rw [← UInt8.toNat_inj]; exact h1
      rw [hc] at hhd
      refine refNumber_yes s (s.extract 1 s.size) lo hi w h0 (by rw [beq_iff_eq]; omega) (fun w => ?_) hhd ?_
      · have h2 : 1 ≤ s.size := h0
        go_simp
        intro h
        omega
      · have hx : (s.extract 1 s.size).data.toList = s.data.toList.drop 1 := by
          rw [Lib.extract_data]
          exact List.take_of_length_le (by simp)
        rw [hx]
        cases hl : s.data.toList with
        | nil => rw [hl] at hhd; cases hhd
        | cons c r => rw [hl] at hhd; injection hhd with hhd; subst hhd; rw [body_cons, if_pos rfl]; rfl
    · refine refNumber_no s lo hi w hs h0 (by rw [beq_eq_false_iff_ne]; omega) ?_ ?_
      · rw [hhd]
        intro e
        injection e with e
        rw [e] at h1
        exact h1 (by decide)
      · cases hl : s.data.toList with
        | nil => rfl
        | cons c r =>
          rw [hl] at hhd
          injection hhd with hhd
          rw [body_cons, if_neg]
          rintro rfl
          rw [← hhd] at h1
          exact h1 (by decide)
  · exact refNumber_empty s lo hi w (by omega)
#print axioms refNumber_calls
end Go.Proofs.YtbilkpioddjlfaaDoor
