/- env.Number: the number that a text is, or the error: for every text and all bounds. -/
import Derived.Test.YtbilkpioddjlfaaGreatDoorNumA
import Derived.Test.YtbilkpioddjlfaaGreatDoorProg
import Derived.Test.YtbilkpioddjlfaaGreatDoorShelf
import Derived.Shelf.Strings.SlTrimAscii
import Derived.Lib.AtoiErrMem
namespace Go.Proofs.YtbilkpioddjlfaaGreatDoor
open Go.RowKit

theorem info116 : (Tryz.prog.info? (Tryz.lays160_ren.t 116)).map (fun i => (i.zero, i.size)) = some (some (.agg (Array.replicate 256 (.bool false))), 256) := by kernel_rfl

theorem trimPrefix_calls (s D : ByteArray) (hD : D.data.toList = body s.data.toList) (w : World) : Calls Tryz.prog 23 #[.string s, .string ⟨#[45]⟩] w fun e w' => e = .returned (.string D) ∧ w = w' := by
  refine (Tryz.strings_TrimPrefix s ⟨#[45]⟩ w).mono ?_
  rintro e w' ⟨rfl, rfl⟩
  refine ⟨?_, rfl⟩
  have : D = ⟨(body s.data.toList).toArray⟩ := by rw [← hD]
  rw [this]; rfl
theorem trim_calls (D T : ByteArray) (hT : T.data.toList = Lib.trimS D.data.toList digs) (w : World) (hs : D.size ≤ 9223372036854775807) : Calls Tryz.prog 24 #[.string D, .string ⟨#[48, 49, 50, 51, 52, 53, 54, 55, 56, 57]⟩] w fun e w' => e = .returned (.string T) ∧ Chg w w' NoB := by
  refine (Any.strings_Trim_laid Tryz.lays160 info116 D ⟨#[48, 49, 50, 51, 52, 53, 54, 55, 56, 57]⟩ w hs (by decide) (ascii_of_all (by decide))).mono ?_
  rintro e w' ⟨rfl, hb⟩
  refine ⟨?_, Chg.ofBelow hb⟩
  have : T = ⟨(Lib.trimS D.data.toList digs).toArray⟩ := by rw [← hT]
  rw [this]; rfl
theorem atoi_calls (s : ByteArray) (n : Int) (h : numOf s.data.toList = some n) (w : World) : Calls Tryz.prog 25 #[.string s] w fun e w' => e = .returned (.tuple #[.int .i64 n, .nilIface]) ∧ Chg w w' NoB := by
  have hl := numOf_length h
  refine (Tryz.strconv_Atoi s n (by rw [Array.length_toList] at hl; exact Nat.le_trans hl (by decide)) (atoi_numOf h) w).mono ?_
  rintro e w' ⟨rfl, t, rfl⟩
  exact ⟨rfl, Chg.ofBelow (Lib.bytesWorld_below w _ t)⟩

def NumPost (s : List UInt8) (lo hi : Int) (w : World) (e : Ending) (w' : World) : Prop := e = .returned (.tuple #[.int .i64 (numV s lo hi).1, .int .i64 (numV s lo hi).2]) ∧ Chg w w' NoB
theorem NumPost.form {s : List UInt8} {lo hi : Int} {w w' : World} (h : numOf s = none) (hc : Chg w w' NoB) : NumPost s lo hi w (.returned (.tuple #[.int .i64 0, .int .i64 4])) w' := ⟨by unfold numV; rw [h], hc⟩
theorem NumPost.range {s : List UInt8} {lo hi n : Int} {w w' : World} (h : numOf s = some n) (hr : n < lo ∨ hi < n) (hc : Chg w w' NoB) : NumPost s lo hi w (.returned (.tuple #[.int .i64 0, .int .i64 3])) w' := ⟨by unfold numV; rw [h]; simp only []; rw [if_pos hr], hc⟩
theorem NumPost.num {s : List UInt8} {lo hi n : Int} {w w' : World} (h : numOf s = some n) (h1 : lo ≤ n) (h2 : n ≤ hi) (hc : Chg w w' NoB) : NumPost s lo hi w (.returned (.tuple #[.int .i64 n, .int .i64 0])) w' := ⟨by unfold numV; rw [h]; simp only []; rw [if_neg (by omega)], hc⟩

/-- Behind the shape's test: the text is of the form. -/
theorem num_shape {s : List UInt8} (h : s = [48] ∨ (body s ≠ [] ∧ (body s).length ≤ 9 ∧ (body s).head? ≠ some 48)) : (numOf s).isSome = (body s).all (digs.contains ·) := by
  unfold numOf
  rw [if_pos h, Option.isSome_map, decNat_isSome]
  rcases h with rfl | h
  · decide
  · exact h.1
theorem num_shape_no {s : List UInt8} (h : ¬ (s = [48] ∨ (body s ≠ [] ∧ (body s).length ≤ 9 ∧ (body s).head? ≠ some 48))) : numOf s = none := by
  unfold numOf
  rw [if_neg h]
theorem num_low {s : List UInt8} {c : UInt8} (h : s ≠ [48]) (hc : (body s).head? = some c) (hlt : c.toNat < 49) : numOf s = none := by
  by_cases h48 : c.toNat = 48
  · refine num_shape_no (fun hh => ?_)
    rcases hh with hh | hh
    · exact h hh
    · exact hh.2.2 (by rw [hc]; congr 1; rw [← UInt8.toNat_inj]; exact h48)
  · by_cases hs : s = [48] ∨ (body s ≠ [] ∧ (body s).length ≤ 9 ∧ (body s).head? ≠ some 48)
    · have := num_shape hs
      cases hb : body s with
      | nil => rw [hb] at hc; cases hc
      | cons d r =>
        rw [hb] at hc
        injection hc with hc
        subst hc
        rw [hb, List.all_cons] at this
        have hd : digs.contains d = false := by
          rw [← Bool.not_eq_true, dig_iff]; omega
        rw [hd, Bool.false_and] at this
        simpa using this
    · exact num_shape_no hs

/-- The text's tests, as the code asks them: no number, ahead of Trim; behind it; a number. -/
theorem num_cases (s D T : ByteArray) (hD : D.data.toList = body s.data.toList) (hT : T.data.toList = Lib.trimS D.data.toList digs) :
    ((s.toList == [48]) = false ∧ D.toList.isEmpty = true ∧ numOf s.data.toList = none) ∨
    ((s.toList == [48]) = false ∧ D.toList.isEmpty = false ∧ decide ((9 : Int) < D.size) = true ∧ numOf s.data.toList = none) ∨
    (∃ h : 0 < D.size, (s.toList == [48]) = false ∧ D.toList.isEmpty = false ∧ decide ((9 : Int) < D.size) = false ∧ decide (((D[0]'h).toNat : Int) < 49) = true ∧ numOf s.data.toList = none) ∨
    (∃ h : 0 < D.size, (s.toList == [48]) = false ∧ D.toList.isEmpty = false ∧ decide ((9 : Int) < D.size) = false ∧ decide (((D[0]'h).toNat : Int) < 49) = false ∧ T.toList.isEmpty = false ∧ numOf s.data.toList = none) ∨
    (∃ h : 0 < D.size, (s.toList == [48]) = false ∧ D.toList.isEmpty = false ∧ decide ((9 : Int) < D.size) = false ∧ decide (((D[0]'h).toNat : Int) < 49) = false ∧ T.toList.isEmpty = true ∧ ∃ n, numOf s.data.toList = some n) ∨
    ((s.toList == [48]) = true ∧ T.toList.isEmpty = true ∧ ∃ n, numOf s.data.toList = some n) := by
  have hsl : s.toList = s.data.toList := ByteArray.toList_eq s
  have hDl : D.toList = D.data.toList := ByteArray.toList_eq D
  have hTl : T.toList = T.data.toList := ByteArray.toList_eq T
  have hDs : D.data.toList.length = D.size := by simp
  by_cases h0 : s.data.toList = [48]
  · refine .inr (.inr (.inr (.inr (.inr ⟨by rw [hsl, h0]; rfl, ?_, ?_⟩))))
    · rw [hTl, hT, hD, h0]; decide
    · rw [h0]; exact ⟨0, by decide⟩
  · have b1 : (s.toList == [48]) = false := by rw [hsl, beq_eq_false_iff_ne]; exact h0
    by_cases h1 : D.data.toList = []
    · refine .inl ⟨b1, by rw [hDl, h1]; rfl, num_shape_no ?_⟩
      rintro (h | h)
      · exact h0 h
      · exact h.1 (by rw [← hD, h1])
    · have b2 : D.toList.isEmpty = false := by rw [hDl]; simpa using h1
      by_cases h2 : 9 < D.size
      · refine .inr (.inl ⟨b1, b2, decide_eq_true (by omega), num_shape_no ?_⟩)
        rintro (h | h)
        · exact h0 h
        · have := h.2.1
          rw [← hD, hDs] at this
          omega
      · have b3 : decide ((9 : Int) < D.size) = false := decide_eq_false (by omega)
        have hl0 : 0 < D.size := by rw [← hDs]; exact List.length_pos_iff.2 h1
        have hh : (body s.data.toList).head? = some (D[0]'hl0) := by
          rw [← hD, List.head?_eq_getElem?, List.getElem?_eq_getElem (by rw [hDs]; exact hl0)]
          rfl
        by_cases h3 : (D[0]'hl0).toNat < 49
        · exact .inr (.inr (.inl ⟨hl0, b1, b2, b3, decide_eq_true (by omega), num_low h0 hh h3⟩))
        · have b4 : decide (((D[0]'hl0).toNat : Int) < 49) = false := decide_eq_false (by omega)
          have hshape := num_shape (s := s.data.toList) (.inr ⟨by rw [← hD]; exact h1, by rw [← hD, hDs]; omega, by rw [hh]; intro h; injection h with h; rw [h] at h3; exact h3 (by decide)⟩)
          by_cases h4 : T.data.toList = []
          · refine .inr (.inr (.inr (.inr (.inl ⟨hl0, b1, b2, b3, b4, by rw [hTl, h4]; rfl, ?_⟩))))
            rw [hT, trim_nil, hD] at h4
            rw [h4] at hshape
            exact Option.isSome_iff_exists.1 hshape
          · refine .inr (.inr (.inr (.inl ⟨hl0, b1, b2, b3, b4, by rw [hTl]; simpa using h4, ?_⟩)))
            rw [hT, trim_nil, hD] at h4
            rw [Bool.not_eq_true] at h4
            rw [h4] at hshape
            simpa using hshape

set_option maxRecDepth 100000 in
set_option maxHeartbeats 1000000 in
theorem number_calls (s : ByteArray) (lo hi : Int) (w : World) (hs : s.size ≤ 9223372036854775807) :
    Calls Tryz.prog 15 #[.string s, .int .i64 lo, .int .i64 hi] w (NumPost s.data.toList lo hi w) := by
  obtain ⟨D, hD⟩ : ∃ D : ByteArray, D.data.toList = body s.data.toList := ⟨⟨(body s.data.toList).toArray⟩, by simp⟩
  obtain ⟨T, hT⟩ : ∃ T : ByteArray, T.data.toList = Lib.trimS D.data.toList digs := ⟨⟨(Lib.trimS D.data.toList digs).toArray⟩, by simp⟩
  have hDs : D.size ≤ 9223372036854775807 := by
    have h1 : D.data.toList.length = D.size := by simp
    have h2 : s.data.toList.length = s.size := by simp
    rw [hD] at h1
    have h3 : (body s.data.toList).length ≤ s.data.toList.length := by
      cases s.data.toList with
      | nil => exact Nat.le_refl _
      | cons c r => rw [body_cons]; split <;> simp
    omega
  have hc := num_cases s D T hD hT
  have HD := Lib.hid hD
  have HT := Lib.hid hT
  clear hD hT
  rcases hc with ⟨b1, b2, hn⟩ | ⟨b1, b2, b3, hn⟩ | ⟨hl0, b1, b2, b3, b4, hn⟩ | ⟨hl0, b1, b2, b3, b4, b5, hn⟩ | ⟨hl0, b1, b2, b3, b4, b5, n, hn⟩ | ⟨b1, b5, n, hn⟩
  all_goals have HN := Lib.hid hn
  all_goals clear hn
  case inl | inr.inl | inr.inr.inl | inr.inr.inr.inl =>
    go_enter Tryz.func15, Tryz.ntmps15
    go_wp2_with (first | (go_at_call 23; refine (trimPrefix_calls s D HD.out _).mono ?_; rintro e w1 ⟨rfl, rfl⟩) | (go_at_call 24; refine (trim_calls D T HT.out _ hDs).mono ?_; rintro e w1 ⟨rfl, hc1⟩))
    go_ret2
    exact NumPost.form HN.out (by first | assumption | exact Chg.refl _ _)
  all_goals
    by_cases h1 : n < lo
    · go_enter Tryz.func15, Tryz.ntmps15
      go_wp2_with (first | (go_at_call 23; refine (trimPrefix_calls s D HD.out _).mono ?_; rintro e w1 ⟨rfl, rfl⟩) | (go_at_call 24; refine (trim_calls D T HT.out _ hDs).mono ?_; rintro e w1 ⟨rfl, hc1⟩) | (go_at_call 25; refine (calls_since (w0 := w) (atoi_calls s n HN.out _) (by assumption)).mono ?_; rintro e w2 ⟨rfl, hc2⟩))
      go_ret2
      exact NumPost.range HN.out (.inl h1) (by assumption)
    · by_cases h2 : hi < n
      · go_enter Tryz.func15, Tryz.ntmps15
        go_wp2_with (first | (go_at_call 23; refine (trimPrefix_calls s D HD.out _).mono ?_; rintro e w1 ⟨rfl, rfl⟩) | (go_at_call 24; refine (trim_calls D T HT.out _ hDs).mono ?_; rintro e w1 ⟨rfl, hc1⟩) | (go_at_call 25; refine (calls_since (w0 := w) (atoi_calls s n HN.out _) (by assumption)).mono ?_; rintro e w2 ⟨rfl, hc2⟩))
        go_ret2
        exact NumPost.range HN.out (.inr h2) (by assumption)
      · go_enter Tryz.func15, Tryz.ntmps15
        go_wp2_with (first | (go_at_call 23; refine (trimPrefix_calls s D HD.out _).mono ?_; rintro e w1 ⟨rfl, rfl⟩) | (go_at_call 24; refine (trim_calls D T HT.out _ hDs).mono ?_; rintro e w1 ⟨rfl, hc1⟩) | (go_at_call 25; refine (calls_since (w0 := w) (atoi_calls s n HN.out _) (by assumption)).mono ?_; rintro e w2 ⟨rfl, hc2⟩))
        go_ret2
        exact NumPost.num HN.out (by omega) (by omega) (by assumption)
#print axioms number_calls
end Go.Proofs.YtbilkpioddjlfaaGreatDoor
