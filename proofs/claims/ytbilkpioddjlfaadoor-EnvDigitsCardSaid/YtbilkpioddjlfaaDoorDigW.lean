/- EnvDigits: the walk: for every number the law returns true. No condition. -/
import Derived.Test.YtbilkpioddjlfaaDoorEnvL
import Derived.Test.YtbilkpioddjlfaaDoorDig
import Derived.Test.YtbilkpioddjlfaaDoorBytes
namespace Go.Proofs.YtbilkpioddjlfaaDoor
open Go.RowKit

/-- One for the empty text. -/
def emptyOf : Value → Nat
  | .string b => if b.size = 0 then 1 else 0
  | _ => 0

theorem number_same (s : ByteArray) (n : Int) (hs : s.size ≤ 9223372036854775807) (h : numOf s.data.toList = some n) (w : World) : Calls Tryd.prog 18 #[.string s, .int .i64 n, .int .i64 n] w fun e w' => e = .returned (.tuple #[.int .i64 n, .int .i64 0]) ∧ Chg w w' NoB := by
  refine (number_calls s n n w hs).mono ?_
  rintro e w' ⟨rfl, hc⟩
  have : numV s.data.toList n n = (n, 0) := by unfold numV; rw [h]; simp only []; rw [if_neg (by omega)]
  exact ⟨by rw [this], hc⟩
theorem number_over (s : ByteArray) (n : Int) (hs : s.size ≤ 9223372036854775807) (h : numOf s.data.toList = some n) (w : World) : Calls Tryd.prog 18 #[.string s, .int .i64 (n + 1), .int .i64 1099511627776] w fun e w' => e = .returned (.tuple #[.int .i64 0, .int .i64 3]) ∧ Chg w w' NoB := by
  refine (number_calls s (n + 1) 1099511627776 w hs).mono ?_
  rintro e w' ⟨rfl, hc⟩
  have : numV s.data.toList (n + 1) 1099511627776 = (0, 3) := by unfold numV; rw [h]; simp only []; rw [if_pos (by omega)]
  exact ⟨by rw [this], hc⟩
theorem number_under (s : ByteArray) (n : Int) (hs : s.size ≤ 9223372036854775807) (h : numOf s.data.toList = some n) (w : World) : Calls Tryd.prog 18 #[.string s, .int .i64 (-1099511627776), .int .i64 (n - 1)] w fun e w' => e = .returned (.tuple #[.int .i64 0, .int .i64 3]) ∧ Chg w w' NoB := by
  refine (number_calls s (-1099511627776) (n - 1) w hs).mono ?_
  rintro e w' ⟨rfl, hc⟩
  have : numV s.data.toList (-1099511627776) (n - 1) = (0, 3) := by unfold numV; rw [h]; simp only []; rw [if_pos (by omega)]
  exact ⟨by rw [this], hc⟩
theorem number_form (s : ByteArray) (hs : s.size ≤ 9223372036854775807) (h : numOf s.data.toList = none) (w : World) : Calls Tryd.prog 18 #[.string s, .int .i64 (-1099511627776), .int .i64 1099511627776] w fun e w' => e = .returned (.tuple #[.int .i64 0, .int .i64 4]) ∧ Chg w w' NoB := by
  refine (number_calls s (-1099511627776) 1099511627776 w hs).mono ?_
  rintro e w' ⟨rfl, hc⟩
  have : numV s.data.toList (-1099511627776) 1099511627776 = (0, 4) := by unfold numV; rw [h]
  exact ⟨by rw [this], hc⟩

set_option maxRecDepth 100000 in
set_option maxHeartbeats 1000000 in
theorem digits_pos (n : Int) (m : Nat) (w : World) (hn : n.tmod 1000000000 = (m : Int)) (hm : m < 1000000000) : Calls Tryd.prog 5 #[.int .i64 n] w fun e w' => e = .returned (.bool true) ∧ Below w.heap.size w w' := by
  have h0 : decide ((m : Int) < 0) = false := decide_eq_false (by omega)
  go_enter Tryd.func5, Tryd.ntmps5
  go_wp2
  go_loopw [3, 4] (fun s k wr => ∃ (l : List UInt8) (j : Nat) (b : ByteArray), s = .string b ∧ b.data.toList = l ∧ k = .int .i64 j ∧ j ≤ m ∧ Hid (DigRel m j l) ∧ b.size ≤ 9 ∧ Hid (Chg w wr NoB)) (fun s k _ => (intOf k).toNat + emptyOf s)
  case atStart => exact ⟨[], m, ⟨#[]⟩, rfl, rfl, rfl, Nat.le_refl _, .inl ⟨rfl, rfl⟩, by decide, Chg.refl _ _⟩
  case round =>
    obtain ⟨l, j, b, rfl, hb, rfl, hj, HR, hb9, HC⟩ := hrel
    have HB := Lib.hid hb
    have hbl : b.toList = b.data.toList := ByteArray.toList_eq b
    have hbs : b.data.toList.length = b.size := by simp
    by_cases hgo : 0 < j ∨ l = []
    · have hnew : Hid (DigRel m (j / 10) (UInt8.ofNat (48 + j % 10) :: l)) := HR.out.step hgo
      have hnl : Hid ((UInt8.ofNat (48 + j % 10) :: l).length ≤ 9) := hnew.out.length hm
      have hme : Hid (j / 10 < j + emptyOf (.string b)) := by
        show j / 10 < _
        rcases hgo with h | h
        · omega
        · have : b.size = 0 := by rw [← hbs, hb, h]; rfl
          simp only [emptyOf, if_pos this]
          omega
      have hcat : (str [UInt8.ofNat (48 + j % 10)] ++ b : ByteArray).data.toList = UInt8.ofNat (48 + j % 10) :: l := by rw [ByteArray.data_append, Array.toList_append, hb]; rfl
      have HCAT := Lib.hid hcat
      have hss : (str [UInt8.ofNat (48 + j % 10)]).size = 1 := rfl
      have hsz : Hid ((str [UInt8.ofNat (48 + j % 10)] ++ b).size ≤ 9 ∧ emptyOf (.string (str [UInt8.ofNat (48 + j % 10)] ++ b)) = 0) := by
        have e : (str [UInt8.ofNat (48 + j % 10)] ++ b).data.toList.length = (str [UInt8.ofNat (48 + j % 10)] ++ b).size := by simp
        have h9 := hnl.out
        rw [hcat] at e
        refine ⟨by omega, ?_⟩
        simp only [List.length_cons] at e
        simp only [emptyOf]
        rw [if_neg (by omega)]
      clear hb hbl hbs hcat
      by_cases hp0 : 0 < j
      · clear hgo
        have d1 : decide ((0 : Int) < (j : Int)) = true := decide_eq_true (by omega)
        have hconv := fun (wx : World) => conv_one wx (UInt8.ofNat (48 + j % 10)) (48 + (j : Int) % 10) (by rw [toNat_dig _ (Nat.mod_lt j (by decide))]; omega)
        generalize str [UInt8.ofNat (48 + j % 10)] = sc at *
        go_wp2
        go_roundw
        case rel => exact ⟨_, j / 10, sc ++ b, rfl, HCAT.out, by go_num, by omega, hnew, hsz.out.1, HC.out.alloc _⟩
        case measure =>
          rw [hsz.out.2]
          have := hme.out
          simp only [intOf]
          omega
      · have hle : l = [] := hgo.resolve_left hp0
        clear hgo
        obtain rfl : j = 0 := by omega
        have d2 : b.toList.isEmpty = true := by rw [ByteArray.toList_eq, HB.out, hle]; rfl
        clear hle
        have hconv := fun (wx : World) => conv_one wx (UInt8.ofNat (48 + 0 % 10)) 48 (by decide)
        generalize str [UInt8.ofNat (48 + 0 % 10)] = sc at *
        go_wp2
        go_roundw
        case rel => exact ⟨_, 0 / 10, sc ++ b, rfl, HCAT.out, by go_num, by omega, hnew, hsz.out.1, HC.out.alloc _⟩
        case measure =>
          rw [hsz.out.2]
          have := hme.out
          simp only [intOf]
          omega
    · have hj0 : j = 0 := by omega
      subst hj0
      have hle : l ≠ [] := fun e => hgo (.inr e)
      have hbd : b.data.toList = dg m := by rw [hb]; exact HR.out.done hle
      have d2 : b.toList.isEmpty = false := by rw [hbl, hb]; simpa using hle
      have HBD := Lib.hid hbd
      have e1 : ((⟨#[]⟩ : ByteArray) ++ b).data.toList = dg m := by rw [ByteArray.data_append, Array.toList_append, hbd]; rfl
      have e2 : ((⟨#[]⟩ : ByteArray) ++ ⟨#[48]⟩ ++ b).data.toList = 48 :: dg m := by rw [ByteArray.data_append, Array.toList_append, ByteArray.data_append, Array.toList_append, hbd]; rfl
      have s1 : (⟨#[]⟩ : ByteArray).size ≤ 1 := by decide
      have s2 : (⟨#[48]⟩ : ByteArray).size ≤ 1 := by decide
      have z1 : ((⟨#[]⟩ : ByteArray) ++ b).size ≤ 9223372036854775807 := by rw [ByteArray.size_append]; omega
      have z2 : ((⟨#[]⟩ : ByteArray) ++ ⟨#[48]⟩ ++ b).size ≤ 9223372036854775807 := by rw [ByteArray.size_append, ByteArray.size_append]; omega
      have c1 := Lib.hid (number_same ((⟨#[]⟩ : ByteArray) ++ b) (m : Int) z1 (by rw [e1]; exact numOf_dg m hm))
      have c2 := Lib.hid (number_over ((⟨#[]⟩ : ByteArray) ++ b) (m : Int) z1 (by rw [e1]; exact numOf_dg m hm))
      have c3 := Lib.hid (number_under ((⟨#[]⟩ : ByteArray) ++ b) (m : Int) z1 (by rw [e1]; exact numOf_dg m hm))
      have c4 := Lib.hid (number_form ((⟨#[]⟩ : ByteArray) ++ ⟨#[48]⟩ ++ b) z2 (by rw [e2]; exact numOf_zero m))
      have H1 := HC.out
      clear e1 e2 z1 z2 s1 s2 hb hbl hbs hbd hle HB HR hgo HBD HC
      go_wp2_with fail
      refine (calls_since (w0 := w) (c1.out _) (by assumption)).mono ?_
      rintro e w1 ⟨rfl, hc1⟩
      go_wp2_with fail
      refine (calls_since (w0 := w) (c2.out _) (by assumption)).mono ?_
      rintro e w1 ⟨rfl, hc1⟩
      go_wp2_with fail
      refine (calls_since (w0 := w) (c3.out _) (by assumption)).mono ?_
      rintro e w1 ⟨rfl, hc1⟩
      go_wp2_with fail
      refine (calls_since (w0 := w) (c4.out _) (by assumption)).mono ?_
      rintro e w1 ⟨rfl, hc1⟩
      go_wp2_with fail
      refine (calls_since (w0 := w) (envAlive_calls _) (by assumption)).mono ?_
      rintro e w1 ⟨rfl, hc1⟩
      go_wp2
      go_ret
      exact ⟨rfl, Chg.below (by assumption)⟩

set_option maxRecDepth 100000 in
set_option maxHeartbeats 1000000 in
theorem digits_neg (n : Int) (m : Nat) (w : World) (hn : n.tmod 1000000000 = -(m : Int)) (hp : 0 < m) (hm : m < 1000000000) : Calls Tryd.prog 5 #[.int .i64 n] w fun e w' => e = .returned (.bool true) ∧ Below w.heap.size w w' := by
  have h0 : decide (-(m : Int) < 0) = true := decide_eq_true (by omega)
  go_enter Tryd.func5, Tryd.ntmps5
  go_wp2
  go_loopw [3, 4] (fun s k wr => ∃ (l : List UInt8) (j : Nat) (b : ByteArray), s = .string b ∧ b.data.toList = l ∧ k = .int .i64 j ∧ j ≤ m ∧ Hid (DigRel m j l) ∧ b.size ≤ 9 ∧ Hid (Chg w wr NoB)) (fun s k _ => (intOf k).toNat + emptyOf s)
  case atStart => exact ⟨[], m, ⟨#[]⟩, rfl, rfl, by go_num, Nat.le_refl _, .inl ⟨rfl, rfl⟩, by decide, Chg.refl _ _⟩
  case round =>
    obtain ⟨l, j, b, rfl, hb, rfl, hj, HR, hb9, HC⟩ := hrel
    have HB := Lib.hid hb
    have hbl : b.toList = b.data.toList := ByteArray.toList_eq b
    have hbs : b.data.toList.length = b.size := by simp
    by_cases hgo : 0 < j ∨ l = []
    · have hnew : Hid (DigRel m (j / 10) (UInt8.ofNat (48 + j % 10) :: l)) := HR.out.step hgo
      have hnl : Hid ((UInt8.ofNat (48 + j % 10) :: l).length ≤ 9) := hnew.out.length hm
      have hme : Hid (j / 10 < j + emptyOf (.string b)) := by
        show j / 10 < _
        rcases hgo with h | h
        · omega
        · have : b.size = 0 := by rw [← hbs, hb, h]; rfl
          simp only [emptyOf, if_pos this]
          omega
      have hcat : (str [UInt8.ofNat (48 + j % 10)] ++ b : ByteArray).data.toList = UInt8.ofNat (48 + j % 10) :: l := by rw [ByteArray.data_append, Array.toList_append, hb]; rfl
      have HCAT := Lib.hid hcat
      have hss : (str [UInt8.ofNat (48 + j % 10)]).size = 1 := rfl
      have hsz : Hid ((str [UInt8.ofNat (48 + j % 10)] ++ b).size ≤ 9 ∧ emptyOf (.string (str [UInt8.ofNat (48 + j % 10)] ++ b)) = 0) := by
        have e : (str [UInt8.ofNat (48 + j % 10)] ++ b).data.toList.length = (str [UInt8.ofNat (48 + j % 10)] ++ b).size := by simp
        have h9 := hnl.out
        rw [hcat] at e
        refine ⟨by omega, ?_⟩
        simp only [List.length_cons] at e
        simp only [emptyOf]
        rw [if_neg (by omega)]
      clear hb hbl hbs hcat
      by_cases hp0 : 0 < j
      · clear hgo
        have d1 : decide ((0 : Int) < (j : Int)) = true := decide_eq_true (by omega)
        have hconv := fun (wx : World) => conv_one wx (UInt8.ofNat (48 + j % 10)) (48 + (j : Int) % 10) (by rw [toNat_dig _ (Nat.mod_lt j (by decide))]; omega)
        generalize str [UInt8.ofNat (48 + j % 10)] = sc at *
        go_wp2
        go_roundw
        case rel => exact ⟨_, j / 10, sc ++ b, rfl, HCAT.out, by go_num, by omega, hnew, hsz.out.1, HC.out.alloc _⟩
        case measure =>
          rw [hsz.out.2]
          have := hme.out
          simp only [intOf]
          omega
      · have hle : l = [] := hgo.resolve_left hp0
        clear hgo
        obtain rfl : j = 0 := by omega
        have d2 : b.toList.isEmpty = true := by rw [ByteArray.toList_eq, HB.out, hle]; rfl
        clear hle
        have hconv := fun (wx : World) => conv_one wx (UInt8.ofNat (48 + 0 % 10)) 48 (by decide)
        generalize str [UInt8.ofNat (48 + 0 % 10)] = sc at *
        go_wp2
        go_roundw
        case rel => exact ⟨_, 0 / 10, sc ++ b, rfl, HCAT.out, by go_num, by omega, hnew, hsz.out.1, HC.out.alloc _⟩
        case measure =>
          rw [hsz.out.2]
          have := hme.out
          simp only [intOf]
          omega
    · have hj0 : j = 0 := by omega
      subst hj0
      have hle : l ≠ [] := fun e => hgo (.inr e)
      have hbd : b.data.toList = dg m := by rw [hb]; exact HR.out.done hle
      have d2 : b.toList.isEmpty = false := by rw [hbl, hb]; simpa using hle
      have HBD := Lib.hid hbd
      have e1 : ((⟨#[45]⟩ : ByteArray) ++ b).data.toList = 45 :: dg m := by rw [ByteArray.data_append, Array.toList_append, hbd]; rfl
      have e2 : ((⟨#[45]⟩ : ByteArray) ++ ⟨#[48]⟩ ++ b).data.toList = 45 :: 48 :: dg m := by rw [ByteArray.data_append, Array.toList_append, ByteArray.data_append, Array.toList_append, hbd]; rfl
      have s1 : (⟨#[45]⟩ : ByteArray).size ≤ 1 := by decide
      have s2 : (⟨#[48]⟩ : ByteArray).size ≤ 1 := by decide
      have z1 : ((⟨#[45]⟩ : ByteArray) ++ b).size ≤ 9223372036854775807 := by rw [ByteArray.size_append]; omega
      have z2 : ((⟨#[45]⟩ : ByteArray) ++ ⟨#[48]⟩ ++ b).size ≤ 9223372036854775807 := by rw [ByteArray.size_append, ByteArray.size_append]; omega
      have c1 := Lib.hid (number_same ((⟨#[45]⟩ : ByteArray) ++ b) (-(m : Int)) z1 (by rw [e1]; exact numOf_neg m hp hm))
      have c2 := Lib.hid (number_over ((⟨#[45]⟩ : ByteArray) ++ b) (-(m : Int)) z1 (by rw [e1]; exact numOf_neg m hp hm))
      have c3 := Lib.hid (number_under ((⟨#[45]⟩ : ByteArray) ++ b) (-(m : Int)) z1 (by rw [e1]; exact numOf_neg m hp hm))
      have c4 := Lib.hid (number_form ((⟨#[45]⟩ : ByteArray) ++ ⟨#[48]⟩ ++ b) z2 (by rw [e2]; exact numOf_negZero m))
      have H1 := HC.out
      clear e1 e2 z1 z2 s1 s2 hb hbl hbs hbd hle HB HR hgo HBD HC
      go_wp2_with fail
      refine (calls_since (w0 := w) (c1.out _) (by assumption)).mono ?_
      rintro e w1 ⟨rfl, hc1⟩
      go_wp2_with fail
      refine (calls_since (w0 := w) (c2.out _) (by assumption)).mono ?_
      rintro e w1 ⟨rfl, hc1⟩
      go_wp2_with fail
      refine (calls_since (w0 := w) (c3.out _) (by assumption)).mono ?_
      rintro e w1 ⟨rfl, hc1⟩
      go_wp2_with fail
      refine (calls_since (w0 := w) (c4.out _) (by assumption)).mono ?_
      rintro e w1 ⟨rfl, hc1⟩
      go_wp2_with fail
      refine (calls_since (w0 := w) (envAlive_calls _) (by assumption)).mono ?_
      rintro e w1 ⟨rfl, hc1⟩
      go_wp2
      go_ret
      exact ⟨rfl, Chg.below (by assumption)⟩

theorem digits_all (n : Int) (w : World) : Calls Tryd.prog 5 #[.int .i64 n] w fun e w' => e = .returned (.bool true) ∧ Below w.heap.size w w' := by
  have h1 := Int.tmod_lt_of_pos n (b := 1000000000) (by decide)
  have h2 := Int.lt_tmod_of_pos n (b := 1000000000) (by decide)
  by_cases h : 0 ≤ n.tmod 1000000000
  · obtain ⟨m, hm⟩ := Int.eq_ofNat_of_zero_le h
    exact digits_pos n m w hm (by omega)
  · obtain ⟨m, hm⟩ := Int.eq_ofNat_of_zero_le (a := -(n.tmod 1000000000)) (by omega)
    exact digits_neg n m w (by omega) (by omega) (by omega)
#print axioms digits_all
end Go.Proofs.YtbilkpioddjlfaaDoor
