/- Numbers in texts: what env.Number and its reference tell of a text: plain laws on lists of bytes. No condition. -/
import Derived.Test.YtbilkpioddjlfaaGreatDoorBase
import Derived.Lib.Atoi
import Derived.Lib.SlTrimSet
import Derived.Lib.Strings
namespace Go.Proofs.YtbilkpioddjlfaaGreatDoor
open Go.RowKit

def digs : List UInt8 := [48, 49, 50, 51, 52, 53, 54, 55, 56, 57]
/-- A text without its sign. -/
def body (s : List UInt8) : List UInt8 := Lib.trimPrefix s [45]
/-- The number that a text is. -/
def numOf (s : List UInt8) : Option Int :=
  if s = [48] ∨ (body s ≠ [] ∧ (body s).length ≤ 9 ∧ (body s).head? ≠ some 48) then (Lib.decNat (body s)).map fun (m : Nat) => if s.head? = some 45 then -(m : Int) else m else none
/-- What Number answers. -/
def numV (s : List UInt8) (lo hi : Int) : Int × Int := match numOf s with
  | none => (0, 4)
  | some n => if n < lo ∨ hi < n then (0, 3) else (n, 0)

theorem dig_iff (c : UInt8) : digs.contains c = true ↔ (48 ≤ c.toNat ∧ c.toNat ≤ 57) := by
  simp only [digs, List.contains_iff_mem, List.mem_cons, List.not_mem_nil, or_false, ← UInt8.toNat_inj]
  simp
  omega
theorem digitVal_isSome (c : UInt8) : (Lib.digitVal c).isSome = digs.contains c := by
  rw [Bool.eq_iff_iff, dig_iff]
  unfold Lib.digitVal
  split <;> simp_all
theorem decFrom_isSome (l : List UInt8) (acc : Nat) : (Lib.decFrom acc l).isSome = l.all (digs.contains ·) := by
  induction l generalizing acc with
  | nil => rfl
  | cons c l ih =>
    rw [Lib.decFrom, List.all_cons, ← digitVal_isSome]
    cases h : Lib.digitVal c with
    | none => rfl
    | some d => rw [ih]; rfl
theorem dropWhile_nil {l : List UInt8} {p : UInt8 → Bool} : l.dropWhile p = [] ↔ l.all p = true := by
  induction l with
  | nil => simp
  | cons c l ih =>
    rw [List.dropWhile_cons, List.all_cons]
    cases h : p c <;> simp [ih]
theorem trim_nil (l : List UInt8) : Lib.trimS l digs = [] ↔ l.all (digs.contains ·) = true := by
  unfold Lib.trimS Lib.trimLeftS Lib.trimRightS
  rw [dropWhile_nil, List.all_reverse]
  constructor
  · intro h
    have h2 : (l.reverse.dropWhile (digs.contains ·)).all (digs.contains ·) = true := h
    cases hd : l.reverse.dropWhile (digs.contains ·) with
    | nil => rw [dropWhile_nil, List.all_reverse] at hd; exact hd
    | cons c r =>
      rw [hd, List.all_cons, Bool.and_eq_true] at h2
      have := List.head_dropWhile_not (p := (digs.contains ·)) (l := l.reverse) (by rw [hd]; simp)
      simp only [hd, List.head_cons] at this
      rw [this] at h2
      exact absurd h2.1 (by decide)
  · intro h
    have : l.reverse.dropWhile (digs.contains ·) = [] := by rw [dropWhile_nil, List.all_reverse]; exact h
    rw [this]; rfl
theorem decNat_isSome (l : List UInt8) (h : l ≠ []) : (Lib.decNat l).isSome = l.all (digs.contains ·) := by
  unfold Lib.decNat
  rw [if_neg (by simpa using h), decFrom_isSome]
theorem body_cons (c : UInt8) (r : List UInt8) : body (c :: r) = if c = 45 then r else c :: r := by
  unfold body Lib.trimPrefix Lib.hasPrefix
  by_cases h : c = 45
  · subst h; simp
  · simp [h, Ne.symm h]
theorem body_nil : body [] = [] := rfl
/-- strconv.Atoi tells the same. -/
theorem atoi_numOf {s : List UInt8} {n : Int} (h : numOf s = some n) : Lib.atoi s = some n := by
  unfold numOf at h
  split at h
  · cases s with
    | nil => simp [body_nil, Lib.decNat] at h
    | cons c r =>
      rw [Option.map_eq_some_iff] at h
      obtain ⟨m, hm, rfl⟩ := h
      rw [body_cons] at hm
      unfold Lib.atoi
      by_cases hc : c = 45
      · subst hc
        simp only [if_true] at hm
        simp [hm]
      · rw [if_neg hc] at hm
        have h43 : c ≠ 43 := by
          rintro rfl
          simp [Lib.decNat, Lib.decFrom, Lib.digitVal] at hm
        simp [hc, h43, hm]
  · cases h
theorem decFrom_lt (l : List UInt8) : ∀ (acc n k : Nat), Lib.decFrom acc l = some n → acc < 10 ^ k → n < 10 ^ (k + l.length) := by
  induction l with
  | nil => intro acc n k h hk; simp only [Lib.decFrom, Option.some.injEq] at h; subst h; simpa using hk
  | cons c l ih =>
    intro acc n k h hk
    rw [Lib.decFrom] at h
    cases hd : Lib.digitVal c with
    | none => rw [hd] at h; cases h
    | some d =>
      rw [hd] at h
      have hd9 : d ≤ 9 := by
        unfold Lib.digitVal at hd
        split at hd
        · injection hd with hd; omega
        · cases hd
      have := ih (acc * 10 + d) n (k + 1) h (by rw [Nat.pow_succ]; omega)
      rw [List.length_cons, show k + (l.length + 1) = k + 1 + l.length by omega]
      exact this
theorem numOf_bound {s : List UInt8} {n : Int} (h : numOf s = some n) : -1000000000 < n ∧ n < 1000000000 := by
  unfold numOf at h
  split at h
  · rename_i hc
    rw [Option.map_eq_some_iff] at h
    obtain ⟨m, hm, rfl⟩ := h
    have hl : (body s).length ≤ 9 := by
      rcases hc with rfl | h
      · decide
      · exact h.2.1
    unfold Lib.decNat at hm
    split at hm
    · cases hm
    · have := decFrom_lt _ 0 m 0 hm (by decide)
      have h2 : (10 : Nat) ^ (0 + (body s).length) ≤ 10 ^ 9 := Nat.pow_le_pow_right (by decide) (by omega)
      have h3 : (10 : Nat) ^ 9 = 1000000000 := by decide
      split <;> omega
  · cases h
theorem numOf_length {s : List UInt8} {n : Int} (h : numOf s = some n) : s.length ≤ 10 := by
  unfold numOf at h
  split at h
  · rename_i hc
    rcases hc with rfl | h
    · decide
    · cases s with
      | nil => simp
      | cons c r =>
        have h2 := h.2.1
        rw [body_cons] at h2
        split at h2 <;> simp at h2 ⊢ <;> omega
  · cases h
#print axioms atoi_numOf
end Go.Proofs.YtbilkpioddjlfaaGreatDoor
