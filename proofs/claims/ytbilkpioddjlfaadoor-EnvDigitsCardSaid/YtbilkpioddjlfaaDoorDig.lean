/- The digits of a number, and what Number tells of them: plain laws. No condition. -/
import Derived.Test.YtbilkpioddjlfaaDoorNumA
namespace Go.Proofs.YtbilkpioddjlfaaDoor
open Go.RowKit

/-- The digits of a number, its last one last. -/
def dg (n : Nat) : List UInt8 := if n < 10 then [UInt8.ofNat (48 + n)] else dg (n / 10) ++ [UInt8.ofNat (48 + n % 10)]
termination_by n
decreasing_by omega

theorem dg_lt (n : Nat) (h : n < 10) : dg n = [UInt8.ofNat (48 + n)] := by rw [dg, if_pos h]
theorem dg_ge (n : Nat) (h : ¬ n < 10) : dg n = dg (n / 10) ++ [UInt8.ofNat (48 + n % 10)] := by rw [dg, if_neg h]
theorem toNat_dig (d : Nat) (h : d < 10) : (UInt8.ofNat (48 + d)).toNat = 48 + d := by
  rw [UInt8.toNat_ofNat']; omega
theorem digitVal_dig (d : Nat) (h : d < 10) : Lib.digitVal (UInt8.ofNat (48 + d)) = some d := by
  unfold Lib.digitVal
  rw [toNat_dig d h, if_pos ⟨by omega, by omega⟩]
  congr 1; omega
theorem decFrom_append (l m : List UInt8) : ∀ acc, Lib.decFrom acc (l ++ m) = (Lib.decFrom acc l).bind fun n => Lib.decFrom n m := by
  induction l with
  | nil => intro acc; rfl
  | cons c l ih =>
    intro acc
    rw [List.cons_append, Lib.decFrom, Lib.decFrom]
    cases Lib.digitVal c with
    | none => rfl
    | some d => exact ih _
theorem decFrom_dg (n : Nat) : Lib.decFrom 0 (dg n) = some n := by
  induction n using Nat.strongRecOn with
  | ind n ih =>
    by_cases h : n < 10
    · rw [dg_lt n h]
      simp only [Lib.decFrom, digitVal_dig n h]
      simp
    · rw [dg_ge n h, decFrom_append, ih (n / 10) (by omega)]
      simp only [Option.bind_some, Lib.decFrom, digitVal_dig _ (Nat.mod_lt n (by decide))]
      congr 1; omega
theorem dg_ne (n : Nat) : dg n ≠ [] := by
  by_cases h : n < 10
  · rw [dg_lt n h]; simp
  · rw [dg_ge n h]; simp
theorem dg_head (n : Nat) (h : 0 < n) : (dg n).head? ≠ some 48 ∧ (dg n).head? ≠ some 45 := by
  induction n using Nat.strongRecOn with
  | ind n ih =>
    by_cases h10 : n < 10
    · rw [dg_lt n h10]
      have e := toNat_dig n h10
      constructor
      all_goals
        intro hh
        simp only [List.head?_cons, Option.some.injEq] at hh
        rw [hh] at e
      · have : (48 : UInt8).toNat = 48 := by decide
        omega
      · have : (45 : UInt8).toNat = 45 := by decide
        omega
    · rw [dg_ge n h10]
      have hi := ih (n / 10) (by omega) (by omega)
      cases hd : dg (n / 10) with
      | nil => exact absurd hd (dg_ne _)
      | cons c r => rw [hd] at hi; exact hi
theorem dg_length (n k : Nat) (h : n < 10 ^ (k + 1)) : (dg n).length ≤ k + 1 := by
  induction k generalizing n with
  | zero => rw [dg_lt n (by simpa using h)]; simp
  | succ k ih =>
    by_cases h10 : n < 10
    · rw [dg_lt n h10]; simp
    · rw [dg_ge n h10, List.length_append]
      have := ih (n / 10) (by rw [Nat.div_lt_iff_lt_mul (by decide)]; rw [← Nat.pow_succ]; exact h)
      simp; omega
theorem numOf_dg (n : Nat) (h : n < 1000000000) : numOf (dg n) = some (n : Int) := by
  have hb : body (dg n) = dg n ∧ (dg n).head? ≠ some 45 := by
    by_cases h0 : n = 0
    · subst h0; rw [dg_lt 0 (by decide)]; decide
    · have hh := dg_head n (by omega)
      cases hd : dg n with
      | nil => exact absurd hd (dg_ne _)
      | cons c r =>
        rw [hd] at hh
        rw [body_cons, if_neg (fun e => hh.2 (by rw [e]; rfl))]
        exact ⟨rfl, hh.2⟩
  unfold numOf
  rw [hb.1, if_pos, Lib.decNat, if_neg (by simpa using dg_ne n), decFrom_dg]
  · rw [Option.map_some, if_neg hb.2]
  · by_cases h0 : n = 0
    · subst h0; left; rw [dg_lt 0 (by decide)]; decide
    · right
      exact ⟨dg_ne n, dg_length n 8 (by simpa using h), (dg_head n (by omega)).1⟩
theorem numOf_neg (n : Nat) (h0 : 0 < n) (h : n < 1000000000) : numOf (45 :: dg n) = some (-(n : Int)) := by
  unfold numOf
  rw [body_cons, if_pos rfl, if_pos, Lib.decNat, if_neg (by simpa using dg_ne n), decFrom_dg]
  · rw [Option.map_some, if_pos (by rfl)]
  · right
    exact ⟨dg_ne n, dg_length n 8 (by simpa using h), (dg_head n h0).1⟩
theorem numOf_zero (n : Nat) : numOf (48 :: dg n) = none := by
  unfold numOf
  have e : body (48 :: dg n) = 48 :: dg n := by rw [body_cons, if_neg (by decide)]
  rw [if_neg]
  rintro (h | h)
  · exact dg_ne n (by injection h)
  · rw [e] at h; exact h.2.2 rfl
theorem numOf_negZero (n : Nat) : numOf (45 :: 48 :: dg n) = none := by
  unfold numOf
  have e : body (45 :: 48 :: dg n) = 48 :: dg n := by rw [body_cons, if_pos rfl]
  rw [if_neg]
  rintro (h | h)
  · injection h with h; exact absurd h (by decide)
  · rw [e] at h; exact h.2.2 rfl
/-- What the loop keeps: what is left, and the digits so far. -/
def DigRel (n k : Nat) (l : List UInt8) : Prop := (l = [] ∧ k = n) ∨ (0 < k ∧ dg k ++ l = dg n) ∨ (k = 0 ∧ l ≠ [] ∧ l = dg n)
theorem DigRel.step {n k : Nat} {l : List UInt8} (h : DigRel n k l) (hk : 0 < k ∨ l = []) : DigRel n (k / 10) (UInt8.ofNat (48 + k % 10) :: l) := by
  have h2 : dg k ++ l = dg n := by
    rcases h with ⟨rfl, rfl⟩ | ⟨_, h⟩ | ⟨h1, h2, _⟩
    · simp
    · exact h
    · rcases hk with hk | hk
      · omega
      · exact absurd hk h2
  by_cases h10 : k < 10
  · refine .inr (.inr ⟨by omega, by simp, ?_⟩)
    rw [← h2, dg_lt k h10, Nat.mod_eq_of_lt h10]; rfl
  · refine .inr (.inl ⟨by omega, ?_⟩)
    rw [← h2, dg_ge k h10]
    simp
theorem DigRel.done {n : Nat} {l : List UInt8} (h : DigRel n 0 l) (hl : l ≠ []) : l = dg n := by
  rcases h with ⟨h, _⟩ | ⟨h, _⟩ | ⟨_, _, h⟩
  · exact absurd h hl
  · omega
  · exact h
theorem DigRel.length {n k : Nat} {l : List UInt8} (h : DigRel n k l) (hn : n < 1000000000) : l.length ≤ 9 := by
  have hd := dg_length n 8 (by simpa using hn)
  rcases h with ⟨rfl, _⟩ | ⟨_, h⟩ | ⟨_, _, rfl⟩
  · simp
  · have : (dg k ++ l).length = (dg n).length := by rw [h]
    rw [List.length_append] at this
    omega
  · exact hd
#print axioms numOf_neg
end Go.Proofs.YtbilkpioddjlfaaDoor
