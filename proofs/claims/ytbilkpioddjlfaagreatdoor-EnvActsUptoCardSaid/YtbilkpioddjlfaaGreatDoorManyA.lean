/- EnvMany's variables: their names are right and no two are alike; what Set answers to each, and leaves; the names in order. Plain laws. No condition. -/
import Derived.Test.YtbilkpioddjlfaaGreatDoorNames
import Derived.Test.YtbilkpioddjlfaaGreatDoorEnvS
namespace Go.Proofs.YtbilkpioddjlfaaGreatDoor
open Go.RowKit

def nm (i : Nat) : List UInt8 := [118, UInt8.ofNat (97 + i / 26 % 26), UInt8.ofNat (97 + i % 26), UInt8.ofNat (65 + i / 676)]
def manyM (v : List UInt8) (j : Nat) : Vars := (List.range j).map fun i => (nm i, v)

theorem nm_inj {i j : Nat} (hi : i < 300) (hj : j < 300) (h : nm i = nm j) : i = j := by
  simp only [nm, List.cons.injEq, and_true, true_and] at h
  obtain ⟨h1, h2, _⟩ := h
  have a1 := congrArg UInt8.toNat h1
  have a2 := congrArg UInt8.toNat h2
  simp only [UInt8.toNat_ofNat'] at a1 a2
  omega
theorem nm_right : ∀ i, i < 300 → rightB (nm i) = true := by decide +kernel
theorem manyM_names (v : List UInt8) (j : Nat) : (manyM v j).map (·.1) = (List.range j).map nm := by simp [manyM]
theorem manyM_length (v : List UInt8) (j : Nat) : (manyM v j).length = j := by simp [manyM]
theorem many_none (v : List UInt8) {i j : Nat} (hj : j ≤ i) (hi : i < 300) : getV (manyM v j) (nm i) = none := by
  rw [getV_none_iff, manyM_names]
  intro h
  obtain ⟨k, hk, e⟩ := List.mem_map.1 h
  have hk' := List.mem_range.1 hk
  have := nm_inj (by omega) hi e
  omega
theorem putV_new {m : Vars} {k v : List UInt8} (h : getV m k = none) : putV m k v = m ++ [(k, v)] := by
  induction m with
  | nil => rfl
  | cons p m ih =>
    unfold getV at h
    unfold putV
    by_cases hp : p.1 = k
    · simp [hp] at h
    · rw [if_neg hp] at h ⊢
      rw [ih h]; rfl
theorem many_set {v : List UInt8} {i : Nat} (hv : v.length ≤ 100) (hi : i < 256) : setE (manyM v i) (nm i) v = 0 ∧ setM (manyM v i) (nm i) v = manyM v (i + 1) := by
  have h0 := many_none v (Nat.le_refl i) (by omega : i < 300)
  have hE : setE (manyM v i) (nm i) v = 0 := by
    unfold setE
    rw [nm_right i (by omega), if_neg (by decide), if_neg (by omega), if_neg (by rw [manyM_length]; omega)]
  refine ⟨hE, ?_⟩
  unfold setM
  rw [if_pos hE, putV_new h0]
  simp [manyM, List.range_succ]
theorem many_full {v : List UInt8} {i : Nat} (hv : v.length ≤ 100) (hi : 256 ≤ i) (hi' : i < 300) : setE (manyM v 256) (nm i) v = 10 ∧ setM (manyM v 256) (nm i) v = manyM v 256 := by
  have h0 := many_none v hi hi'
  have hE : setE (manyM v 256) (nm i) v = 10 := by
    unfold setE
    rw [nm_right i (by omega), if_neg (by decide), if_neg (by omega), if_pos (by rw [manyM_length, h0]; exact ⟨rfl, rfl⟩)]
  refine ⟨hE, ?_⟩
  unfold setM
  rw [if_neg (by rw [hE]; decide)]
/-- The next round's variables. -/
theorem many_step {v : List UInt8} {i : Nat} (hv : v.length ≤ 100) (hi : i < 300) : setE (manyM v (min i 256)) (nm i) v = (if i < 256 then 0 else 10) ∧ setM (manyM v (min i 256)) (nm i) v = manyM v (min (i + 1) 256) := by
  by_cases h : i < 256
  · rw [if_pos h, Nat.min_eq_left (by omega), Nat.min_eq_left (by omega)]
    exact many_set hv h
  · rw [if_neg h, Nat.min_eq_right (by omega), Nat.min_eq_right (by omega)]
    exact many_full hv (by omega) hi

/-- A name that is there may be set anew: the names stay. -/
theorem set_again {m : Vars} {s x : List UInt8} (hs : s ∈ m.map (·.1)) (hr : rightB s = true) (hx : x.length ≤ 200) : setE m s x = 0 ∧ (setM m s x).map (·.1) = m.map (·.1) ∧ getV (setM m s x) s = some x := by
  have h0 : (getV m s).isSome = true := by
    have := getV_none_iff m s
    cases hg : getV m s with
    | none => exact absurd hs (this.1 hg)
    | some _ => rfl
  have hE : setE m s x = 0 := by
    unfold setE
    rw [hr, if_neg (by decide), if_neg (by omega), if_neg (by rw [h0]; intro h; exact absurd h.1 (by decide))]
  unfold setM
  rw [if_pos hE]
  exact ⟨hE, by rw [names_put, if_pos h0], getV_put_same _ _ _⟩
theorem namesV_names {m m' : Vars} (h : m.map (·.1) = m'.map (·.1)) : namesV m = namesV m' := by unfold namesV; rw [h]
theorem mem_namesV {m : Vars} {s : List UInt8} : s ∈ namesV m ↔ s ∈ m.map (·.1) := by unfold namesV; exact (List.mergeSort_perm _ _).mem_iff
theorem namesV_sorted {m : Vars} (hn : (m.map (·.1)).Nodup) : (namesV m).Pairwise (fun a b => a < b) := by
  have tr : ∀ a b c : List UInt8, leB a b = true → leB b c = true → leB a c = true := fun a b c h1 h2 => by simp only [leB, decide_eq_true_eq] at *; exact List.le_trans h1 h2
  have to : ∀ a b : List UInt8, (leB a b || leB b a) = true := fun a b => by simp only [leB, Bool.or_eq_true, decide_eq_true_eq]; exact List.le_total a b
  have h1 : (namesV m).Pairwise (fun a b => leB a b = true) := List.pairwise_mergeSort tr to _
  have h2 : (namesV m).Nodup := ((List.mergeSort_perm _ _).nodup_iff).2 hn
  refine (h1.and h2).imp fun {a b} ⟨h, hne⟩ => ?_
  simp only [leB, decide_eq_true_eq] at h
  by_cases hlt : a < b
  · exact hlt
  · exact absurd (List.le_antisymm h (List.not_lt.1 hlt)) hne
theorem namesV_lt {m : Vars} (hn : (m.map (·.1)).Nodup) {i j : Nat} (hij : i < j) (hj : j < (namesV m).length) : (namesV m)[i]'(by omega) < (namesV m)[j] :=
  List.pairwise_iff_getElem.1 (namesV_sorted hn) i j (by omega) hj hij
/-- Go's order of texts is the order of their bytes' lists. -/
theorem less_of_lt : ∀ (x y : List UInt8), x < y → Op.bytesLess x y = true
  | [], [], h => absurd h (List.lt_irrefl _)
  | _ :: _, [], h => absurd h (List.not_lt_nil _)
  | [], _ :: _, _ => rfl
  | a :: x, b :: y, h => by
    rw [Op.bytesLess]
    rcases List.cons_lt_cons_iff.1 h with h | ⟨h1, h2⟩
    · simp [h]
    · simp [h1, less_of_lt x y h2]
theorem many_mem {v : List UInt8} {j : Nat} (hj : j ≤ 256) {s : List UInt8} (h : s ∈ (manyM v j).map (·.1)) : rightB s = true ∧ s.length = 4 := by
  rw [manyM_names] at h
  obtain ⟨i, hi, rfl⟩ := List.mem_map.1 h
  exact ⟨nm_right i (by have := List.mem_range.1 hi; omega), rfl⟩
#print axioms many_step
#print axioms namesV_lt
end Go.Proofs.YtbilkpioddjlfaaGreatDoor
