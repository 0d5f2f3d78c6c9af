/- A cuecardref16.Env as a list of variables: what it reads as, where a variable stands in it. Plain laws. No condition. -/
import Derived.Test.YtbilkpioddjlfaaGreatDoorEnvM
import Derived.Laws.OwnMore
import Derived.RangeFuncBox
import Derived.Test.YtbilkpioddjlfaaGreatDoorApp
namespace Go.Proofs.YtbilkpioddjlfaaGreatDoor
open Go.RowKit

def varC (p : List UInt8 × List UInt8) : List Value := [.string (str p.1), .string (str p.2)]
def varsC (m : Vars) : List Value := m.flatMap varC
theorem varsC_length (m : Vars) : (varsC m).length = m.length * 2 := by
  induction m with
  | nil => rfl
  | cons p m ih =>
    have e : varsC (p :: m) = varC p ++ varsC m := rfl
    rw [e, List.length_append, ih, List.length_cons]
    simp [varC]; omega
theorem varsC_append (a b : Vars) : varsC (a ++ b) = varsC a ++ varsC b := by simp [varsC]
theorem varsC_get (m : Vars) (k : Nat) (h : k < m.length) : (varsC m)[k * 2]? = some (.string (str m[k].1)) ∧ (varsC m)[k * 2 + 1]? = some (.string (str m[k].2)) := by
  induction m generalizing k with
  | nil => simp at h
  | cons p m ih =>
    have e : varsC (p :: m) = .string (str p.1) :: .string (str p.2) :: varsC m := rfl
    rw [e]
    cases k with
    | zero => exact ⟨rfl, rfl⟩
    | succ k =>
      have := ih k (by simpa using h)
      have e1 : (k + 1) * 2 = k * 2 + 2 := by omega
      rw [e1]
      exact this
theorem varsC_one (m : Vars) : ∀ u ∈ varsC m, u.oneCell' = true := by
  intro u hu
  obtain ⟨p, _, hp⟩ := List.mem_flatMap.1 hu
  simp only [varC, List.mem_cons, List.not_mem_nil, or_false] at hp
  rcases hp with rfl | rfl <;> rfl
/-- Where a variable stands. -/
def idxV : Vars → List UInt8 → Option Nat
  | [], _ => none
  | p :: m, k => if p.1 = k then some 0 else (idxV m k).map (· + 1)
theorem idxV_none {m : Vars} {k : List UInt8} (h : ∀ j (hj : j < m.length), m[j].1 ≠ k) : idxV m k = none := by
  induction m with
  | nil => rfl
  | cons p m ih =>
    unfold idxV
    have h0 : p.1 ≠ k := h 0 (by simp)
    rw [if_neg h0, ih (fun j hj => h (j + 1) (by simpa using hj))]; rfl
theorem idxV_some {m : Vars} {k : List UInt8} {i : Nat} (hi : i < m.length) (h : ∀ j (hj : j < i), (m[j]'(by omega)).1 ≠ k) (he : m[i].1 = k) : idxV m k = some i := by
  induction m generalizing i with
  | nil => simp at hi
  | cons p m ih =>
    unfold idxV
    cases i with
    | zero => rw [if_pos (show p.1 = k from he)]
    | succ i =>
      have h0 : p.1 ≠ k := h 0 (by omega)
      rw [if_neg h0, ih (i := i) (by simpa using hi) (fun j hj => h (j + 1) (by omega)) he]; rfl
theorem idxV_cases (m : Vars) (k : List UInt8) : (idxV m k = none ∧ getV m k = none ∧ ∀ v, putV m k v = m ++ [(k, v)]) ∨ ∃ i x, ∃ h : i < m.length, idxV m k = some i ∧ getV m k = some x ∧ m[i] = (k, x) ∧ ∀ v, putV m k v = m.set i (k, v) := by
  induction m with
  | nil => exact .inl ⟨rfl, rfl, fun _ => rfl⟩
  | cons p m ih =>
    by_cases hp : p.1 = k
    · exact .inr ⟨0, p.2, by simp, by simp [idxV, hp], by simp [getV, hp], by subst hp; rfl, fun v => by simp [putV, hp]⟩
    · rcases ih with ⟨h1, h2, h3⟩ | ⟨i, x, h, h1, h2, h3, h4⟩
      · exact .inl ⟨by simp [idxV, hp, h1], by simp [getV, hp, h2], fun v => by simp [putV, hp, h3]⟩
      · exact .inr ⟨i + 1, x, by simpa using h, by simp [idxV, hp, h1], by simp [getV, hp, h2], by simpa using h3, fun v => by simp [putV, hp, h4]⟩
theorem varsC_set (m : Vars) (i : Nat) (h : i < m.length) (k v x : List UInt8) (he : m[i] = (k, x)) : varsC (m.set i (k, v)) = (varsC m).set (i * 2 + 1) (.string (str v)) := by
  induction m generalizing i with
  | nil => simp at h
  | cons p m ih =>
    have e : ∀ q, varsC (q :: m) = .string (str q.1) :: .string (str q.2) :: varsC m := fun _ => rfl
    cases i with
    | zero =>
      obtain rfl : p = (k, x) := by simpa using he
      simp [e]
    | succ i =>
      have := ih i (by simpa using h) (by simpa using he)
      have e1 : (i + 1) * 2 + 1 = (i * 2 + 1) + 2 := by omega
      rw [e1, List.set_cons_succ, e, List.set_cons_succ, List.set_cons_succ, ← this]
      rfl

theorem own_form {w : World} {base n size : Nat} {e : TypeId} {v : Value} {xs : List Value} (h : w.ownsRow base e size v n xs) : ∃ A c, v = .slice A n c := by
  rcases h.2 with ⟨rfl, rfl⟩ | ⟨g, cap, cur, rfl, _⟩
  · exact ⟨_, _, rfl⟩
  · exact ⟨_, _, rfl⟩
/-- The object at p has the variables m, in a row of the call's own. -/
structure RefAt (w : World) (p B : Nat) (v : Value) (m : Vars) : Prop where
  cells : w.heap[p]? = some (.cells #[v] 30 (0, 0))
  low : B ≤ p
  ne : v.ownBlock ≠ some p
  own : w.ownsRow B 58 2 v m.length (varsC m)
namespace RefAt
variable {w w' : World} {p B : Nat} {v : Value} {m : Vars}
theorem lt (h : RefAt w p B v m) : p < w.heap.size := (Array.getElem?_eq_some_iff.1 h.cells).1
theorem cell (h : RefAt w p B v m) : w.cell? ⟨p, 0, none⟩ = some v := by simp [World.cell?, h.cells]
theorem row (h : RefAt w p B v m) : RdRow w (fun k => B ≤ k ∧ k ≠ p) 2 m.length v (varsC m) := RdRow.ofOwn h.own (by decide) (fun g hg => ⟨(h.own.lt g hg).1, fun e => h.ne (by rw [hg, e])⟩)
theorem chg {S : Nat → Prop} (h : RefAt w p B v m) (hc : Chg w w' S) (hS : ∀ k, B ≤ k → k < w.heap.size → ¬ S k) : RefAt w' p B v m := by
  refine ⟨(hc.block p h.lt (hS p h.low h.lt)).trans h.cells, h.low, h.ne, ?_⟩
  have h' := h.own
  refine ⟨h'.1, ?_⟩
  rcases h'.2 with h1 | ⟨g, cap, cur, e, hg, hh, hr⟩
  · exact .inl h1
  · exact .inr ⟨g, cap, cur, e, hg, (hc.block g (Array.getElem?_eq_some_iff.1 hh).1 (hS g hg (Array.getElem?_eq_some_iff.1 hh).1)).trans hh, hr⟩
theorem made (w : World) (B : Nat) (hB : B ≤ w.heap.size) : RefAt (w.alloc (.cells #[.slice none 0 0] 30)) w.heap.size B (.slice none 0 0) [] := by
  refine ⟨World.alloc_heap_new _ _, hB, by simp [Value.ownBlock], World.ownsRow_nil _ _ _ _⟩
end RefAt
#print axioms varsC_set
#print axioms RefAt.made
end Go.Proofs.YtbilkpioddjlfaaGreatDoor
