/- What words tell: two words' parts in one; a variable alone; how much they take. Plain laws. No condition. -/
import Derived.Test.YtbilkpioddjlfaaGreatDoorEnvW
import Derived.Test.YtbilkpioddjlfaaGreatDoorMapAt
namespace Go.Proofs.YtbilkpioddjlfaaGreatDoor
open Go.RowKit

theorem textV_cons (m : Vars) (p : PartV) (ps : List PartV) (acc : List UInt8) : textV m (p :: ps) acc = match partT m p with
    | none => none
    | some t => textV m ps (acc ++ t) := rfl
theorem textV_append (m : Vars) (a b : List PartV) : ∀ acc, textV m (a ++ b) acc = (textV m a acc).bind fun t => textV m b t := by
  induction a with
  | nil => intro acc; rfl
  | cons p a ih =>
    intro acc
    rw [List.cons_append, textV_cons, textV_cons]
    cases partT m p with
    | none => rfl
    | some t => exact ih _
theorem textV_acc (m : Vars) (b : List PartV) : ∀ acc, textV m b acc = (textV m b []).map (acc ++ ·) := by
  induction b with
  | nil => intro acc; simp [textV]
  | cons p b ih =>
    intro acc
    rw [textV_cons, textV_cons]
    cases partT m p with
    | none => rfl
    | some t =>
      show textV m b (acc ++ t) = (textV m b ([] ++ t)).map (acc ++ ·)
      rw [ih (acc ++ t), ih ([] ++ t)]
      cases textV m b [] <;> simp
/-- P16.2: of two words' parts in one. -/
theorem words_law (m : Vars) (a b : List PartV) :
    ((wordV m a).2 ≠ 0 ∨ (wordV m b).2 ≠ 0 → (wordV m (a ++ b)).2 ≠ 0 ∧ (wordV m (a ++ b)).1 = []) ∧
    ((wordV m a).2 = 0 → (wordV m b).2 = 0 → ((wordV m (a ++ b)).2 = 0 ∧ (wordV m (a ++ b)).1 = (wordV m a).1 ++ (wordV m b).1) ∨ (wordV m (a ++ b)).2 = 6) := by
  have h := textV_append m a b []
  unfold wordV
  rw [h]
  cases ha : textV m a [] with
  | none => simp
  | some t =>
    show _ ∧ _
    rw [show (some t).bind (fun t => textV m b t) = textV m b t from rfl, textV_acc m b t]
    cases hb : textV m b [] with
    | none => simp
    | some u =>
      simp only [Option.map_some, List.length_append]
      by_cases h1 : 16777216 < t.length
      · have h3 : 16777216 < t.length + u.length := by omega
        simp [h1, h3]
      · by_cases h2 : 16777216 < u.length
        · have h3 : 16777216 < t.length + u.length := by omega
          simp [h1, h2, h3]
        · by_cases h3 : 16777216 < t.length + u.length
          · simp [h1, h2, h3]
          · simp [h1, h2, h3]
/-- No value is longer than a value may be. -/
def Short (m : Vars) : Prop := ∀ n x, getV m n = some x → x.length ≤ 16777216
theorem Short.set {m : Vars} (h : Short m) (n v : List UInt8) : Short (setM m n v) := by
  unfold setM
  split
  · rename_i hE
    intro k x hk
    by_cases e : k = n
    · subst e
      rw [getV_put_same] at hk
      cases hk
      unfold setE at hE
      split at hE
      · cases hE
      · split at hE
        · cases hE
        · omega
    · rw [getV_put_other _ _ _ _ e] at hk
      exact h k x hk
  · exact h
theorem part_short {m : Vars} (h : Short m) {p : PartV} (hp : p.2.size ≤ 16777216) : ((partT m p).getD []).length ≤ 16777216 := by
  unfold partT
  split
  · cases hg : getV m p.2.data.toList with
    | none => simp
    | some x => exact h _ _ hg
  · have : p.2.data.toList.length = p.2.size := Array.length_toList
    simp only [Option.getD_some]; omega
theorem sum_short {m : Vars} (h : Short m) : ∀ (ps : List PartV), (∀ p ∈ ps, p.2.size ≤ 16777216) → sumV m ps ≤ ps.length * 16777216
  | [], _ => by simp [sumV]
  | p :: ps, hp => by
    have h1 := part_short h (hp p (by simp))
    have h2 := sum_short h ps (fun q hq => hp q (by simp [hq]))
    simp only [sumV, List.length_cons]; omega
theorem word_one {m : Vars} {n : ByteArray} {x : List UInt8} (hg : getV m n.data.toList = some x) (hx : x.length ≤ 16777216) : wordV m [(true, n)] = (x, 0) := by
  have ht : textV m [(true, n)] [] = some x := by simp [textV, partT, hg]
  unfold wordV
  rw [ht]
  simp only
  rw [if_neg (by omega)]
theorem word_short (m : Vars) (a : List PartV) : (wordV m a).1.length ≤ 16777216 := by
  unfold wordV
  cases textV m a [] with
  | none => simp
  | some t =>
    show (if 16777216 < t.length then (([] : List UInt8), (6 : Int)) else (t, 0)).1.length ≤ 16777216
    split
    · simp
    · simp only; omega
/-- The four ways of the law. -/
theorem words_cases (m : Vars) (a b : List PartV) : ∃ (s t u : List UInt8) (e f g : Int), wordV m a = (s, e) ∧ wordV m b = (t, f) ∧ wordV m (a ++ b) = (u, g) ∧ s.length ≤ 16777216 ∧ t.length ≤ 16777216 ∧
    ((e ≠ 0 ∧ g ≠ 0 ∧ u = []) ∨ (e = 0 ∧ f ≠ 0 ∧ g ≠ 0 ∧ u = []) ∨ (e = 0 ∧ f = 0 ∧ g = 0 ∧ u = s ++ t) ∨ (e = 0 ∧ f = 0 ∧ g = 6)) := by
  obtain ⟨h1, h2⟩ := words_law m a b
  refine ⟨_, _, _, _, _, _, rfl, rfl, rfl, word_short m a, word_short m b, ?_⟩
  by_cases he : (wordV m a).2 = 0
  · by_cases hf : (wordV m b).2 = 0
    · rcases h2 he hf with ⟨hg, hu⟩ | hg
      · exact .inr (.inr (.inl ⟨he, hf, hg, hu⟩))
      · exact .inr (.inr (.inr ⟨he, hf, hg⟩))
    · exact .inr (.inl ⟨he, hf, h1 (.inr hf)⟩)
  · exact .inl ⟨he, h1 (.inl he)⟩
theorem partsC_append (a b : List PartV) : partsC (a ++ b) = partsC a ++ partsC b := by simp [partsC]
#print axioms words_law
#print axioms sum_short
end Go.Proofs.YtbilkpioddjlfaaGreatDoor
