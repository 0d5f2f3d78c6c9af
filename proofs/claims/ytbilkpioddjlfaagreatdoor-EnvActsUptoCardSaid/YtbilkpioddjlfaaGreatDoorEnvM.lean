/- Variables as a list of names and values: what the map of an env.Env reads as; how it is asked and written. Plain laws and the map's operations. No condition. -/
import Derived.Test.YtbilkpioddjlfaaGreatDoorEnvR
namespace Go.Proofs.YtbilkpioddjlfaaGreatDoor
open Go.RowKit Go.Maps

abbrev Vars := List (List UInt8 × List UInt8)
def getV : Vars → List UInt8 → Option (List UInt8)
  | [], _ => none
  | (n, x) :: m, k => if n = k then some x else getV m k
def putV : Vars → List UInt8 → List UInt8 → Vars
  | [], k, v => [(k, v)]
  | (n, x) :: m, k, v => if n = k then (k, v) :: m else (n, x) :: putV m k v

theorem getV_put_same (m : Vars) (k v : List UInt8) : getV (putV m k v) k = some v := by
  induction m with
  | nil => simp [putV, getV]
  | cons p m ih => unfold putV; by_cases h : p.1 = k <;> simp [h, getV, ih]
theorem getV_put_other (m : Vars) (k v k' : List UInt8) (h : k' ≠ k) : getV (putV m k v) k' = getV m k' := by
  induction m with
  | nil => simp [putV, getV, Ne.symm h]
  | cons p m ih => unfold putV; by_cases hp : p.1 = k <;> simp [hp, getV, ih, Ne.symm h]
theorem length_put (m : Vars) (k v : List UInt8) : (putV m k v).length = if (getV m k).isSome then m.length else m.length + 1 := by
  induction m with
  | nil => simp [putV, getV]
  | cons p m ih =>
    unfold putV getV
    by_cases hp : p.1 = k
    · simp [hp]
    · simp only [hp, if_false, List.length_cons, ih]
      split <;> rfl
theorem getV_none_iff (m : Vars) (k : List UInt8) : getV m k = none ↔ k ∉ m.map (·.1) := by
  induction m with
  | nil => simp [getV]
  | cons p m ih =>
    unfold getV
    by_cases hp : p.1 = k
    · simp [hp]
    · rw [if_neg hp, ih]; simp [Ne.symm hp]
theorem names_put (m : Vars) (k v : List UInt8) : (putV m k v).map (·.1) = if (getV m k).isSome then m.map (·.1) else m.map (·.1) ++ [k] := by
  induction m with
  | nil => simp [putV, getV]
  | cons p m ih =>
    unfold putV getV
    by_cases hp : p.1 = k
    · simp [hp]
    · simp only [hp, if_false, List.map_cons, ih]
      split <;> simp
theorem nodup_put (m : Vars) (k v : List UInt8) (h : (m.map (·.1)).Nodup) : ((putV m k v).map (·.1)).Nodup := by
  rw [names_put]
  split
  · exact h
  · rename_i hs
    have : getV m k = none := by simpa using hs
    rw [getV_none_iff] at this
    rw [List.nodup_append]
    exact ⟨h, by simp, by intro a ha b hb e; simp at hb; subst hb; subst e; exact this ha⟩

/-- The datum D is a map that tells what m tells. -/
structure RelD (D : DataW Unit) (m : Vars) : Prop where
  tidy : Tidy D
  nodup : (m.map (·.1)).Nodup
  size : Maps.size D = m.length
  has : ∀ k, Maps.has D (.string k) = (getV m k).isSome
  at_ : ∀ k v, getV m k = some v → ∀ z, D.atKey (.string k) z = .lit (.string v)

theorem RelD.empty : RelD (.map []) [] := ⟨tidy_empty, by simp, rfl, fun k => rfl, fun k v h => by simp [getV] at h⟩
theorem isKey_string (k : List UInt8) : WideAt.IsKeyLit (.string k) := by
  first | exact ⟨k, rfl⟩ | trivial | simp [WideAt.IsKeyLit]
theorem string_ne {k k' : List UInt8} (h : k' ≠ k) : (Lit.string k') ≠ .string k := fun e => h (by injection e)
theorem RelD.put {D : DataW Unit} {m : Vars} (h : RelD D m) (k v : List UInt8) : RelD (D.put (.string k) (.lit (.string v))) (putV m k v) where
  tidy := h.tidy.put (isKey_string k) _
  nodup := nodup_put m k v h.nodup
  size := by
    rw [size_put h.tidy, h.has k, length_put, h.size]
  has := fun k' => by
    by_cases e : k' = k
    · subst e; rw [has_put_same h.tidy.isMap (isKey_string _), getV_put_same]; rfl
    · rw [has_put_other (string_ne e), getV_put_other _ _ _ _ e, h.has]
  at_ := fun k' x hx z => by
    by_cases e : k' = k
    · subst e; rw [getV_put_same] at hx; cases hx; exact atKey_put_same h.tidy.isMap (isKey_string _) _ _
    · rw [getV_put_other _ _ _ _ e] at hx; rw [atKey_put_other (string_ne e)]; exact h.at_ k' x hx z





/-- The object at p has the variables m, in the map at b. -/
structure EnvAt (w : World) (p b : Nat) (m : Vars) : Prop where
  cells : w.heap[p]? = some (.cells #[.map (some b)] 50 (0, 0))
  ne : p ≠ b
  map : ∃ D, RelD D m ∧ w.ownsMap Tryz.prog 9 (plainElem Tryz.prog 9) b m.length D

namespace EnvAt
variable {w w' : World} {p b : Nat} {m : Vars}
theorem move (h : EnvAt w p b m) (hp : w'.heap[p]? = w.heap[p]?) (hb : w'.heap[b]? = w.heap[b]?) : EnvAt w' p b m := by
  obtain ⟨D, hr, es, clock, h1, h2⟩ := h.map
  exact ⟨hp.trans h.cells, h.ne, D, hr, es, clock, hb.trans h1, h2⟩
theorem lt (h : EnvAt w p b m) : p < w.heap.size := by
  have := h.cells
  exact (Array.getElem?_eq_some_iff.1 this).1
theorem ltb (h : EnvAt w p b m) : b < w.heap.size := by
  obtain ⟨D, hr, ho⟩ := h.map
  exact ho.lt
theorem chg {S : Nat → Prop} (h : EnvAt w p b m) (hc : Chg w w' S) (hp : ¬ S p) (hb : ¬ S b) : EnvAt w' p b m := h.move (hc.block p h.lt hp) (hc.block b h.ltb hb)
theorem alloc (h : EnvAt w p b m) (o : Obj) : EnvAt (w.alloc o) p b m := h.chg ((Chg.refl w NoB).alloc o) (fun f => f) (fun f => f)
theorem drewN (h : EnvAt w p b m) (n : Nat) : EnvAt (w.drewN n) p b m := h.move rfl rfl
theorem cell (h : EnvAt w p b m) : w.cell? ⟨p, 0, none⟩ = some (.map (some b)) := by
  simp [World.cell?, h.cells]
theorem nodup (h : EnvAt w p b m) : (m.map (·.1)).Nodup := let ⟨_, hr, _⟩ := h.map; hr.nodup

theorem zeroS (w : World) : (zeroValue 9).run Tryz.prog w = .ok (.string ⟨#[]⟩) w := by kernel_rfl
theorem keyed : Keyed Tryz.prog 9 := string_keyed Tryz.underlying9

/-- v.vars[name], with ok. -/
theorem look (h : EnvAt w p b m) (name : ByteArray) (hn : name.size ≤ maxLen) :
    (Instr.lookup 48 (.map (some b)) (.string name) true).run Tryz.prog w = .ok (.tuple #[.string (str ((getV m name.data.toList).getD [])), .bool (getV m name.data.toList).isSome]) w := by
  obtain ⟨D, hr, ho⟩ := h.map
  obtain ⟨v, ps, hrun, hv⟩ := ho.look_ok keyed Tryz.underlying48 (zeroS w) (plainElem_string (s := ⟨#[]⟩) Tryz.underlying9 (by decide)) (WideMaps.keyOf_string_mk Tryz.underlying9 hn)
  obtain ⟨s, rfl, hz, hsz⟩ := plainElem_string_inv Tryz.underlying9 hv
  rw [hrun, hr.has]
  cases hg : getV m name.data.toList with
  | none =>
    have hh : Maps.has D (.string name.data.toList) = false := by rw [hr.has, hg]; rfl
    have := atKey_of_not_has hh (.lit (.string (⟨#[]⟩ : ByteArray).data.toList))
    rw [this] at hz
    simp only [Prod.mk.injEq, DataW.lit.injEq, Lit.string.injEq] at hz
    have : s = str [] := by rw [← str_data s, ← hz.1]
    subst this
    all_goals rfl
  | some x =>
    rw [hr.at_ _ _ hg] at hz
    simp only [Prod.mk.injEq, DataW.lit.injEq, Lit.string.injEq] at hz
    have : s = str x := by rw [← str_data s, ← hz.1]
    subst this; rfl
theorem len (h : EnvAt w p b m) (ty : TypeId) : (Builtin.len_ #[48] ty #[.map (some b)]).run Tryz.prog w = .ok (.int .i64 m.length) w := by
  obtain ⟨D, hr, ho⟩ := h.map
  rw [ho.len Tryz.underlying48 ty, hr.size]
theorem value_le (h : EnvAt w p b m) (name : ByteArray) (hn : name.size ≤ maxLen) : ((getV m name.data.toList).getD []).length ≤ maxLen := by
  obtain ⟨D, hr, ho⟩ := h.map
  obtain ⟨v, ps, hrun, hv⟩ := ho.look_ok keyed Tryz.underlying48 (zeroS w) (plainElem_string (s := ⟨#[]⟩) Tryz.underlying9 (by decide)) (WideMaps.keyOf_string_mk Tryz.underlying9 hn)
  obtain ⟨s, rfl, hz, hsz⟩ := plainElem_string_inv Tryz.underlying9 hv
  cases hg : getV m name.data.toList with
  | none => exact Nat.zero_le _
  | some x =>
    rw [hr.at_ _ _ hg] at hz
    simp only [Prod.mk.injEq, DataW.lit.injEq, Lit.string.injEq] at hz
    have e : s.data.toList.length = s.size := by simp
    rw [Option.getD_some, hz.1, e]
    exact hsz
/-- v.vars[name] = value. -/
theorem store (h : EnvAt w p b m) (name value : ByteArray) (hn : name.size ≤ maxLen) (hv : value.size ≤ maxLen) (hm : m.length < maxLen) :
    ∃ w', (Instr.mapUpdate 48 (.map (some b)) (.string name) (.string value)).run Tryz.prog w = .ok () w' ∧ EnvAt w' p b (putV m name.data.toList value.data.toList) ∧ Chg w w' (fun k => k = b) := by
  obtain ⟨D, hr, ho⟩ := h.map
  obtain ⟨w', hrun, ho', hg⟩ := ho.update keyed Tryz.underlying48 hm (WideMaps.keyOf_string_mk Tryz.underlying9 hn) (plainElem_string (s := value) Tryz.underlying9 hv)
  have hr' := hr.put name.data.toList value.data.toList
  have hc : Chg w w' (fun k => k = b) := (Chg.ofGrown hg).mono (fun k _ e => (Option.some.inj e).symm)
  refine ⟨w', hrun, ⟨(hc.block p h.lt h.ne).trans h.cells, h.ne, _, hr', ?_⟩, hc⟩
  obtain ⟨es, clock, h1, h2, h3, h4⟩ := ho'
  refine ⟨es, clock, h1, h2, ?_, h4⟩
  have : Maps.size (D.put (.string name.data.toList) (.lit (.string value.data.toList))) = es.size := by rw [h4]; simp [Maps.size, length_sorted]
  rw [← this, hr'.size]
  exact Nat.le_refl _
end EnvAt

theorem EnvAt.made (w : World) : EnvAt ((w.alloc (.map #[] 0)).alloc (.cells #[.map (some w.heap.size)] 50)) (w.heap.size + 1) w.heap.size [] := by
  refine ⟨?_, by omega, .map [], RelD.empty, ?_⟩
  · have e : (w.alloc (.map #[] 0)).heap.size = w.heap.size + 1 := by simp
    show ((w.alloc (.map #[] 0)).heap.push _)[w.heap.size + 1]? = _
    rw [Array.getElem?_push, if_pos e.symm]
  · exact (World.ownsMap_made _ _ _ _).alloc _
#print axioms EnvAt.store
end Go.Proofs.YtbilkpioddjlfaaGreatDoor
