/- A map[string]string of the call's own; the map of names and their values (EnvKeeps' was). No condition. -/
import Derived.Test.YtbilkpioddjlfaaGreatDoorNames
import Derived.Test.YtbilkpioddjlfaaGreatDoorEnvS
import Derived.Test.YtbilkpioddjlfaaGreatDoorManyA
import Derived.Maps.RangeWalk
namespace Go.Proofs.YtbilkpioddjlfaaGreatDoor
open Go.RowKit Go.Maps

/-- The map at b tells what m tells. -/
def MapAt (w : World) (b : Nat) (m : Vars) : Prop := ∃ D, RelD D m ∧ w.ownsMap Tryz.prog 9 (plainElem Tryz.prog 9) b m.length D
namespace MapAt
variable {w w' : World} {b : Nat} {m : Vars}
theorem lt (h : MapAt w b m) : b < w.heap.size := let ⟨_, _, ho⟩ := h; ho.lt
theorem move (h : MapAt w b m) (hb : w'.heap[b]? = w.heap[b]?) : MapAt w' b m := by
  obtain ⟨D, hr, es, clock, h1, h2⟩ := h
  exact ⟨D, hr, es, clock, hb.trans h1, h2⟩
theorem chg {S : Nat → Prop} (h : MapAt w b m) (hc : Chg w w' S) (hb : ¬ S b) : MapAt w' b m := h.move (hc.block b h.lt hb)
theorem made (w : World) : MapAt (w.alloc (.map #[] 0)) w.heap.size [] := ⟨.map [], RelD.empty, World.ownsMap_made _ _ _ _⟩
theorem look (h : MapAt w b m) (name : ByteArray) (hn : name.size ≤ maxLen) :
    (Instr.lookup 48 (.map (some b)) (.string name) true).run Tryz.prog w = .ok (.tuple #[.string (str ((getV m name.data.toList).getD [])), .bool (getV m name.data.toList).isSome]) w := by
  obtain ⟨D, hr, ho⟩ := h
  obtain ⟨v, ps, hrun, hv⟩ := ho.look_ok EnvAt.keyed Tryz.underlying48 (EnvAt.zeroS w) (plainElem_string (s := ⟨#[]⟩) Tryz.underlying9 (by decide)) (WideMaps.keyOf_string_mk Tryz.underlying9 hn)
  obtain ⟨s, rfl, hz, hsz⟩ := plainElem_string_inv Tryz.underlying9 hv
  rw [hrun, hr.has]
  cases hg : getV m name.data.toList with
  | none =>
    have hh : Maps.has D (.string name.data.toList) = false := by rw [hr.has, hg]; rfl
    have := atKey_of_not_has hh (.lit (.string (⟨#[]⟩ : ByteArray).data.toList))
    rw [this] at hz
    simp only [Prod.mk.injEq, DataW.lit.injEq, Lit.string.injEq] at hz
    have : s = str [] := by rw [← str_data s, ← hz.1]
    subst this
    all_goals rfl
  | some x =>
    rw [hr.at_ _ _ hg] at hz
    simp only [Prod.mk.injEq, DataW.lit.injEq, Lit.string.injEq] at hz
    have : s = str x := by rw [← str_data s, ← hz.1]
    subst this; rfl
theorem len (h : MapAt w b m) (ty : TypeId) : (Builtin.len_ #[48] ty #[.map (some b)]).run Tryz.prog w = .ok (.int .i64 m.length) w := by
  obtain ⟨D, hr, ho⟩ := h
  rw [ho.len Tryz.underlying48 ty, hr.size]
theorem store (h : MapAt w b m) (name value : ByteArray) (hn : name.size ≤ maxLen) (hv : value.size ≤ maxLen) (hm : m.length < maxLen) :
    ∃ w', (Instr.mapUpdate 48 (.map (some b)) (.string name) (.string value)).run Tryz.prog w = .ok () w' ∧ MapAt w' b (putV m name.data.toList value.data.toList) ∧ Chg w w' (fun k => k = b) := by
  obtain ⟨D, hr, ho⟩ := h
  obtain ⟨w', hrun, ho', hg⟩ := ho.update EnvAt.keyed Tryz.underlying48 hm (WideMaps.keyOf_string_mk Tryz.underlying9 hn) (plainElem_string (s := value) Tryz.underlying9 hv)
  have hr' := hr.put name.data.toList value.data.toList
  have hc : Chg w w' (fun k => k = b) := (Chg.ofGrown hg).mono (fun k _ e => (Option.some.inj e).symm)
  refine ⟨w', hrun, ⟨_, hr', ?_⟩, hc⟩
  obtain ⟨es, clock, h1, h2, h3, h4⟩ := ho'
  refine ⟨es, clock, h1, h2, ?_, h4⟩
  have : Maps.size (D.put (.string name.data.toList) (.lit (.string value.data.toList))) = es.size := by rw [h4]; simp [Maps.size, length_sorted]
  rw [← this, hr'.size]
  exact Nat.le_refl _
end MapAt

/-- Names, each with its value. -/
def wasV (m : Vars) (ns : List (List UInt8)) : Vars := ns.map fun n => (n, (getV m n).getD [])
theorem wasV_names (m : Vars) (ns : List (List UInt8)) : (wasV m ns).map (·.1) = ns := by simp [wasV, Function.comp_def]
theorem wasV_length (m : Vars) (ns : List (List UInt8)) : (wasV m ns).length = ns.length := by simp [wasV]
theorem wasV_get {m : Vars} {ns : List (List UInt8)} {n x : List UInt8} (h : getV (wasV m ns) n = some x) : n ∈ ns ∧ x = (getV m n).getD [] := by
  induction ns with
  | nil => simp [wasV, getV] at h
  | cons a ns ih =>
    have e : wasV m (a :: ns) = (a, (getV m a).getD []) :: wasV m ns := rfl
    rw [e] at h
    unfold getV at h
    by_cases ha : a = n
    · rw [if_pos ha] at h
      exact ⟨by simp [ha], by rw [← ha]; exact (Option.some.inj h).symm⟩
    · rw [if_neg ha] at h
      exact ⟨List.mem_cons_of_mem _ (ih h).1, (ih h).2⟩
theorem wasV_next {m : Vars} {ns : List (List UInt8)} {n : List UInt8} (h : n ∉ ns) : putV (wasV m ns) n ((getV m n).getD []) = wasV m (ns ++ [n]) := by
  have h0 : getV (wasV m ns) n = none := (getV_none_iff _ _).2 (by rw [wasV_names]; exact h)
  rw [putV_new h0]
  simp [wasV]
theorem getV_some_of_mem {m : Vars} {n : List UInt8} (h : n ∈ m.map (·.1)) : (getV m n).isSome = true := by
  have := getV_none_iff m n
  cases hg : getV m n with
  | none => exact absurd h (this.1 hg)
  | some _ => rfl
/-- What the map of all tells is what m tells. -/
theorem wasV_all {m : Vars} {n x : List UInt8} (h : getV (wasV m (namesV m)) n = some x) : getV m n = some x := by
  obtain ⟨h1, h2⟩ := wasV_get h
  have := getV_some_of_mem (mem_namesV.1 h1)
  cases hg : getV m n with
  | none => rw [hg] at this; cases this
  | some y => rw [hg] at h2; rw [h2]; rfl
theorem wasV_isSome (m : Vars) (n : List UInt8) : (getV (wasV m (namesV m)) n).isSome = (getV m n).isSome := by
  have h1 := getV_none_iff m n
  have h2 := getV_none_iff (wasV m (namesV m)) n
  rw [wasV_names] at h2
  have h3 := @mem_namesV m n
  cases hg : getV m n with
  | none => rw [h2.2 (fun h => (h1.1 hg) (h3.1 h))]
  | some y =>
    have : n ∈ m.map (·.1) := Classical.byContradiction fun hn => by rw [h1.2 hn] at hg; cases hg
    cases hw : getV (wasV m (namesV m)) n with
    | none => exact absurd (h3.2 this) (h2.1 hw)
    | some _ => rfl
/-- All names may be names. -/
def Rights (m : Vars) : Prop := ∀ n ∈ m.map (·.1), rightB n = true
theorem Rights.set {m : Vars} (h : Rights m) (n v : List UInt8) : Rights (setM m n v) := by
  unfold setM
  split
  · rename_i hE
    intro k hk
    rw [names_put] at hk
    split at hk
    · exact h k hk
    · rcases List.mem_append.1 hk with hk | hk
      · exact h k hk
      · have : k = n := by simpa using hk
        subst this
        cases hr : rightB k with
        | true => rfl
        | false => unfold setE at hE; rw [hr] at hE; simp at hE
  · exact h
theorem length_set {m : Vars} (h : m.length ≤ 256) (n v : List UInt8) : (setM m n v).length ≤ 256 := by
  unfold setM
  split
  · rename_i hE
    rw [length_put]
    split
    · exact h
    · rename_i hs
      unfold setE at hE
      split at hE
      · cases hE
      · split at hE
        · cases hE
        · split at hE
          · cases hE
          · rename_i h1
            have : ¬ m.length = 256 := fun e => h1 ⟨by simpa using hs, e⟩
            omega
  · exact h
theorem right_size {n : List UInt8} (h : rightB n = true) : n.length ≤ 64 := by
  unfold rightB at h
  simp only [Bool.and_eq_true, decide_eq_true_eq] at h
  exact h.2.2
#print axioms MapAt.store
#print axioms length_set
end Go.Proofs.YtbilkpioddjlfaaGreatDoor
