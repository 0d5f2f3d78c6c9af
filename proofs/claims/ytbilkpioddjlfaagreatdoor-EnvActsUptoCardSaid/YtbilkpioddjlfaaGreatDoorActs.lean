/- A slice of cuecardlaw16.Act that is read; cuecardlaw16.great of it. No condition. -/
import Derived.Test.YtbilkpioddjlfaaGreatDoorBase
import Derived.Test.YtbilkpioddjlfaaGreatDoorEnvM
namespace Go.Proofs.YtbilkpioddjlfaaGreatDoor
open Go.RowKit

/-- What is asked of an Act: but for its word's parts. -/
structure ActV where
  kind : Int
  name : ByteArray
  value : ByteArray
  ats : Int
  kd : Int
  pa : Option Addr
  pn : Nat
  pc : Nat
def actC (a : ActV) : List Value := [.int .i64 a.kind, .string a.name, .string a.value, .int .i64 a.ats, .int .i64 a.kd, .slice a.pa a.pn a.pc]
def actsC (l : List ActV) : List Value := l.flatMap actC
theorem actsC_length (l : List ActV) : (actsC l).length = l.length * 6 := by
  induction l with
  | nil => rfl
  | cons p l ih =>
    have e : actsC (p :: l) = actC p ++ actsC l := rfl
    rw [e, List.length_append, ih, List.length_cons]
    simp [actC]; omega
theorem actsC_get (l : List ActV) (k : Nat) (h : k < l.length) : (actsC l)[k * 6]? = some (.int .i64 l[k].kind) ∧ (actsC l)[k * 6 + 1]? = some (.string l[k].name) ∧ (actsC l)[k * 6 + 2]? = some (.string l[k].value) ∧
    (actsC l)[k * 6 + 3]? = some (.int .i64 l[k].ats) ∧ (actsC l)[k * 6 + 4]? = some (.int .i64 l[k].kd) ∧ (actsC l)[k * 6 + 5]? = some (.slice l[k].pa l[k].pn l[k].pc) := by
  induction l generalizing k with
  | nil => simp at h
  | cons p l ih =>
    have e : actsC (p :: l) = .int .i64 p.kind :: .string p.name :: .string p.value :: .int .i64 p.ats :: .int .i64 p.kd :: .slice p.pa p.pn p.pc :: actsC l := rfl
    rw [e]
    cases k with
    | zero => exact ⟨rfl, rfl, rfl, rfl, rfl, rfl⟩
    | succ k =>
      have := ih k (by simpa using h)
      have e1 : (k + 1) * 6 = k * 6 + 6 := by omega
      rw [e1]
      exact this
def badV (a : ActV) : Bool := decide (200 < a.value.size) || (decide (200 < a.name.size) || decide (50 < a.pn))
def greatV (l : List ActV) : Bool := decide (300 < l.length) || l.any badV

set_option maxRecDepth 100000 in
set_option maxHeartbeats 1000000 in
theorem great_calls (F : Nat → Prop) (v : Value) (l : List ActV) (w : World) (hr : RdRow w F 6 l.length v (actsC l)) (hl : l.length ≤ 9223372036854775807) :
    Calls Tryz.prog 6 #[v] w fun e w' => e = .returned (.bool (greatV l)) ∧ Chg w w' NoB := by
  have HR := Lib.hid hr
  obtain ⟨A, c, rfl, hA⟩ : ∃ A c, v = .slice A l.length c ∧ (l.length = 0 ∨ ∃ bb off, A = some ⟨bb, off, none⟩) := by
    rcases hr.where_ with ⟨h0, A, c, rfl⟩ | ⟨_, bb, off, c, rfl⟩
    · exact ⟨A, c, rfl, .inl h0⟩
    · exact ⟨_, c, rfl, .inr ⟨bb, off, rfl⟩⟩
  clear hr
  by_cases h300 : 300 < l.length
  · go_enter Tryz.func6, Tryz.ntmps6
    go_wp2
    go_ret
    exact ⟨by simp [greatV, h300], Chg.refl _ _⟩
  · go_enter Tryz.func6, Tryz.ntmps6
    go_wp2
    go_loopw [10] (fun i wr => ∃ k : Nat, i = .int .i64 k ∧ k ≤ l.length ∧ Hid ((l.take k).any badV = false) ∧ Hid (Chg w wr NoB)) (fun i _ => l.length - (intOf i).toNat)
    case atStart => exact ⟨0, rfl, Nat.zero_le _, rfl, Chg.refl _ _⟩
    case round =>
      obtain ⟨k, rfl, hk, HT, HC⟩ := hrel
      by_cases hlt : k < l.length
      · obtain ⟨bb, off, rfl⟩ : ∃ bb off, A = some ⟨bb, off, none⟩ := by
          rcases hA with h0 | h
          · omega
          · exact h
        obtain ⟨_, hbb, hcells⟩ := (HR.out.chg HC.out (fun _ _ _ f => f)).at_ (by omega)
        have hg := actsC_get l k hlt
        have hc0 := (hcells (k * 6) (by omega)).trans hg.1
        have hc1 := (hcells (k * 6 + 1) (by omega)).trans hg.2.1
        have hc2 := (hcells (k * 6 + 2) (by omega)).trans hg.2.2.1
        have hc3 := (hcells (k * 6 + 3) (by omega)).trans hg.2.2.2.1
        have hc4 := (hcells (k * 6 + 4) (by omega)).trans hg.2.2.2.2.1
        have hc5 := (hcells (k * 6 + 5) (by omega)).trans hg.2.2.2.2.2
        simp only [← Nat.add_assoc] at hc1 hc2 hc3 hc4 hc5
        have htk : (l.take (k + 1)).any badV = badV l[k] := by
          rw [List.take_succ_eq_append_getElem hlt, List.any_append, HT.out]; simp
        have hall : badV l[k] = true → greatV l = true := fun h => by
          unfold greatV
          rw [List.any_eq_true.2 ⟨l[k], List.getElem_mem hlt, h⟩]; simp
        have HTK := Lib.hid htk
        have HALL := Lib.hid hall
        clear hg hcells htk hall
        have hbv : badV l[k] = (decide (200 < l[k].value.size) || (decide (200 < l[k].name.size) || decide (50 < l[k].pn))) := rfl
        have HBV := Lib.hid hbv
        clear hbv
        generalize l[k].kind = ak at *
        generalize l[k].name = an at *
        generalize l[k].value = av at *
        generalize l[k].ats = aa at *
        generalize l[k].kd = ad at *
        generalize l[k].pa = pa at *
        generalize l[k].pn = pn at *
        generalize l[k].pc = pc at *
        generalize badV l[k] = bv at *
        go_wp2
        all_goals first
          | (go_ret
             exact ⟨by rw [HALL.out (by rw [HBV.out]; simp only [Bool.or_eq_true, decide_eq_true_eq]; omega)]; rfl, HC.out.alloc _⟩)
          | skip
        go_roundw
        case rel => exact ⟨k + 1, rfl, hlt, HTK.out.trans (by rw [HBV.out]; simp only [Bool.or_eq_false_iff, decide_eq_false_iff_not]; omega), HC.out.alloc _⟩
        case measure => simp only [intOf]; omega
      · obtain rfl : k = l.length := by omega
        go_wp2
        go_ret
        exact ⟨by have := HT.out; rw [List.take_length] at this; simp [greatV, this]; omega, HC.out⟩
theorem ActV.sizes {l : List ActV} (hg : greatV l = false) {k : Nat} (hk : k < l.length) : l[k].value.size ≤ 200 ∧ l[k].name.size ≤ 200 ∧ l[k].pn ≤ 50 := by
  unfold greatV at hg
  rw [Bool.or_eq_false_iff, List.any_eq_false] at hg
  have := hg.2 _ (List.getElem_mem hk)
  simp only [badV, Bool.or_eq_true, decide_eq_true_eq, not_or, Nat.not_lt] at this
  exact ⟨this.1, this.2.1, this.2.2⟩

#print axioms great_calls
end Go.Proofs.YtbilkpioddjlfaaGreatDoor
