/- env.Set and env.Get of an object: the list of variables says what they answer and leave. Conditions: the texts are no longer than texts may be, fewer variables than numbers. -/
import Derived.Test.YtbilkpioddjlfaaGreatDoorEnvM
namespace Go.Proofs.YtbilkpioddjlfaaGreatDoor
open Go.RowKit Go.Maps

/-- What Set answers, and leaves. -/
def setE (m : Vars) (name value : List UInt8) : Int := if rightB name = false then 2 else if 16777216 < value.length then 6 else if (getV m name).isSome = false ∧ m.length = 256 then 10 else 0
def setM (m : Vars) (name value : List UInt8) : Vars := if setE m name value = 0 then putV m name value else m

def SetPost (p b : Nat) (m : Vars) (name value : List UInt8) (w : World) (e : Ending) (w' : World) : Prop :=
  e = .returned (.int .i64 (setE m name value)) ∧ EnvAt w' p b (setM m name value) ∧ Chg w w' (fun k => k = b)

theorem SetPost.no {p b : Nat} {m : Vars} {name value : List UInt8} {w w' : World} {k : Int} (h : EnvAt w p b m) (hc : Chg w w' NoB) (hk : setE m name value = k) (h0 : k ≠ 0) : SetPost p b m name value w (.returned (.int .i64 k)) w' := by
  refine ⟨by rw [hk], ?_, hc.no⟩
  unfold setM
  rw [if_neg (by rw [hk]; exact h0)]
  exact h.chg hc (fun f => f) (fun f => f)
theorem SetPost.yes {p b : Nat} {m : Vars} {name value : List UInt8} {w w' : World} (h : EnvAt w' p b (putV m name value)) (hc : Chg w w' (fun k => k = b)) (hk : setE m name value = 0) : SetPost p b m name value w (.returned (.int .i64 0)) w' := by
  refine ⟨by rw [hk], ?_, hc⟩
  unfold setM
  rw [if_pos hk]
  exact h

set_option maxRecDepth 100000 in
theorem set_calls (p b : Nat) (m : Vars) (name value : ByteArray) (w : World) (h : EnvAt w p b m) (hn : name.size ≤ maxLen) (hv : value.size ≤ maxLen) (hm : m.length ≤ 256) :
    Calls Tryz.prog 7 #[.pointer (some ⟨p, 0, none⟩), .string name, .string value] w (SetPost p b m name.data.toList value.data.toList w) := by
  have hcell := h.cell
  have hcell1 : ∀ pos, (w.iter name pos).cell? ⟨p, 0, none⟩ = some (.map (some b)) := fun pos => (h.alloc (.stringIter name pos)).cell
  have hlook := h.look name hn
  have hlen : ∀ pos ty, (Builtin.len_ #[48] ty #[.map (some b)]).run Tryz.prog (w.iter name pos) = .ok (.int .i64 m.length) (w.iter name pos) := fun pos ty => (h.alloc (.stringIter name pos)).len ty
  have hst : ∀ pos, ∃ w', (Instr.mapUpdate 48 (.map (some b)) (.string name) (.string value)).run Tryz.prog (w.iter name pos) = .ok () w' ∧ EnvAt w' p b (putV m name.data.toList value.data.toList) ∧ Chg (w.iter name pos) w' (fun k => k = b) := fun pos => (h.alloc (.stringIter name pos)).store name value hn hv (Nat.lt_of_le_of_lt hm (by decide))
  have hsz : value.data.toList.length = value.size := by simp
  have hE : Hid (setE m name.data.toList value.data.toList = if rightB name.data.toList = false then 2 else if 16777216 < value.size then 6 else if (getV m name.data.toList).isSome = false ∧ m.length = 256 then 10 else 0) := by unfold setE; rw [hsz]; rfl
  clear hsz
  have H := Lib.hid h
  clear h
  generalize (getV m name.data.toList).isSome = ok at *
  generalize str ((getV m name.data.toList).getD []) = old at *
  unfold maxLen at hv
  have fin : ∀ (pos : Nat) (k : Int), setE m name.data.toList value.data.toList = k → k ≠ 0 → SetPost p b m name.data.toList value.data.toList w (.returned (.int .i64 k)) (w.iter name pos) := fun pos k hk h0 => SetPost.no H.out ((Chg.refl w NoB).alloc _) hk h0
  have FIN := Lib.hid fin
  clear fin
  have finY : ∀ (pos : Nat) (w' : World), EnvAt w' p b (putV m name.data.toList value.data.toList) → Chg (w.iter name pos) w' (fun k => k = b) → setE m name.data.toList value.data.toList = 0 → SetPost p b m name.data.toList value.data.toList w (.returned (.int .i64 0)) w' := fun pos w' h1 h2 h3 => SetPost.yes h1 (((Chg.refl w (fun k => k = b)).alloc _).trans h2 (fun _ _ e => e)) h3
  have FINY := Lib.hid finY
  clear finY
  cases hr : rightB name.data.toList
  all_goals have HR := Lib.hid hr
  all_goals clear hr
  · go_enter Tryz.func7, Tryz.ntmps7
    go_wp2_with (go_at_call 16; refine (right_calls _ _ hn).mono ?_; rw [HR.out]; rintro e w1 ⟨rfl, pos, rfl⟩)
    go_ret
    exact FIN.out _ _ (by rw [hE.out, HR.out]; rfl) (by decide)
  · by_cases hl : 16777216 < value.size
    · go_enter Tryz.func7, Tryz.ntmps7
      go_wp2_with (go_at_call 16; refine (right_calls _ _ hn).mono ?_; rw [HR.out]; rintro e w1 ⟨rfl, pos, rfl⟩)
      go_ret
      exact FIN.out _ _ (by rw [hE.out, HR.out, if_neg (by decide), if_pos hl]) (by decide)
    · have hld : value.size ≤ 16777216 := by omega
      clear hl
      cases ok
      · by_cases h256 : m.length = 256
        · have b1 : ((m.length : Int) == 256) = true := by rw [beq_iff_eq]; omega
          go_enter Tryz.func7, Tryz.ntmps7
          go_wp2_with (go_at_call 16; refine (right_calls _ _ hn).mono ?_; rw [HR.out]; rintro e w1 ⟨rfl, pos, rfl⟩)
          go_ret
          exact FIN.out _ _ (by rw [hE.out, HR.out, if_neg (by decide), if_neg (by omega), if_pos ⟨by first | trivial | rfl, h256⟩]) (by decide)
        · have b1 : ((m.length : Int) == 256) = false := by rw [beq_eq_false_iff_ne]; omega
          go_enter Tryz.func7, Tryz.ntmps7
          go_wp2_with (go_at_call 16; refine (right_calls _ _ hn).mono ?_; rw [HR.out]; rintro e w1 ⟨rfl, pos, rfl⟩; obtain ⟨w2, hrun, he2, hc2⟩ := hst pos)
          go_ret
          exact FINY.out _ _ (by assumption) (by assumption) (by rw [hE.out, HR.out, if_neg (by decide), if_neg (by omega), if_neg (fun h => h256 h.2)])
      · go_enter Tryz.func7, Tryz.ntmps7
        go_wp2_with (go_at_call 16; refine (right_calls _ _ hn).mono ?_; rw [HR.out]; rintro e w1 ⟨rfl, pos, rfl⟩; obtain ⟨w2, hrun, he2, hc2⟩ := hst pos)
        go_ret
        exact FINY.out _ _ (by assumption) (by assumption) (by rw [hE.out, HR.out, if_neg (by decide), if_neg (by omega), if_neg (fun h => absurd h.1 (by decide))])

set_option maxRecDepth 100000 in
theorem get_calls (p b : Nat) (m : Vars) (name : ByteArray) (w : World) (h : EnvAt w p b m) (hn : name.size ≤ maxLen) :
    Calls Tryz.prog 9 #[.pointer (some ⟨p, 0, none⟩), .string name] w fun e w' => e = .returned (.tuple #[.string (str ((getV m name.data.toList).getD [])), .bool (getV m name.data.toList).isSome]) ∧ w = w' := by
  have hcell := h.cell
  have hlook := h.look name hn
  clear h
  generalize (getV m name.data.toList).isSome = ok at *
  generalize str ((getV m name.data.toList).getD []) = old at *
  go_enter Tryz.func9, Tryz.ntmps9
  go_wp2
  go_ret2
  exact ⟨rfl, rfl⟩
#print axioms set_calls
#print axioms get_calls
end Go.Proofs.YtbilkpioddjlfaaGreatDoor
