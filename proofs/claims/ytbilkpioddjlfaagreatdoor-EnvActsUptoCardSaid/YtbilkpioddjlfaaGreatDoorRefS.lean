/- cuecardref16.Env.Set of an object: the list of variables says what it answers and leaves. Conditions: the texts are no longer than texts may be, no more than 256 variables. -/
import Derived.Test.YtbilkpioddjlfaaGreatDoorRefB
import Derived.Test.YtbilkpioddjlfaaGreatDoorEnvS
import Derived.Test.YtbilkpioddjlfaaGreatDoorMapAt
import Derived.Test.YtbilkpioddjlfaaGreatDoorBld
namespace Go.Proofs.YtbilkpioddjlfaaGreatDoor
open Go.RowKit

def RefSetPost (p B : Nat) (v : Value) (m : Vars) (name value : List UInt8) (w : World) (e : Ending) (w' : World) : Prop :=
  e = .returned (.int .i64 (setE m name value)) ∧ (∃ v', RefAt w' p B v' (setM m name value)) ∧ Chg w w' (fun k => k = p ∨ some k = v.ownBlock)
theorem RefSetPost.no {p B : Nat} {v : Value} {m : Vars} {name value : List UInt8} {w : World} {k : Int} (h : RefAt w p B v m) (hk : setE m name value = k) (h0 : k ≠ 0) : RefSetPost p B v m name value w (.returned (.int .i64 k)) w := by
  refine ⟨by rw [hk], ⟨v, ?_⟩, Chg.refl _ _⟩
  unfold setM
  rw [if_neg (by rw [hk]; exact h0)]
  exact h
theorem RefSetPost.yes {p B : Nat} {v v' : Value} {m : Vars} {name value : List UInt8} {w w' : World} (h : RefAt w' p B v' (putV m name value)) (hc : Chg w w' (fun k => k = p ∨ some k = v.ownBlock)) (hk : setE m name value = 0) : RefSetPost p B v m name value w (.returned (.int .i64 0)) w' := by
  refine ⟨by rw [hk], ⟨v', ?_⟩, hc⟩
  unfold setM
  rw [if_pos hk]
  exact h
theorem infoVar : (Tryz.prog.info? 58).map (fun i => (i.zero, i.size, i.bytes)) = some (some (.agg #[.string ⟨#[]⟩, .string ⟨#[]⟩]), 2, 32) := by kernel_rfl
/-- v.L = append(v.L, Var{name, value}) -/
theorem RefAt.push {w : World} {p B : Nat} {v : Value} {m : Vars} (h : RefAt w p B v m) (hB : B ≤ w.heap.size) (name value : ByteArray) (hm : m.length ≤ 256) :
    ∃ (A : Option Addr) (n c : Nat) (A1 : Option Addr) (c1 : Nat) (w1 : World), v = .slice A n c ∧ (Builtin.append_ #[28, 28] 28 #[.slice A n c, .slice (some ⟨w.heap.size, 0, none⟩) 1 1]).run Tryz.prog (w.alloc (.cells #[.string name, .string value] 58)) = .ok (.slice A1 (m.length + 1) c1) w1 ∧
      w1.cell? ⟨p, 0, none⟩ = some v ∧ w1.frozen? ⟨p, 0, none⟩ = false ∧ RefAt (w1.setCell ⟨p, 0, none⟩ (.slice A1 (m.length + 1) c1)) p B (.slice A1 (m.length + 1) c1) (m ++ [(name.data.toList, value.data.toList)]) ∧ Chg w (w1.setCell ⟨p, 0, none⟩ (.slice A1 (m.length + 1) c1)) (fun k => k = p ∨ some k = v.ownBlock) := by
  obtain ⟨i0, hi, hz0, hz1, hz2⟩ := info_parts infoVar
  have hc0 : Chg w (w.alloc (.cells #[.string name, .string value] 58)) NoB := (Chg.refl _ _).alloc _
  have hx : RdRow (w.alloc (.cells #[.string name, .string value] 58)) (fun _ => True) 2 1 (.slice (some ⟨w.heap.size, 0, none⟩) 1 1) [.string name, .string value] :=
    ⟨rfl, _, _, rfl, Nat.le_refl _, fun _ => ⟨w.heap.size, 0, rfl, trivial, by simp, fun j hj => by
      have hj' : j < 2 := hj
      rw [Nat.zero_add]
      match j, hj' with
      | 0, _ | 1, _ => simp⟩⟩
  obtain ⟨v1, w7, r1, o1, g1, t1⟩ := run_append_rd (P := Tryz.prog) _ B (fun _ => True) 28 28 58 i0 _ 2 32 Tryz.underlying28 hi hz0 hz1 hz2 rfl (by decide) v _ m.length 1 (varsC m) _ (h.own.alloc _) hx (by simp [Value.oneCell']) (by unfold maxLen; omega) (by omega) (by simp; omega)
  obtain ⟨A, c, rfl⟩ := own_form h.own
  have hp := h.lt
  have hcl : Chg w w7 (fun k => some k = (Value.slice A m.length c).ownBlock) := (hc0.no).grown g1 (fun k e _ => e.symm)
  have hpc : w7.heap[p]? = w.heap[p]? := hcl.block p hp (fun e => h.ne e.symm)
  have hcell : w7.heap[p]? = some (.cells #[.slice A m.length c] 30 (0, 0)) := hpc.trans h.cells
  obtain ⟨A1, c1, rfl⟩ := own_form o1
  refine ⟨A, m.length, c, A1, c1, w7, rfl, r1, ?_, ?_, ⟨?_, h.low, ?_, ?_⟩, ?_⟩
  · simp [World.cell?, hcell]
  · simp [World.frozen?, hcell]
  · have := heap_setCell_same w7 p 0 _ _ (.slice A1 (m.length + 1) c1) hcell
    simpa using this
  · intro e
    rcases t1 with e1 | e1
    · exact h.ne (e1.symm.trans e)
    · have : some p = some (w.alloc (.cells #[.string name, .string value] 58)).heap.size := e.symm.trans e1
      simp at this
      omega
  · have hne : (Value.slice A1 (m.length + 1) c1).ownBlock ≠ some p := by
      intro e
      rcases t1 with e1 | e1
      · exact h.ne (e1.symm.trans e)
      · have : some p = some (w.alloc (.cells #[.string name, .string value] 58)).heap.size := e.symm.trans e1
        simp at this
        omega
    rw [List.length_append, varsC_append]
    have e2 : varsC [(name.data.toList, value.data.toList)] = [.string name, .string value] := by simp [varsC, varC, str_data]
    rw [e2]
    refine ⟨o1.1, ?_⟩
    rcases o1.2 with h1 | ⟨g, cap, cur, e, hg, hh, hr⟩
    · exact .inl h1
    · refine .inr ⟨g, cap, cur, e, hg, ?_, hr⟩
      rw [heap_setCell_other w7 ⟨p, 0, none⟩ g _ (fun e3 => hne (by rw [e]; simp [Value.ownBlock, e3]))]
      exact hh
  · exact (hcl.mono (fun _ _ e => .inr e)).setCell (fun _ => .inl rfl) _

set_option maxRecDepth 100000 in
set_option maxHeartbeats 1000000 in
theorem refSet_calls (p B : Nat) (v : Value) (m : Vars) (name value : ByteArray) (w : World) (h : RefAt w p B v m) (hB : B ≤ w.heap.size) (hn : name.size ≤ maxLen) (hv : value.size ≤ maxLen) (hm : m.length ≤ 256) :
    Calls Tryz.prog 8 #[.pointer (some ⟨p, 0, none⟩), .string name, .string value] w (RefSetPost p B v m name.data.toList value.data.toList w) := by
  have hcell := h.cell
  have HRD := Lib.hid h.row
  have hsz : value.data.toList.length = value.size := by simp
  have hE : Hid (setE m name.data.toList value.data.toList = if rightB name.data.toList = false then 2 else if 16777216 < value.size then 6 else if (getV m name.data.toList).isSome = false ∧ m.length = 256 then 10 else 0) := by unfold setE; rw [hsz]; rfl
  clear hsz
  have H := Lib.hid h
  clear h
  unfold maxLen at hv
  have hml : m.length ≤ 1000000 := by omega
  cases hr : rightB name.data.toList
  all_goals have HR := Lib.hid hr
  all_goals clear hr
  · go_enter Tryz.func8, Tryz.ntmps8
    go_wp2_with (go_at_call 17; refine (refRight_calls _ _ hn).mono ?_; rw [HR.out]; rintro e w1 ⟨rfl, rfl⟩)
    go_ret
    exact RefSetPost.no H.out (by rw [hE.out, HR.out]; rfl) (by decide)
  · by_cases hl : 16777216 < value.size
    · go_enter Tryz.func8, Tryz.ntmps8
      go_wp2_with (go_at_call 17; refine (refRight_calls _ _ hn).mono ?_; rw [HR.out]; rintro e w1 ⟨rfl, rfl⟩)
      go_ret
      exact RefSetPost.no H.out (by rw [hE.out, HR.out, if_neg (by decide), if_pos hl]) (by decide)
    · have hld : value.size ≤ 16777216 := by omega
      clear hl
      rcases idxV_cases m name.data.toList with ⟨h1, h2, h3⟩ | ⟨i, x, hi, h1, h2, h3, h4⟩
      · have HV : Hid (atV m name.data.toList = -1) := by show atV _ _ = _; unfold atV; rw [h1]
        have HG := Lib.hid h2
        have HP := Lib.hid h3
        clear h1 h2 h3
        by_cases h256 : m.length = 256
        · obtain ⟨A, c, rfl⟩ := own_form H.out.own
          have hge : 256 ≤ m.length := by omega
          have HGE := Lib.hid h256
          clear h256
          go_enter Tryz.func8, Tryz.ntmps8
          go_wp2_with (first | (go_at_call 17; refine (refRight_calls _ _ hn).mono ?_; rw [HR.out]; rintro e w1 ⟨rfl, rfl⟩) | (go_at_call 18; refine (refAt_calls p _ _ m name _ hcell HRD.out hml).mono ?_; rw [HV.out]; rintro e w' ⟨rfl, rfl⟩))
          go_ret
          exact RefSetPost.no H.out (by rw [hE.out, HR.out, if_neg (by decide), if_neg (by omega), if_pos ⟨by rw [HG.out]; rfl, HGE.out⟩]) (by decide)
        · have hlt : m.length < 256 := by omega
          clear h256
          obtain ⟨A, n, c, A1, c1, w1, rfl, r1, hc1, hf1, hR1, hC1⟩ := H.out.push hB name value hm
          have R1 := Lib.hid (AppRun.mk r1)
          have HR1 := Lib.hid hR1
          have HC1 := Lib.hid hC1
          obtain ⟨A', c', e⟩ := own_form H.out.own
          injection e with e1 e2 e3
          subst e1
          subst e2
          subst e3
          clear r1 hR1 hC1
          go_enter Tryz.func8, Tryz.ntmps8
          go_wp2_with (first | (go_at_call 17; refine (refRight_calls _ _ hn).mono ?_; rw [HR.out]; rintro e w1 ⟨rfl, rfl⟩) | (go_at_call 18; refine (refAt_calls p _ _ m name _ hcell HRD.out hml).mono ?_; rw [HV.out]; rintro e w' ⟨rfl, rfl⟩) | (at_builtin; refine wpList_append_eq rfl _ _ 28 rfl R1.out rfl rfl rfl ?_))
          go_ret
          exact RefSetPost.yes (by rw [HP.out]; exact HR1.out) HC1.out (by rw [hE.out, HR.out, if_neg (by decide), if_neg (by omega), if_neg (fun h => by have := h.2; omega)])
      · have HV : Hid (atV m name.data.toList = i) := by show atV _ _ = _; unfold atV; rw [h1]
        have HG := Lib.hid h2
        obtain ⟨A, c, rfl⟩ := own_form H.out.own
        obtain ⟨g, rfl⟩ : ∃ g, A = some ⟨g, 0, none⟩ := by
          rcases H.out.own.2 with ⟨e, h0⟩ | ⟨g, cap, cur, e, _⟩
          · omega
          · injection e with e1 _ _; exact ⟨g, e1⟩
        have hst := H.out.own.stored (i * 2 + 1) (.string value)
        have hcg := H.out.own.cellAt (i * 2 + 1) (by omega)
        rw [(varsC_get m i hi).2] at hcg
        have hfg := H.out.own.frozenAt (i * 2 + 1)
        have hgp : g ≠ p := fun e => H.out.ne (by simp [Value.ownBlock, e])
        have HP : Hid (RefAt (w.setCell ⟨g, i * 2 + 1, none⟩ (.string value)) p B (.slice (some ⟨g, 0, none⟩) m.length c) (putV m name.data.toList value.data.toList)) := by
          rw [h4]
          refine ⟨?_, H.out.low, H.out.ne, ?_⟩
          · rw [heap_setCell_other w _ p _ (fun e => hgp (by simpa using e.symm))]; exact H.out.cells
          · rw [List.length_set, varsC_set m i hi _ _ _ h3, str_data]; exact hst.1
        have HC : Hid (Chg w (w.setCell ⟨g, i * 2 + 1, none⟩ (.string value)) (fun k => k = p ∨ some k = (Value.slice (some ⟨g, 0, none⟩) m.length c).ownBlock)) := (Chg.refl _ _).setCell (fun _ => .inr rfl) _
        clear h1 h2 h3 h4 hst hgp
        go_enter Tryz.func8, Tryz.ntmps8
        go_wp2_with (first | (go_at_call 17; refine (refRight_calls _ _ hn).mono ?_; rw [HR.out]; rintro e w1 ⟨rfl, rfl⟩) | (go_at_call 18; refine (refAt_calls p _ _ m name _ hcell HRD.out hml).mono ?_; rw [HV.out]; rintro e w' ⟨rfl, rfl⟩))
        go_ret
        exact RefSetPost.yes HP.out HC.out (by rw [hE.out, HR.out, if_neg (by decide), if_neg (by omega), if_neg (fun h => by rw [HG.out] at h; simp at h)])
#print axioms refSet_calls
end Go.Proofs.YtbilkpioddjlfaaGreatDoor
