/- cuecardlaw16.EnvWords returns true, whatever the acts and the parts. Condition: a part's text has no more than 2^24 letters. -/
import Derived.Test.YtbilkpioddjlfaaDoorKeepsW
import Derived.Test.YtbilkpioddjlfaaDoorWordsA
import Derived.Test.YtbilkpioddjlfaaDoorApp
namespace Go.Proofs.YtbilkpioddjlfaaDoor
open Go.RowKit Go.Maps

set_option maxRecDepth 100000 in
set_option maxHeartbeats 1000000 in
theorem words_great (v va vb : Value) (l : List ActV) (a b : List PartV) (w : World) (hr : RdRow w (fun _ => True) 6 l.length v (actsC l)) (hra : RdRow w (fun _ => True) 2 a.length va (partsC a)) (hrb : RdRow w (fun _ => True) 2 b.length vb (partsC b)) (hl : l.length ≤ 9223372036854775807)
    (hg : greatV l = true ∨ greatV l = false ∧ (50 < a.length ∨ a.length ≤ 50 ∧ 50 < b.length)) :
    Calls Tryd.prog 8 #[v, va, vb] w fun e w' => e = .returned (.bool true) ∧ Chg w w' NoB := by
  have HR := Lib.hid hr
  clear hr
  obtain ⟨Aa, ca, rfl⟩ : ∃ A c, va = .slice A a.length c := by obtain ⟨_, A, c, rfl, _⟩ := hra; exact ⟨A, c, rfl⟩
  obtain ⟨Ab, cb, rfl⟩ : ∃ A c, vb = .slice A b.length c := by obtain ⟨_, A, c, rfl, _⟩ := hrb; exact ⟨A, c, rfl⟩
  clear hra hrb
  have HA := Lib.hid (EnvAt.made w)
  have hcA : Hid (Chg w ((w.alloc (.map #[] 0)).alloc (.cells #[.map (some w.heap.size)] 102)) NoB) := ((Chg.refl _ _).alloc _).alloc _
  go_enter Tryd.func8, Tryd.ntmps8
  go_wp2_with (first | (go_at_call 25; refine (new_calls _).mono ?_; rintro e w1 ⟨rfl, rfl⟩))
  refine (envAlive_calls _).mono ?_
  rintro e w1 ⟨rfl, hc1⟩
  have HC : Hid (Chg w w1 NoB) := hcA.out.trans hc1 (fun _ _ f => f)
  have HR1 := Lib.hid (HR.out.chg HC.out (fun _ _ _ f => f))
  clear hc1 HA hcA
  rcases hg with hg | ⟨hg, ha | ⟨ha, hb⟩⟩
  all_goals have HG := Lib.hid hg
  all_goals clear hg
  all_goals go_wp2_with (go_at_call 26; refine (great_calls _ _ l _ HR1.out hl).mono ?_; rw [HG.out]; rintro e w2 ⟨rfl, hc2⟩; have HC2 : Hid (Chg w w2 NoB) := HC.out.trans hc2 (fun _ _ f => f); clear hc2)
  all_goals refine (calls_since (w0 := w) (envAlive_calls _) HC2.out).mono ?_
  all_goals rintro e w3 ⟨rfl, hc3⟩
  all_goals go_wp2
  all_goals go_ret
  all_goals exact ⟨rfl, hc3⟩

theorem infoP : (Tryd.prog.info? 66).map (fun i => (i.zero, i.size, i.bytes)) = some (some (.agg #[.bool false, .string ⟨#[]⟩]), 2, 24) := by kernel_rfl
theorem partsC_one (ps : List PartV) : ∀ u ∈ partsC ps, u.oneCell' = true := by
  intro u hu
  obtain ⟨p, _, hp⟩ := List.mem_flatMap.1 hu
  simp only [partC, List.mem_cons, List.not_mem_nil, or_false] at hp
  rcases hp with rfl | rfl <;> rfl
/-- append(append([]Part{}, a...), b...) -/
theorem app_two {w6 : World} {F : Nat → Prop} {a b : List PartV} {va vb : Value} (hF : ∀ k, F k → k < w6.heap.size) (hra : RdRow w6 F 2 a.length va (partsC a)) (hrb : RdRow w6 F 2 b.length vb (partsC b)) (ha : a.length ≤ 50) (hb : b.length ≤ 50) :
    ∃ A1 c1 w7 A2 c2 w8, (Builtin.append_ #[48, 48] 48 #[.slice (some ⟨w6.heap.size, 0, none⟩) 0 0, va]).run Tryd.prog (w6.alloc (.cells #[] 66)) = .ok (.slice A1 a.length c1) w7 ∧
      (Builtin.append_ #[48, 48] 48 #[.slice A1 a.length c1, vb]).run Tryd.prog w7 = .ok (.slice A2 (a.length + b.length) c2) w8 ∧
      RdRow w8 (fun _ => True) 2 (a ++ b).length (.slice A2 (a.length + b.length) c2) (partsC (a ++ b)) ∧ Chg w6 w8 NoB := by
  obtain ⟨i0, hi, hz0, hz1, hz2⟩ := info_parts infoP
  have hs0 : (w6.alloc (.cells #[] 66)).heap.size = w6.heap.size + 1 := by simp
  have hc0 : Chg w6 (w6.alloc (.cells #[] 66)) NoB := (Chg.refl _ _).alloc _
  have hown0 : (w6.alloc (.cells #[] 66)).ownsRow w6.heap.size 66 2 (.slice (some ⟨w6.heap.size, 0, none⟩) 0 0) 0 [] :=
    ⟨rfl, .inr ⟨w6.heap.size, 0, #[], rfl, Nat.le_refl _, World.alloc_heap_new _ _, Nat.le_refl _, Nat.zero_le _, rfl, rfl⟩⟩
  obtain ⟨v1, w7, r1, o1, g1, t1⟩ := run_append_rd (P := Tryd.prog) _ w6.heap.size F 48 48 66 i0 _ 2 24 Tryd.underlying48 hi hz0 hz1 hz2 rfl (by decide) _ _ 0 a.length [] (partsC a) hown0 (hra.chg hc0 (fun _ _ _ f => f)) (partsC_one a) (by unfold maxLen; omega) (by omega) (by omega)
  rw [Nat.zero_add, List.nil_append] at o1
  have hc7 : Chg w6 w7 NoB := hc0.grown g1 (fun k e hk => by simp [Value.ownBlock] at e; omega)
  obtain ⟨v2, w8, r2, o2, g2, t2⟩ := run_append_rd (P := Tryd.prog) w7 w6.heap.size F 48 48 66 i0 _ 2 24 Tryd.underlying48 hi hz0 hz1 hz2 rfl (by decide) _ _ a.length b.length (partsC a) (partsC b) o1 (hrb.chg hc7 (fun _ _ _ f => f)) (partsC_one b) (by unfold maxLen; omega) (by omega) (by have := hc7.size; omega)
  have hc8 : Chg w6 w8 NoB := hc7.grown g2 (fun k e hk => by have := (o1.lt k e).1; omega)
  obtain ⟨A1, c1, rfl, _⟩ := row_shape o1 (by decide)
  obtain ⟨A2, c2, rfl, _⟩ := row_shape o2 (by decide)
  refine ⟨A1, c1, w7, A2, c2, w8, r1, r2, ?_, hc8⟩
  have := RdRow.ofOwn (F := fun _ => True) o2 (by decide) (fun _ _ => trivial)
  rw [← partsC_append] at this
  rw [List.length_append]
  exact this
structure AppRun (P : Program) (t ty : TypeId) (sv xv : Value) (w : World) (v : Value) (w' : World) : Prop where
  run : (Builtin.append_ #[t, t] ty #[sv, xv]).run P w = .ok v w'
theorem wpList_append_eq {P : Program} {ops : Array Oper} {rest : List Oper} {o : Oper} {a : Act} {Q : Exit → Act → World → Prop} {w w' : World} {v sv xv : Value} {ty : TypeId} (hgd : o.guard = none) (s x : Operand) (t : TypeId)
    (hop : o.op = Op.call { callee := Callee.builtin Builtin.append, args := #[s, x], argTypes := #[t, t] }) (hr0 : AppRun P t ty sv xv w v w') (ht : o.type = ty) (hs : a.eval s = sv) (hx : a.eval x = xv)
    (hK : wpList P ops Q rest (a.put o.dst v) w') : wpList P ops Q (o :: rest) a w := by
  refine wpList_plain hgd fun K' hK' => ?_
  have hr := hr0.run
  subst ht
  unfold Oper.wp execOp
  simp only [hop, resolve, invoke, builtin, Sem.run_bind, Sem.run_pure, Result.andThen_ok, List.map_toArray, List.map_cons, List.map_nil, hs, hx, hr]
  exact hK' _ _ hK
theorem row_one (w : World) (q : Bool) (X : ByteArray) : RdRow (w.alloc (.cells #[.bool q, .string X] 66)) (fun _ => True) 2 [(q, X)].length (.slice (some ⟨w.heap.size, 0, none⟩) 1 1) (partsC [(q, X)]) :=
  ⟨rfl, _, _, rfl, Nat.le_refl _, fun _ => ⟨w.heap.size, 0, rfl, trivial, by simp, fun j hj => by
    have hj' : j < 2 := hj
    rw [Nat.zero_add]
    match j, hj' with
    | 0, _ | 1, _ => simp [partsC, partC]⟩⟩
/-- What the loops keep of the object. -/
structure KeepV (w : World) (wr : World) (m : Vars) : Prop where
  env : KeepE w wr m
  short : Short m
theorem KeepV.on {w wr w2 : World} {m : Vars} (h : KeepV w wr m) (hc : Chg wr w2 NoB) : KeepV w w2 m := ⟨h.env.on hc, h.short⟩

set_option maxRecDepth 100000 in
set_option maxHeartbeats 1000000 in
theorem words_go (v va vb : Value) (l : List ActV) (a b : List PartV) (w : World) (hr : RdRow w (fun _ => True) 6 l.length v (actsC l)) (hra : RdRow w (fun _ => True) 2 a.length va (partsC a)) (hrb : RdRow w (fun _ => True) 2 b.length vb (partsC b)) (hl : l.length ≤ 9223372036854775807)
    (hg : greatV l = false) (ha : a.length ≤ 50) (hb : b.length ≤ 50) (hsa : ∀ p ∈ a, p.2.size ≤ 16777216) (hsb : ∀ p ∈ b, p.2.size ≤ 16777216) :
    Calls Tryd.prog 8 #[v, va, vb] w fun e w' => e = .returned (.bool true) ∧ Chg w w' NoB := by
  have HR := Lib.hid hr
  have HRA := Lib.hid hra
  have HRB := Lib.hid hrb
  obtain ⟨Aa, ca, rfl⟩ : ∃ A c, va = .slice A a.length c := by obtain ⟨_, A, c, rfl, _⟩ := hra; exact ⟨A, c, rfl⟩
  obtain ⟨Ab, cb, rfl⟩ : ∃ A c, vb = .slice A b.length c := by obtain ⟨_, A, c, rfl, _⟩ := hrb; exact ⟨A, c, rfl⟩
  obtain ⟨A, c, rfl, hA⟩ : ∃ A c, v = .slice A l.length c ∧ (l.length = 0 ∨ ∃ bb off, A = some ⟨bb, off, none⟩) := by
    rcases hr.where_ with ⟨h0, A, c, rfl⟩ | ⟨_, bb, off, c, rfl⟩
    · exact ⟨A, c, rfl, .inl h0⟩
    · exact ⟨_, c, rfl, .inr ⟨bb, off, rfl⟩⟩
  clear hr hra hrb
  have HSA := Lib.hid hsa
  have HSB := Lib.hid hsb
  clear hsa hsb
  have HA := Lib.hid (EnvAt.made w)
  have hcA : Hid (Chg w ((w.alloc (.map #[] 0)).alloc (.cells #[.map (some w.heap.size)] 102)) NoB) := ((Chg.refl _ _).alloc _).alloc _
  go_enter Tryd.func8, Tryd.ntmps8
  go_wp2_with (first | (go_at_call 25; refine (new_calls _).mono ?_; rintro e w1 ⟨rfl, rfl⟩))
  refine (envAlive_calls _).mono ?_
  rintro e w1 ⟨rfl, hc1⟩
  have HK : Hid (KeepV w w1 []) := ⟨⟨HA.out.chg hc1 (fun f => f) (fun f => f), hcA.out.trans hc1 (fun _ _ f => f), by simp, fun n hn => by simp at hn⟩, fun n x h => by simp [getV] at h⟩
  have HR1 := Lib.hid (HR.out.chg HK.out.env.chg (fun _ _ _ f => f))
  clear hc1 HA hcA
  have HG := Lib.hid hg
  clear hg
  go_wp2_with (go_at_call 26; refine (great_calls _ _ l _ HR1.out hl).mono ?_; rw [HG.out]; rintro e w2 ⟨rfl, hc2⟩; have HK2 : Hid (KeepV w w2 []) := HK.out.on hc2; clear hc2)
  clear HR1 HK
  go_loopw [50] (fun i wr => ∃ (k : Nat) (m : Vars), i = .int .i64 k ∧ k ≤ l.length ∧ Hid (KeepV w wr m)) (fun i _ => l.length - (intOf i).toNat)
  case atStart => exact ⟨0, [], rfl, Nat.zero_le _, HK2⟩
  case round =>
    obtain ⟨k, m, rfl, hk, HE⟩ := hrel
    clear HK2
    by_cases hlt : k < l.length
    · obtain ⟨bb, off, rfl⟩ : ∃ bb off, A = some ⟨bb, off, none⟩ := by
        rcases hA with h0 | h
        · omega
        · exact h
      obtain ⟨_, hbb, hcells⟩ := (HR.out.chg HE.out.env.chg (fun _ _ _ f => f)).at_ (by omega)
      have hgt := actsC_get l k hlt
      have hc0 := (hcells (k * 6) (by omega)).trans hgt.1
      have hc1 := (hcells (k * 6 + 1) (by omega)).trans hgt.2.1
      have hc2 := (hcells (k * 6 + 2) (by omega)).trans hgt.2.2.1
      have hc3 := (hcells (k * 6 + 3) (by omega)).trans hgt.2.2.2.1
      have hc4 := (hcells (k * 6 + 4) (by omega)).trans hgt.2.2.2.2.1
      have hc5 := (hcells (k * 6 + 5) (by omega)).trans hgt.2.2.2.2.2
      simp only [← Nat.add_assoc] at hc1 hc2 hc3 hc4 hc5
      have hsz := Lib.hid (ActV.sizes HG.out hlt)
      clear hgt hcells
      generalize l[k].kind = ak at *
      generalize l[k].name = an at *
      generalize l[k].value = av at *
      generalize l[k].ats = aa at *
      generalize l[k].kd = ad at *
      generalize l[k].pa = pa at *
      generalize l[k].pn = pn at *
      generalize l[k].pc = pc at *
      go_wp2_with (go_at_call 23; refine (set_calls _ _ m an av _ (HE.out.env.env.alloc _) (Nat.le_trans hsz.out.2.1 (by decide)) (Nat.le_trans hsz.out.1 (by decide)) HE.out.env.len).mono ?_; rintro e w3 ⟨rfl, hE3, hc3⟩; have HK3 : Hid (KeepV w w3 _) := ⟨HE.out.env.set ((Chg.refl wr NoB).alloc _) hE3 hc3, HE.out.short.set _ _⟩; clear hE3 hc3)
      · go_roundw
        case rel => exact ⟨k + 1, _, rfl, hlt, HK3⟩
        case measure => simp only [intOf]; omega
      · go_roundw
        case rel => exact ⟨k + 1, m, rfl, hlt, HE.out.on ((Chg.refl wr NoB).alloc _)⟩
        case measure => simp only [intOf]; omega
    · obtain rfl : k = l.length := by omega
      clear hlt hk hA HG HR
      have hnl := namesV_length m
      have hm256 := HE.out.env.len
      go_wp2_with fail
      refine (names_calls _ _ _ _ HE.out.env.env HE.out.env.len).mono ?_
      rintro e w3 ⟨v', rfl, hr3, hc3⟩
      rw [hnl] at hr3
      obtain ⟨A', cp, rfl, hA'⟩ := row_shape hr3 (by decide)
      have hlt2 := HE.out.env.env.lt
      have HE3 : Hid (KeepV w w3 m) := HE.out.on hc3
      have HRN : Hid (RdRow w3 (fun g => w.heap.size + 2 ≤ g) 1 m.length (.slice A' m.length cp) ((namesV m).map encStr)) := RdRow.ofOwn hr3 (by decide) (fun g hg => by have := (hr3.lt g hg).1; omega)
      clear hr3 hc3 HE
      go_wp2
      go_loopw [67] (fun i wr => ∃ k : Nat, i = .int .i64 k ∧ k ≤ m.length ∧ Hid (Chg w3 wr NoB)) (fun i _ => m.length - (intOf i).toNat)
      case atStart => exact ⟨0, rfl, Nat.zero_le _, Chg.refl _ _⟩
      case round =>
        obtain ⟨k, rfl, hk, HC⟩ := hrel
        have HEr : Hid (KeepV w wr m) := HE3.out.on HC.out
        by_cases hlt : k < m.length
        · obtain ⟨bb, off, rfl⟩ : ∃ bb off, A' = some ⟨bb, off, none⟩ := by
            rcases hA' with h0 | h
            · omega
            · exact h
          have hkl : k < (namesV m).length := by omega
          obtain ⟨X, x, hX, hcX, hgx, hxl⟩ : ∃ (X : ByteArray) (x : List UInt8), X.size ≤ 16777216 ∧ wr.cell? ⟨bb, off + k, none⟩ = some (.string X) ∧ getV m X.data.toList = some x ∧ x.length ≤ 16777216 := by
            obtain ⟨_, _, hcells⟩ := (HRN.out.chg HC.out (fun _ _ _ f => f)).at_ (by omega)
            have hmem : (namesV m)[k] ∈ m.map (·.1) := mem_namesV.1 (List.getElem_mem hkl)
            have hsz := right_size (HEr.out.env.right _ hmem)
            have hs := getV_some_of_mem hmem
            cases hg : getV m (namesV m)[k] with
            | none => rw [hg] at hs; cases hs
            | some x => exact ⟨str (namesV m)[k], x, by rw [str_size]; omega, (hcells k (by omega)).trans (by simp [hkl, encStr, str]), by rw [data_str]; exact hg, HEr.out.short _ _ hg⟩
          have hw1 := word_one hgx hxl
          have hX1 : ∀ p ∈ [((true, X) : PartV)], p.2.size ≤ 16777216 := fun p hp => (show p = (true, X) by simpa using hp) ▸ hX
          have hX2 : ∀ p ∈ [((true, X) : PartV)], p.2.size ≤ maxLen := fun p hp => Nat.le_trans (hX1 p hp) (by decide)
          have hsum1 : sumV m [(true, X)] ≤ 140737488355328 := Nat.le_trans (sum_short HEr.out.short _ hX1) (show (1 : Nat) * 16777216 ≤ 140737488355328 by decide)
          have HX2 := Lib.hid hX2
          have HS1 := Lib.hid hsum1
          clear hX1 hX2 hsum1
          go_wp2_with (first | (go_at_call 22; refine (word_calls _ _ m (fun _ => True) 0 0 _ [(true, X)] _ (HEr.out.env.env.alloc _) (row_one wr true X) (show (1 : Nat) ≤ 1000000000000 by decide) HX2.out HS1.out).mono ?_; rintro e w5 ⟨rfl, hc5⟩; rw [hw1]; have HC5 : Hid (Chg wr w5 NoB) := ((Chg.refl _ _).alloc _).trans hc5 (fun _ _ f => f); clear hc5) | (go_at_call 21; refine (get_calls _ _ _ X _ (HEr.out.env.env.chg HC5.out (fun f => f) (fun f => f)) (Nat.le_trans hX (by decide))).mono ?_; rw [hgx, Option.getD_some]; rintro e w6 ⟨rfl, rfl⟩))
          go_roundw
          case rel => exact ⟨k + 1, rfl, hlt, HC.out.trans HC5.out (fun _ _ f => f)⟩
          case measure => simp only [intOf]; omega
        · obtain rfl : k = m.length := by omega
          clear hlt hk hA' HE3 HRN HC
          obtain ⟨s, t, u, e, f, g, hwa, hwb, hwab, hsl, htl, hlaw⟩ := words_cases m a b
          have hcw := HEr.out.env.chg
          have HRA1 : Hid (RdRow wr (fun g => g < w.heap.size) 2 a.length (.slice Aa a.length ca) (partsC a)) := (HRA.out.bound.mono (fun k h _ => h.2)).chg hcw (fun _ _ _ f => f)
          have HRB1 : Hid (RdRow wr (fun g => g < w.heap.size) 2 b.length (.slice Ab b.length cb) (partsC b)) := (HRB.out.bound.mono (fun k h _ => h.2)).chg hcw (fun _ _ _ f => f)
          have hwsz := hcw.size
          have HSMA : Hid (sumV m a ≤ 140737488355328) := by have := sum_short HEr.out.short a HSA.out; show sumV m a ≤ _; omega
          have HSMB : Hid (sumV m b ≤ 140737488355328) := by have := sum_short HEr.out.short b HSB.out; show sumV m b ≤ _; omega
          have HSZA : Hid (∀ p ∈ a, p.2.size ≤ maxLen) := fun p hp => Nat.le_trans (HSA.out p hp) (by decide)
          have HSZB : Hid (∀ p ∈ b, p.2.size ≤ maxLen) := fun p hp => Nat.le_trans (HSB.out p hp) (by decide)
          clear HRA HRB hcw
          go_wp2_with fail
          refine (word_calls _ _ m _ 0 2 _ a _ HEr.out.env.env HRA1.out (by omega) HSZA.out HSMA.out).mono ?_
          rintro _ w5 ⟨rfl, hc5⟩
          rw [hwa]
          have HE5 : Hid (KeepV w w5 m) := HEr.out.on hc5
          have HRA5 := Lib.hid (HRA1.out.chg hc5 (fun _ _ _ f => f))
          have HRB5 := Lib.hid (HRB1.out.chg hc5 (fun _ _ _ f => f))
          clear hc5 HRA1 HRB1 HEr
          go_wp2_with fail
          refine (word_calls _ _ m _ 0 0 _ b _ HE5.out.env.env HRB5.out (by omega) HSZB.out HSMB.out).mono ?_
          rintro _ w6 ⟨rfl, hc6⟩
          rw [hwb]
          have HE6 : Hid (KeepV w w6 m) := HE5.out.on hc6
          have HRA6 := Lib.hid (HRA5.out.chg hc6 (fun _ _ _ f => f))
          have HRB6 := Lib.hid (HRB5.out.chg hc6 (fun _ _ _ f => f))
          clear hc6 HRA5 HRB5 HE5
          obtain ⟨A1, c1, w7, A2, c2, w8, r1, r2, hr8, hc8⟩ := app_two (fun k h => by have := HE6.out.env.chg.size; omega) HRA6.out HRB6.out ha hb
          have HR8 := Lib.hid hr8
          have HE8 : Hid (KeepV w w8 m) := HE6.out.on hc8
          have HSM : Hid (sumV m (a ++ b) ≤ 140737488355328) := by
            have h1 := sum_short HE8.out.short (a ++ b) (fun p hp => (List.mem_append.1 hp).elim (HSA.out p) (HSB.out p))
            rw [List.length_append] at h1
            show sumV m (a ++ b) ≤ _
            omega
          have HSZ : Hid (∀ p ∈ a ++ b, p.2.size ≤ maxLen) := fun p hp => (List.mem_append.1 hp).elim (HSZA.out p) (HSZB.out p)
          have hlen : (a ++ b).length ≤ 1000000000000 := by rw [List.length_append]; omega
          have HLEN := Lib.hid hlen
          clear hr8 hc8 HRA6 HRB6 HE6 hlen
          have R1 := Lib.hid (AppRun.mk r1)
          have R2 := Lib.hid (AppRun.mk r2)
          clear r1 r2
          have hss : (str s).size ≤ 16777216 := by rw [str_size]; exact hsl
          have hts : (str t).size ≤ 16777216 := by rw [str_size]; exact htl
          have hst : (str (s ++ t)).toList = (str s ++ str t).toList := by
            rw [ByteArray.toList_eq, ByteArray.toList_eq, ByteArray.data_append, Array.toList_append, data_str, data_str, data_str]
          have HST := Lib.hid hst
          have hemp : (str []).toList.isEmpty = true := by rw [ByteArray.toList_eq]; rfl
          clear hsl htl hwa hwb hst
          rcases hlaw with ⟨he, hg, rfl⟩ | ⟨rfl, hf, hg, rfl⟩ | ⟨rfl, rfl, rfl, rfl⟩ | ⟨rfl, rfl, rfl⟩
          · have he' : (e != 0) = true := by simpa using he
            have hg' : (g != 0) = true := by simpa using hg
            go_wp2_with (first | (at_builtin; refine wpList_append_eq rfl _ _ 48 rfl R1.out rfl rfl rfl ?_) | (at_builtin; refine wpList_append_eq rfl _ _ 48 rfl R2.out rfl rfl rfl ?_) | (go_at_call 22; refine (word_calls _ _ m _ 0 9 _ (a ++ b) _ HE8.out.env.env HR8.out HLEN.out HSZ.out HSM.out).mono ?_; rintro _ w9 ⟨rfl, hc9⟩; rw [hwab]; have HC9 : Hid (Chg w w9 NoB) := HE8.out.env.chg.trans hc9 (fun _ _ f => f); clear hc9))
            all_goals first
              | (rename_i hn; exact absurd HST.out hn)
              | (go_ret
                 exact ⟨by first | rfl | (show Ending.returned (.bool (str []).toList.isEmpty) = _; rw [hemp]), HC9.out⟩)
          · have hf' : (f != 0) = true := by simpa using hf
            have hg' : (g != 0) = true := by simpa using hg
            go_wp2_with (first | (at_builtin; refine wpList_append_eq rfl _ _ 48 rfl R1.out rfl rfl rfl ?_) | (at_builtin; refine wpList_append_eq rfl _ _ 48 rfl R2.out rfl rfl rfl ?_) | (go_at_call 22; refine (word_calls _ _ m _ 0 9 _ (a ++ b) _ HE8.out.env.env HR8.out HLEN.out HSZ.out HSM.out).mono ?_; rintro _ w9 ⟨rfl, hc9⟩; rw [hwab]; have HC9 : Hid (Chg w w9 NoB) := HE8.out.env.chg.trans hc9 (fun _ _ f => f); clear hc9))
            all_goals first
              | (rename_i hn; exact absurd HST.out hn)
              | (go_ret
                 exact ⟨by first | rfl | (show Ending.returned (.bool (str []).toList.isEmpty) = _; rw [hemp]), HC9.out⟩)
          · go_wp2_with (first | (at_builtin; refine wpList_append_eq rfl _ _ 48 rfl R1.out rfl rfl rfl ?_) | (at_builtin; refine wpList_append_eq rfl _ _ 48 rfl R2.out rfl rfl rfl ?_) | (go_at_call 22; refine (word_calls _ _ m _ 0 9 _ (a ++ b) _ HE8.out.env.env HR8.out HLEN.out HSZ.out HSM.out).mono ?_; rintro _ w9 ⟨rfl, hc9⟩; rw [hwab]; have HC9 : Hid (Chg w w9 NoB) := HE8.out.env.chg.trans hc9 (fun _ _ f => f); clear hc9))
            all_goals first
              | (rename_i hn; exact absurd HST.out hn)
              | (go_ret
                 exact ⟨by first | rfl | (show Ending.returned (.bool (str []).toList.isEmpty) = _; rw [hemp]), HC9.out⟩)
          · go_wp2_with (first | (at_builtin; refine wpList_append_eq rfl _ _ 48 rfl R1.out rfl rfl rfl ?_) | (at_builtin; refine wpList_append_eq rfl _ _ 48 rfl R2.out rfl rfl rfl ?_) | (go_at_call 22; refine (word_calls _ _ m _ 0 9 _ (a ++ b) _ HE8.out.env.env HR8.out HLEN.out HSZ.out HSM.out).mono ?_; rintro _ w9 ⟨rfl, hc9⟩; rw [hwab]; have HC9 : Hid (Chg w w9 NoB) := HE8.out.env.chg.trans hc9 (fun _ _ f => f); clear hc9))
            all_goals first
              | (rename_i hn; exact absurd HST.out hn)
              | (go_ret
                 exact ⟨by first | rfl | (show Ending.returned (.bool (str []).toList.isEmpty) = _; rw [hemp]), HC9.out⟩)

theorem words_all (v va vb : Value) (l : List ActV) (a b : List PartV) (w : World) (hr : RdRow w (fun _ => True) 6 l.length v (actsC l)) (hra : RdRow w (fun _ => True) 2 a.length va (partsC a)) (hrb : RdRow w (fun _ => True) 2 b.length vb (partsC b)) (hl : l.length ≤ 9223372036854775807)
    (hsa : ∀ p ∈ a, p.2.size ≤ 16777216) (hsb : ∀ p ∈ b, p.2.size ≤ 16777216) :
    Calls Tryd.prog 8 #[v, va, vb] w fun e w' => e = .returned (.bool true) ∧ Chg w w' NoB := by
  cases hg : greatV l with
  | true => exact words_great v va vb l a b w hr hra hrb hl (.inl hg)
  | false =>
    by_cases ha : a.length ≤ 50
    · by_cases hb : b.length ≤ 50
      · exact words_go v va vb l a b w hr hra hrb hl hg ha hb hsa hsb
      · exact words_great v va vb l a b w hr hra hrb hl (.inr ⟨hg, .inr ⟨ha, by omega⟩⟩)
    · exact words_great v va vb l a b w hr hra hrb hl (.inr ⟨hg, .inl (by omega)⟩)
#print axioms words_all
end Go.Proofs.YtbilkpioddjlfaaDoor
