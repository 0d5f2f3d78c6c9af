/- cuecardlaw16.EnvKeeps returns true, whatever the acts, the name and the value. No condition. -/
import Derived.Test.YtbilkpioddjlfaaDoorMapAt
import Derived.Test.YtbilkpioddjlfaaDoorActs
import Derived.Test.YtbilkpioddjlfaaDoorEnvL
import Derived.Test.YtbilkpioddjlfaaDoorManyW
namespace Go.Proofs.YtbilkpioddjlfaaDoor
open Go.RowKit Go.Maps

set_option maxRecDepth 100000 in
set_option maxHeartbeats 1000000 in
theorem keeps_great (v : Value) (l : List ActV) (name value : ByteArray) (w : World) (hr : RdRow w (fun _ => True) 6 l.length v (actsC l)) (hl : l.length ≤ 9223372036854775807) (hg : greatV l = true ∨ greatV l = false ∧ 1000 < value.size) :
    Calls Tryd.prog 7 #[v, .string name, .string value] w fun e w' => e = .returned (.bool true) ∧ Chg w w' NoB := by
  have HR := Lib.hid hr
  clear hr
  have HA := Lib.hid (EnvAt.made w)
  have hcA : Hid (Chg w ((w.alloc (.map #[] 0)).alloc (.cells #[.map (some w.heap.size)] 102)) NoB) := ((Chg.refl _ _).alloc _).alloc _
  go_enter Tryd.func7, Tryd.ntmps7
  go_wp2_with (first | (go_at_call 25; refine (new_calls _).mono ?_; rintro e w1 ⟨rfl, rfl⟩))
  refine (envAlive_calls _).mono ?_
  rintro e w1 ⟨rfl, hc1⟩
  have HC : Hid (Chg w w1 NoB) := hcA.out.trans hc1 (fun _ _ f => f)
  have HR1 := Lib.hid (HR.out.chg HC.out (fun _ _ _ f => f))
  clear hc1 HA hcA
  rcases hg with hg | ⟨hg, hv⟩
  all_goals have HG := Lib.hid hg
  all_goals clear hg
  all_goals go_wp2_with (go_at_call 26; refine (great_calls _ _ l _ HR1.out hl).mono ?_; rw [HG.out]; rintro e w2 ⟨rfl, hc2⟩; have HC2 : Hid (Chg w w2 NoB) := HC.out.trans hc2 (fun _ _ f => f); clear hc2)
  all_goals refine (calls_since (w0 := w) (envAlive_calls _) HC2.out).mono ?_
  all_goals rintro e w3 ⟨rfl, hc3⟩
  all_goals go_wp2
  all_goals go_ret
  all_goals exact ⟨rfl, hc3⟩

/-- What the loops keep of the object. -/
structure KeepE (w : World) (wr : World) (m : Vars) : Prop where
  env : EnvAt wr (w.heap.size + 1) w.heap.size m
  chg : Chg w wr NoB
  len : m.length ≤ 256
  right : Rights m
theorem KeepE.on {w wr w2 : World} {m : Vars} (h : KeepE w wr m) (hc : Chg wr w2 NoB) : KeepE w w2 m :=
  ⟨h.env.chg hc (fun f => f) (fun f => f), h.chg.trans hc (fun _ _ f => f), h.len, h.right⟩
theorem KeepE.row {w wr w2 : World} {m : Vars} {R : Nat} (h : KeepE w wr m) (hR : w.heap.size + 2 ≤ R) (hc : Chg wr w2 (fun k => k = R)) : KeepE w w2 m :=
  ⟨h.env.chg hc (by omega) (by omega), h.chg.trans hc (fun k hk e => by omega), h.len, h.right⟩
theorem KeepE.set {w wr w2 w3 : World} {m : Vars} {n v : List UInt8} (h : KeepE w wr m) (hc : Chg wr w2 NoB) (hE : EnvAt w3 (w.heap.size + 1) w.heap.size (setM m n v)) (hc2 : Chg w2 w3 (fun k => k = w.heap.size)) : KeepE w w3 (setM m n v) :=
  ⟨hE, (h.chg.trans hc (fun _ _ f => f)).trans hc2 (fun k hk e => by omega), length_set h.len _ _, h.right.set _ _⟩
/-- .. and of the map of what was told, once the names are there. -/
structure KeepW (w : World) (B : Nat) (m : Vars) (v : Value) (ns : List (List UInt8)) (wr : World) : Prop where
  env : KeepE w wr m
  map : MapAt wr B (wasV m ns)
  row : RdRow wr (fun g => B < g) 1 m.length v ((namesV m).map encStr)
theorem KeepW.next {w wr : World} {B bb off cp k : Nat} {m : Vars} (h : KeepW w B m (.slice (some ⟨bb, off, none⟩) m.length cp) ((namesV m).take k) wr) (hB : w.heap.size + 2 ≤ B) (hk : k < m.length) :
    ∃ X : ByteArray, X.size ≤ maxLen ∧ wr.cell? ⟨bb, off + k, none⟩ = some (.string X) ∧
      ∃ w5, (Instr.mapUpdate 63 (.map (some B)) (.string X) (.string (str ((getV m X.data.toList).getD [])))).run Tryd.prog wr = .ok () w5 ∧ KeepW w B m (.slice (some ⟨bb, off, none⟩) m.length cp) ((namesV m).take (k + 1)) w5 := by
  have hkl : k < (namesV m).length := by rw [namesV_length]; exact hk
  obtain ⟨_, _, hcells⟩ := h.row.at_ (by omega)
  have hmem : (namesV m)[k] ∈ m.map (·.1) := mem_namesV.1 (List.getElem_mem hkl)
  have hsz := right_size (h.env.right _ hmem)
  have hX : (str (namesV m)[k]).size ≤ maxLen := by rw [str_size]; unfold maxLen; omega
  have hval := h.env.env.value_le (str (namesV m)[k]) hX
  have hnot : (namesV m)[k] ∉ (namesV m).take k := fun hm => by
    obtain ⟨i, hi, e⟩ := List.mem_iff_getElem.1 hm
    have hik : i < k := by simp at hi; omega
    have := namesV_lt h.env.env.nodup hik hkl
    simp only [List.getElem_take] at e
    rw [e] at this
    exact absurd this (List.lt_irrefl _)
  obtain ⟨w5, hrun, hM, hc⟩ := h.map.store (str (namesV m)[k]) (str ((getV m (str (namesV m)[k]).data.toList).getD [])) hX (by rw [str_size]; exact hval) (by rw [wasV_length]; simp; have := h.env.len; unfold maxLen; omega)
  refine ⟨str (namesV m)[k], hX, (hcells k (by omega)).trans (by simp [hkl, encStr, str]), w5, hrun, ?_, ?_, ?_⟩
  · have h1 := h.env.env.lt
    have h2 := h.env.env.ltb
    exact ⟨h.env.env.chg hc (by omega) (by omega), h.env.chg.trans hc (fun j hj e => by omega), h.env.len, h.env.right⟩
  · rw [data_str, data_str, wasV_next hnot] at hM
    have e : (namesV m).take k ++ [(namesV m)[k]] = (namesV m).take (k + 1) := by simp
    rw [e] at hM
    exact hM
  · exact h.row.chg hc (fun j hj _ e => by omega)
/-- What Set changes. -/
theorem setM_facts (m : Vars) (n v : List UInt8) : (setE m n v = 0 → getV (setM m n v) n = some v ∧ ∀ x, x ≠ n → getV (setM m n v) x = getV m x) ∧ (setE m n v ≠ 0 → setM m n v = m) := by
  unfold setM
  refine ⟨fun h => ?_, fun h => by rw [if_neg h]⟩
  rw [if_pos h]
  exact ⟨getV_put_same _ _ _, fun x hx => getV_put_other _ _ _ _ hx⟩
/-- .. behind the last Set. -/
structure KeepS (w : World) (B : Nat) (m m' : Vars) (wr : World) : Prop where
  env : KeepE w wr m'
  map : MapAt wr B (wasV m (namesV m))
theorem KeepW.set {w wr w2 : World} {B : Nat} {m : Vars} {v : Value} {n x : List UInt8} (h : KeepW w B m v (namesV m) wr) (hB : w.heap.size + 2 ≤ B) (hE : EnvAt w2 (w.heap.size + 1) w.heap.size (setM m n x)) (hc : Chg wr w2 (fun k => k = w.heap.size)) : KeepS w B m (setM m n x) w2 :=
  ⟨h.env.set (Chg.refl _ _) hE hc, h.map.chg hc (by omega)⟩
theorem RelD.entry {D : DataW Unit} {m : Vars} (h : RelD D m) {x c : List UInt8} (hat : ∀ zd, D.atKey (.string x) zd = .lit (.string c)) : getV m x = some c := by
  have hh : Maps.has D (.string x) = true := has_true_of_atKey hat
  rw [h.has] at hh
  cases hg : getV m x with
  | none => rw [hg] at hh; cases hh
  | some v =>
    have h1 := h.at_ x v hg (.lit (.string []))
    rw [hat] at h1
    simp only [DataW.lit.injEq, Lit.string.injEq] at h1
    rw [h1]
theorem ActV.sizes {l : List ActV} (hg : greatV l = false) {k : Nat} (hk : k < l.length) : l[k].value.size ≤ 200 ∧ l[k].name.size ≤ 200 ∧ l[k].pn ≤ 50 := by
  unfold greatV at hg
  rw [Bool.or_eq_false_iff, List.any_eq_false] at hg
  have := hg.2 _ (List.getElem_mem hk)
  simp only [badV, Bool.or_eq_true, decide_eq_true_eq, not_or, Nat.not_lt] at this
  exact ⟨this.1, this.2.1, this.2.2⟩

set_option maxRecDepth 100000 in
set_option maxHeartbeats 1000000 in
theorem keeps_go (v : Value) (l : List ActV) (name value : ByteArray) (w : World) (hr : RdRow w (fun _ => True) 6 l.length v (actsC l)) (hl : l.length ≤ 9223372036854775807) (hg : greatV l = false) (hv : value.size ≤ 1000) (hn : name.size ≤ maxLen) :
    Calls Tryd.prog 7 #[v, .string name, .string value] w fun e w' => e = .returned (.bool true) ∧ Chg w w' NoB := by
  have HR := Lib.hid hr
  obtain ⟨A, c, rfl, hA⟩ : ∃ A c, v = .slice A l.length c ∧ (l.length = 0 ∨ ∃ bb off, A = some ⟨bb, off, none⟩) := by
    rcases hr.where_ with ⟨h0, A, c, rfl⟩ | ⟨_, bb, off, c, rfl⟩
    · exact ⟨A, c, rfl, .inl h0⟩
    · exact ⟨_, c, rfl, .inr ⟨bb, off, rfl⟩⟩
  clear hr
  have HN := Lib.hid hn
  have HA := Lib.hid (EnvAt.made w)
  have hcA : Hid (Chg w ((w.alloc (.map #[] 0)).alloc (.cells #[.map (some w.heap.size)] 102)) NoB) := ((Chg.refl _ _).alloc _).alloc _
  go_enter Tryd.func7, Tryd.ntmps7
  go_wp2_with (first | (go_at_call 25; refine (new_calls _).mono ?_; rintro e w1 ⟨rfl, rfl⟩))
  refine (envAlive_calls _).mono ?_
  rintro e w1 ⟨rfl, hc1⟩
  have HK : Hid (KeepE w w1 []) := ⟨HA.out.chg hc1 (fun f => f) (fun f => f), hcA.out.trans hc1 (fun _ _ f => f), by simp, fun n hn => by simp at hn⟩
  have HR1 := Lib.hid (HR.out.chg HK.out.chg (fun _ _ _ f => f))
  clear hc1 HA hcA
  have HG := Lib.hid hg
  clear hg hn
  go_wp2_with (go_at_call 26; refine (great_calls _ _ l _ HR1.out hl).mono ?_; rw [HG.out]; rintro e w2 ⟨rfl, hc2⟩; have HK2 : Hid (KeepE w w2 []) := HK.out.on hc2; clear hc2)
  clear HR1 HK
  go_loopw [45] (fun i wr => ∃ (k : Nat) (m : Vars), i = .int .i64 k ∧ k ≤ l.length ∧ Hid (KeepE w wr m)) (fun i _ => l.length - (intOf i).toNat)
  case atStart => exact ⟨0, [], rfl, Nat.zero_le _, HK2⟩
  case round =>
    obtain ⟨k, m, rfl, hk, HE⟩ := hrel
    clear HK2
    by_cases hlt : k < l.length
    · obtain ⟨bb, off, rfl⟩ : ∃ bb off, A = some ⟨bb, off, none⟩ := by
        rcases hA with h0 | h
        · omega
        · exact h
      obtain ⟨_, hbb, hcells⟩ := (HR.out.chg HE.out.chg (fun _ _ _ f => f)).at_ (by omega)
      have hgt := actsC_get l k hlt
      have hc0 := (hcells (k * 6) (by omega)).trans hgt.1
      have hc1 := (hcells (k * 6 + 1) (by omega)).trans hgt.2.1
      have hc2 := (hcells (k * 6 + 2) (by omega)).trans hgt.2.2.1
      have hc3 := (hcells (k * 6 + 3) (by omega)).trans hgt.2.2.2.1
      have hc4 := (hcells (k * 6 + 4) (by omega)).trans hgt.2.2.2.2.1
      have hc5 := (hcells (k * 6 + 5) (by omega)).trans hgt.2.2.2.2.2
      simp only [← Nat.add_assoc] at hc1 hc2 hc3 hc4 hc5
      have hsz := Lib.hid (ActV.sizes HG.out hlt)
      clear hgt hcells
      generalize l[k].kind = ak at *
      generalize l[k].name = an at *
      generalize l[k].value = av at *
      generalize l[k].ats = aa at *
      generalize l[k].kd = ad at *
      generalize l[k].pa = pa at *
      generalize l[k].pn = pn at *
      generalize l[k].pc = pc at *
      go_wp2_with (go_at_call 23; refine (set_calls _ _ m an av _ (HE.out.env.alloc _) (Nat.le_trans hsz.out.2.1 (by decide)) (Nat.le_trans hsz.out.1 (by decide)) HE.out.len).mono ?_; rintro e w3 ⟨rfl, hE3, hc3⟩; have HK3 : Hid (KeepE w w3 _) := HE.out.set ((Chg.refl wr NoB).alloc _) hE3 hc3; clear hE3 hc3)
      · go_roundw
        case rel => exact ⟨k + 1, _, rfl, hlt, HK3⟩
        case measure => simp only [intOf]; omega
      · go_roundw
        case rel => exact ⟨k + 1, m, rfl, hlt, HE.out.on ((Chg.refl wr NoB).alloc _)⟩
        case measure => simp only [intOf]; omega
    · obtain rfl : k = l.length := by omega
      clear hlt hk hA HG HR
      have hmm := @run_makeMap Tryd.prog
      have hMA := Lib.hid (MapAt.made wr)
      have hlt2 := HE.out.env.lt
      have HEm : Hid (KeepE w (wr.alloc (.map #[] 0)) m) := HE.out.on ((Chg.refl wr NoB).alloc _)
      have hnl := namesV_length m
      have hm256 := HE.out.len
      clear HE
      go_wp2_with fail
      refine (names_calls _ _ _ _ HEm.out.env HEm.out.len).mono ?_
      rintro e w3 ⟨v', rfl, hr3, hc3⟩
      rw [hnl] at hr3
      obtain ⟨A', cp, rfl, hA'⟩ := row_shape hr3 (by decide)
      have hw0 : Hid (KeepW w wr.heap.size m (.slice A' m.length cp) [] w3) := by
        refine ⟨HEm.out.on hc3, hMA.out.chg hc3 (fun f => f), RdRow.ofOwn hr3 (by decide) (fun g hg => by have := (hr3.lt g hg).1; simp at this; omega)⟩
      clear hr3 hc3 HEm hMA hmm
      have hB2 : w.heap.size + 2 ≤ wr.heap.size := by omega
      generalize wr.heap.size = B at *
      go_wp2
      go_loopw [63] (fun i wr => ∃ k : Nat, i = .int .i64 k ∧ k ≤ m.length ∧ Hid (KeepW w B m (.slice A' m.length cp) ((namesV m).take k) wr)) (fun i _ => m.length - (intOf i).toNat)
      case atStart => exact ⟨0, rfl, Nat.zero_le _, hw0⟩
      case round =>
        obtain ⟨k, rfl, hk, HW⟩ := hrel
        by_cases hlt : k < m.length
        · obtain ⟨bb, off, rfl⟩ : ∃ bb off, A' = some ⟨bb, off, none⟩ := by
            rcases hA' with h0 | h
            · omega
            · exact h
          obtain ⟨X, hX, hcX, w5, hrun, hW5⟩ := HW.out.next hB2 hlt
          have HW5 := Lib.hid hW5
          clear hW5
          go_wp2_with (go_at_call 21; refine (get_calls _ _ _ X _ HW.out.env.env hX).mono ?_; rintro e w6 ⟨rfl, rfl⟩)
          go_roundw
          case rel => exact ⟨k + 1, rfl, hlt, HW5⟩
          case measure => simp only [intOf]; omega
        · obtain rfl : k = m.length := by omega
          clear hlt hk hA' hw0
          have hfull : (namesV m).take m.length = namesV m := by rw [← namesV_length m, List.take_length]
          rw [hfull] at HW
          clear hfull
          have HMF := Lib.hid (setM_facts m name.data.toList value.data.toList)
          go_wp2_with (first
            | (go_at_call 23; refine (set_calls _ _ m name value _ HW.out.env.env HN.out (Nat.le_trans hv (by decide)) hm256).mono ?_; rintro e w6 ⟨rfl, hE6, hc6⟩; have HW6 : Hid (KeepS w B m (setM m name.data.toList value.data.toList) w6) := HW.out.set hB2 hE6 hc6; clear hE6 hc6 HW; obtain ⟨D0, hD0, ho6⟩ := HW6.out.map; generalize setM m name.data.toList value.data.toList = m' at *; generalize setE m name.data.toList value.data.toList = e at *)
            | (at_range; refine wpList_range_own _ rfl _ 63 rfl 9 9 EnvAt.keyed Tryd.underlying63 _ B _ _ rfl ho6 ?_; intro w7 hrg7 hg7 hs7)
            | go_in)
          go_frame
          have hB6 := ho6.lt
          have hw6 := HW6.out.env.env.lt
          have HK7 : Hid (KeepE w w7 m') := HW6.out.env.on ((Chg.ofGrown hg7).mono (fun _ _ e => by cases e))
          have hR2 : w.heap.size + 2 ≤ w6.heap.size := by omega
          clear hg7 hs7 HW6 ho6
          have HD := Lib.hid hD0
          have hnn := wasV_length m (namesV m)
          rw [namesV_length] at hnn
          rw [hnn] at hrg7
          generalize w6.heap.size = R at *
          go_loopw [82] (fun _ wr => ∃ (left : Lit → Bool) (cnt : Nat), Hid (wr.ranges Tryd.prog 9 (plainElem Tryd.prog 9) B R m.length D0 left cnt) ∧ Hid (KeepE w wr m')) (fun _ wr => wr.rangeLeft B R)
          case atStart => exact ⟨_, _, hrg7, HK7⟩
          case round =>
            obtain ⟨left, cnt, HRG, HK⟩ := hrel
            go_wp2_with (first
              | (at_next; refine wpList_next_ranges _ rfl _ rfl 9 EnvAt.keyed (plainElem Tryd.prog 9) Value.string Value.string (fun key kl hk => by obtain ⟨x, hx, _⟩ := Maps.keyOf_str Tryd.underlying9 hk; exact ⟨⟨x.toArray⟩, hx⟩) (fun v y hv => by obtain ⟨c, rfl, _⟩ := plainElem_string_inv Tryd.underlying9 hv; exact ⟨c, rfl⟩) B R m.length _ _ _ rfl HRG.out ?_ ?_)
              | go_in)
            · intro hc0 hl0
              have hMB : MapAt wr B (wasV m (namesV m)) := ⟨D0, HD.out, by rw [hnn]; exact HRG.out.owns⟩
              have hlk := hMB.look name HN.out
              rw [wasV_isSome] at hlk
              clear HRG
              by_cases he : e = 0
              · subst he
                have hgv := (HMF.out.1 rfl).1
                clear HMF hlk
                go_wp2_with (go_at_call 21; refine (get_calls _ _ _ name _ HK.out.env HN.out).mono ?_; rw [hgv, Option.getD_some, str_data]; rintro e w9 ⟨rfl, rfl⟩)
                go_ret
                exact ⟨by simp, HK.out.chg⟩
              · obtain rfl := HMF.out.2 he
                clear HMF
                have he' : (e != 0) = true := by simpa using he
                go_wp2_with (go_at_call 21; refine (get_calls _ _ _ name _ HK.out.env HN.out).mono ?_; rintro e w9 ⟨rfl, rfl⟩)
                refine (names_calls _ _ _ _ HK.out.env HK.out.len).mono ?_
                rintro e2 w9 ⟨v9, rfl, hr9, hc9⟩
                rw [namesV_length] at hr9
                obtain ⟨A9, c9, rfl, -⟩ := row_shape hr9 (by decide)
                have HC9 : Hid (Chg w w9 NoB) := HK.out.chg.trans hc9 (fun _ _ f => f)
                have hlm9 : (Builtin.len_ #[63] 3 #[.map (some B)]).run Tryd.prog w9 = .ok (.int .i64 m'.length) w9 := by
                  have h9 := (hMB.chg hc9 (fun f => f)).len 3
                  rwa [hnn] at h9
                clear hr9 hc9
                go_wp2
                go_ret
                exact ⟨by simp, HC9.out⟩
            · intro x cv kl yd yp w8 cnt2 hkey hlk hv hat hrg8 hlt8 hg8 hs8 hen
              obtain ⟨x', ex, rfl, hxl⟩ := Maps.keyOf_str Tryd.underlying9 hkey
              obtain ⟨c', ec, ey, hcs⟩ := plainElem_string_inv Tryd.underlying9 hv
              obtain rfl : cv = c' := by injection ec
              have hx' : x.data.toList = x' := by
                injection ex with e1
                rw [e1]
              subst hx'
              obtain rfl : yd = .lit (.string cv.data.toList) := by simpa using congrArg Prod.fst ey
              have hgw := HD.out.entry hat
              have hgm := wasV_all hgw
              have hxs : x.size ≤ maxLen := by simpa using hxl
              have HRG8 := Lib.hid hrg8
              have HK8 : Hid (KeepE w w8 m') := HK.out.row hR2 ((Chg.ofGrown hg8).mono (fun _ _ e => (Option.some.inj e).symm))
              have hmeas : w8.rangeLeft B R < wr.rangeLeft B R := by rw [hrg8.left_eq, HRG.out.left_eq]; exact hlt8
              clear hat hrg8 hg8 hs8 hgw hkey hv ey ex ec hlk hxl
              by_cases hcase : e ≠ 0 ∨ x.data.toList ≠ name.data.toList
              · have hgx : getV m' x.data.toList = some cv.data.toList := by
                  by_cases he : e = 0
                  · rw [(HMF.out.1 he).2 _ (hcase.resolve_left (fun h => h he))]; exact hgm
                  · rw [HMF.out.2 he]; exact hgm
                have HCS := Lib.hid hcase
                clear hcase
                go_wp2_with (go_at_call 21; refine (get_calls _ _ _ x _ HK8.out.env hxs).mono ?_; rw [hgx, Option.getD_some, str_data]; rintro e w9 ⟨rfl, rfl⟩)
                · rename_i hxn he
                  rw [ByteArray.toList_eq, ByteArray.toList_eq] at hxn
                  rcases HCS.out with h | h
                  · exact absurd he h
                  · exact absurd hxn h
                · go_roundw
                  case rel => exact ⟨_, _, HRG8, HK8⟩
                  case measure => exact hmeas
                · go_roundw
                  case rel => exact ⟨_, _, HRG8, HK8⟩
                  case measure => exact hmeas
              · obtain ⟨he, hxn⟩ : e = 0 ∧ x.data.toList = name.data.toList := by
                  refine ⟨Classical.byContradiction fun h => hcase (.inl h), Classical.byContradiction fun h => hcase (.inr h)⟩
                obtain rfl : x = name := by rw [← str_data x, ← str_data name, hxn]
                subst he
                have hgx := (HMF.out.1 rfl).1
                clear hcase hxn
                go_wp2_with (go_at_call 21; refine (get_calls _ _ _ x _ HK8.out.env hxs).mono ?_; rw [hgx, Option.getD_some, str_data]; rintro e w9 ⟨rfl, rfl⟩)
                · go_roundw
                  case rel => exact ⟨_, _, HRG8, HK8⟩
                  case measure => exact hmeas

theorem keeps_all (v : Value) (l : List ActV) (name value : ByteArray) (w : World) (hr : RdRow w (fun _ => True) 6 l.length v (actsC l)) (hl : l.length ≤ 9223372036854775807) (hn : name.size ≤ maxLen) :
    Calls Tryd.prog 7 #[v, .string name, .string value] w fun e w' => e = .returned (.bool true) ∧ Chg w w' NoB := by
  cases hg : greatV l with
  | true => exact keeps_great v l name value w hr hl (.inl hg)
  | false =>
    by_cases hv : value.size ≤ 1000
    · exact keeps_go v l name value w hr hl hg hv hn
    · exact keeps_great v l name value w hr hl (.inr ⟨hg, by omega⟩)
#print axioms keeps_all
end Go.Proofs.YtbilkpioddjlfaaDoor
