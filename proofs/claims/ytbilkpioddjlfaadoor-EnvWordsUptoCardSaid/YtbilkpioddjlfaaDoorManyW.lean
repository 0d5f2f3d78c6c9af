/- cuecardlaw16.EnvMany returns true, whatever the number and the value. No condition. -/
import Derived.Test.YtbilkpioddjlfaaDoorManyA
import Derived.Test.YtbilkpioddjlfaaDoorEnvL
import Derived.Test.YtbilkpioddjlfaaDoorBytes
namespace Go.Proofs.YtbilkpioddjlfaaDoor
open Go.RowKit Go.Maps

theorem conv_three (w : World) (c d e : UInt8) (z y x : Int) (hz : z = c.toNat) (hy : y = d.toNat) (hx : x = e.toNat) : (convert 38 9 (.slice (some ⟨w.heap.size, 0, none⟩) 3 3)).run Tryd.prog (w.alloc (.cells #[.int .u8 z, .int .u8 y, .int .u8 x] 5)) = .ok (.string (str [c, d, e])) (w.alloc (.cells #[.int .u8 z, .int .u8 y, .int .u8 x] 5)) := by
  subst hz; subst hy; subst hx
  exact conv_string (F := fun _ => True) (l := [c, d, e]) ⟨rfl, _, _, rfl, Nat.le_refl _, fun _ => ⟨w.heap.size, 0, rfl, trivial, by simp, fun j hj => by
    match j, hj with
    | 0, _ | 1, _ | 2, _ => simp [bcells]⟩⟩

theorem row_shape {W : World} {base e sz n : Nat} {v : Value} {cs : List Value} (h : W.ownsRow base e sz v n cs) (hsz : 0 < sz) : ∃ A c, v = .slice A n c ∧ (n = 0 ∨ ∃ bb off, A = some ⟨bb, off, none⟩) := by
  rcases (RdRow.ofOwn (F := fun _ => True) h hsz (fun _ _ => trivial)).where_ with ⟨h0, A, c, rfl⟩ | ⟨_, bb, off, c, rfl⟩
  · exact ⟨A, c, rfl, .inl h0⟩
  · exact ⟨_, c, rfl, .inr ⟨bb, off, rfl⟩⟩

/-- What the second loop keeps. -/
structure ManyRel (w : World) (M : Vars) (N : Nat) (v : Value) (wr : World) : Prop where
  env : ∃ m, EnvAt wr (w.heap.size + 1) w.heap.size m ∧ m.map (·.1) = M.map (·.1)
  chg : Chg w wr NoB
  row : RdRow wr (fun g => w.heap.size + 2 ≤ g) 1 N v ((namesV M).map encStr)

theorem ManyRel.step {w wr w2 : World} {M m : Vars} {N : Nat} {v : Value} (h : ManyRel w M N v wr) (hE : EnvAt w2 (w.heap.size + 1) w.heap.size m) (hm : m.map (·.1) = M.map (·.1)) (hc : Chg wr w2 (fun k => k = w.heap.size)) : ManyRel w M N v w2 :=
  ⟨⟨m, hE, hm⟩, h.chg.trans hc (fun k hk e => by omega), h.row.chg hc (fun k hk _ e => by omega)⟩
theorem ManyRel.at_ {w wr : World} {M : Vars} {N bb off cp k : Nat} (h : ManyRel w M N (.slice (some ⟨bb, off, none⟩) N cp) wr) (hN : (namesV M).length = N) (hk : k < N) (hlt : ∀ (i j : Nat) (hij : i < j) (hj : j < (namesV M).length), (namesV M)[i]'(by omega) < (namesV M)[j])
    (hm : ∀ s ∈ namesV M, rightB s = true ∧ s.length = 4) :
    ∃ x : ByteArray, wr.cell? ⟨bb, off + k, none⟩ = some (.string x) ∧ x.data.toList ∈ M.map (·.1) ∧ rightB x.data.toList = true ∧ x.size = 4 ∧ ∀ q, k = q + 1 → ∃ y : ByteArray, wr.cell? ⟨bb, off + q, none⟩ = some (.string y) ∧ y.data.toList < x.data.toList := by
  obtain ⟨_, _, hcells⟩ := h.row.at_ (by omega)
  have hkl : k < (namesV M).length := by omega
  have hmm := hm _ (List.getElem_mem hkl)
  refine ⟨str (namesV M)[k], (hcells k (by omega)).trans (by simp [hkl, encStr, str]), by rw [data_str]; exact mem_namesV.1 (List.getElem_mem hkl), by rw [data_str]; exact hmm.1, by rw [str_size]; exact hmm.2, ?_⟩
  rintro q rfl
  have hql : q < (namesV M).length := by omega
  refine ⟨str (namesV M)[q], (hcells q (by omega)).trans (by simp [hql, encStr, str]), ?_⟩
  rw [data_str, data_str]
  exact hlt q (q + 1) (by omega) hkl

set_option maxRecDepth 100000 in
set_option maxHeartbeats 1000000 in
theorem many_all (z : Int) (s : ByteArray) (w : World) (hz : (Lit.int .i64 z).wf = true) (hs : s.size ≤ maxLen) :
    Calls Tryd.prog 9 #[.int .i64 z, .string s] w fun e w' => e = .returned (.bool true) ∧ Chg w w' NoB := by
  go_enter Tryd.func9, Tryd.ntmps9
  have hx : (s.extract 0 (min (s.size : Int) 100).toNat).size ≤ 100 := by rw [ByteArray.size_extract]; omega
  have HX := Lib.hid hx
  clear hx
  have HA := Lib.hid (EnvAt.made w)
  have hcA : Hid (Chg w ((w.alloc (.map #[] 0)).alloc (.cells #[.map (some w.heap.size)] 102)) NoB) := ((Chg.refl _ _).alloc _).alloc _
  go_wp2_with (first | (go_at_call 25; refine (new_calls _).mono ?_; rintro e w1 ⟨rfl, rfl⟩))
  generalize s.extract 0 (min (s.size : Int) 100).toNat = v at *
  refine (envAlive_calls _).mono ?_
  rintro e w1 ⟨rfl, hc1⟩
  have HE : Hid (EnvAt w1 (w.heap.size + 1) w.heap.size []) := HA.out.chg hc1 (fun f => f) (fun f => f)
  have HC : Hid (Chg w w1 NoB) := hcA.out.trans hc1 (fun _ _ f => f)
  clear hc1 HA hcA hs
  have hk : ∃ K : Nat, max 0 z % 300 = (K : Int) ∧ K < 300 := ⟨(max 0 z % 300).toNat, by omega, by omega⟩
  obtain ⟨K, hK, hK3⟩ := hk
  go_wp2
  rw [hK]
  clear hK hz
  go_loopw [30] (fun i wr => ∃ j : Nat, i = .int .i64 j ∧ j ≤ K ∧ Hid (EnvAt wr (w.heap.size + 1) w.heap.size (manyM v.data.toList (min j 256))) ∧ Hid (Chg w wr NoB)) (fun i _ => K - (intOf i).toNat)
  case atStart => exact ⟨0, rfl, Nat.zero_le _, HE, HC⟩
  case round =>
    obtain ⟨j, rfl, hj, HEr, HCr⟩ := hrel
    by_cases hlt : j < K
    · have hconv := fun (wx : World) => conv_three wx (UInt8.ofNat (97 + j / 26 % 26)) (UInt8.ofNat (97 + j % 26)) (UInt8.ofNat (65 + j / 676)) (97 + (j : Int) / 26 % 26) (97 + (j : Int) % 26) (65 + (j : Int) / 676) (by simp only [UInt8.toNat_ofNat']; omega) (by simp only [UInt8.toNat_ofNat']; omega) (by simp only [UInt8.toNat_ofNat']; omega)
      have hnm : ((⟨#[118]⟩ : ByteArray) ++ str [UInt8.ofNat (97 + j / 26 % 26), UInt8.ofNat (97 + j % 26), UInt8.ofNat (65 + j / 676)]).data.toList = nm j := rfl
      have HNM := Lib.hid hnm
      have hss : (str [UInt8.ofNat (97 + j / 26 % 26), UInt8.ofNat (97 + j % 26), UInt8.ofNat (65 + j / 676)]).size = 3 := rfl
      have hvl : v.data.toList.length = v.size := by simp
      have hst := many_step (v := v.data.toList) (i := j) (by rw [hvl]; exact HX.out) (by omega)
      have HST := Lib.hid hst
      clear hnm hst hvl
      generalize str [UInt8.ofNat (97 + j / 26 % 26), UInt8.ofNat (97 + j % 26), UInt8.ofNat (65 + j / 676)] = sc at *
      have hns : ((⟨#[118]⟩ : ByteArray) ++ sc).size ≤ maxLen := by rw [ByteArray.size_append, hss]; decide
      have HNS := Lib.hid hns
      clear hns
      by_cases h256 : j < 256
      · go_wp2_with (go_at_call 23; refine (set_calls _ _ _ _ _ _ (HEr.out.alloc _) HNS.out (Nat.le_trans HX.out (by decide)) (by rw [manyM_length]; omega)).mono ?_; rw [HNM.out]; rintro e w2 ⟨rfl, hE2, hc2⟩; rw [HST.out.1, if_pos h256]; rw [HST.out.2] at hE2; have HE2 := Lib.hid hE2; have HC2 : Hid (Chg w w2 NoB) := (HCr.out.alloc _).trans hc2 (fun k hk e => by subst e; exact absurd hk (Nat.lt_irrefl _)); clear hE2 hc2)
        go_roundw
        case rel => exact ⟨j + 1, rfl, hlt, HE2, HC2⟩
        case measure => simp only [intOf]; omega
      · go_wp2_with (go_at_call 23; refine (set_calls _ _ _ _ _ _ (HEr.out.alloc _) HNS.out (Nat.le_trans HX.out (by decide)) (by rw [manyM_length]; omega)).mono ?_; rw [HNM.out]; rintro e w2 ⟨rfl, hE2, hc2⟩; rw [HST.out.1, if_neg h256]; rw [HST.out.2] at hE2; have HE2 := Lib.hid hE2; have HC2 : Hid (Chg w w2 NoB) := (HCr.out.alloc _).trans hc2 (fun k hk e => by subst e; exact absurd hk (Nat.lt_irrefl _)); clear hE2 hc2)
        go_roundw
        case rel => exact ⟨j + 1, rfl, hlt, HE2, HC2⟩
        case measure => simp only [intOf]; omega
    · obtain rfl : j = K := by omega
      clear hlt hj
      have hlenM : (manyM v.data.toList (min j 256)).length ≤ 256 := by rw [manyM_length]; omega
      have hnl : (namesV (manyM v.data.toList (min j 256))).length = min j 256 := by rw [namesV_length, manyM_length]
      have HLM := Lib.hid hlenM
      have hmem : ∀ s ∈ namesV (manyM v.data.toList (min j 256)), rightB s = true ∧ s.length = 4 := fun s hs => many_mem (by omega) (mem_namesV.1 hs)
      have HMEM := Lib.hid hmem
      have hnd := HEr.out.nodup
      have HLT := Lib.hid (fun (i k : Nat) => @namesV_lt _ hnd i k)
      clear hlenM hnd hmem
      have hKN : ((min j 256 : Nat) : Int) = min (j : Int) 256 := by omega
      generalize hM : manyM v.data.toList (min j 256) = M at *
      generalize hN : min j 256 = N at *
      go_wp2_with fail
      refine (names_calls _ _ _ _ HEr.out HLM.out).mono ?_
      rw [hnl]
      rintro e w2 ⟨v', rfl, hr2, hc2⟩
      obtain ⟨A, cp, rfl, hA⟩ := row_shape hr2 (by decide)
      have HR2 := Lib.hid hr2
      have HC3 := Lib.hid hc2
      clear hr2 hc2
      have hrel0 : ManyRel w M N (.slice A N cp) w2 := by
        have h1 := HEr.out.lt
        refine ⟨⟨M, HEr.out.chg HC3.out (fun f => f) (fun f => f), rfl⟩, HCr.out.trans HC3.out (fun _ _ f => f), RdRow.ofOwn HR2.out (by decide) (fun g hg => by have := (HR2.out.lt g hg).1; omega)⟩
      have HREL := Lib.hid hrel0
      clear hrel0 HR2 HC3 HEr HCr
      go_wp2
      go_loopw [75] (fun i wr => ∃ k : Nat, i = .int .i64 k ∧ k ≤ N ∧ Hid (ManyRel w M N (.slice A N cp) wr)) (fun i _ => N - (intOf i).toNat)
      case atStart => exact ⟨0, rfl, Nat.zero_le _, HREL⟩
      case round =>
        clear HREL
        obtain ⟨k, rfl, hk, HR⟩ := hrel
        by_cases hlt : k < N
        · obtain ⟨bb, off, rfl⟩ : ∃ bb off, A = some ⟨bb, off, none⟩ := by
            rcases hA with h0 | h
            · omega
            · exact h
          obtain ⟨m, hE, hmn⟩ := HR.out.env
          obtain ⟨x, hcx, hxm, hxr, hx4, hxy⟩ := HR.out.at_ hnl hlt HLT.out HMEM.out
          have hag := set_again (m := m) (s := x.data.toList) (x := (v ++ (⟨#[49]⟩ : ByteArray)).data.toList) (by rw [hmn]; exact hxm) hxr (by
            have e : (v ++ (⟨#[49]⟩ : ByteArray)).data.toList.length = (v ++ (⟨#[49]⟩ : ByteArray)).size := Array.length_toList
            have e1 : (⟨#[49]⟩ : ByteArray).size = 1 := rfl
            have := HX.out
            rw [e, ByteArray.size_append, e1]; omega)
          have hml : m.length ≤ 256 := by
            have e := congrArg List.length hmn
            have e2 := HLM.out
            rw [List.length_map, List.length_map] at e
            omega
          have hsv : (v ++ (⟨#[49]⟩ : ByteArray)).size ≤ maxLen := by
            have e1 : (⟨#[49]⟩ : ByteArray).size = 1 := rfl
            have := HX.out
            rw [ByteArray.size_append, e1]; unfold maxLen; omega
          have HAG := Lib.hid hag
          have HEm := Lib.hid hE
          have HMN := Lib.hid hmn
          have HSV := Lib.hid hsv
          clear hag hE hmn hxm hxr hsv
          have hx100 := HX.out
          by_cases hk0 : k = 0
          · subst hk0
            rw [Nat.add_zero] at hcx
            go_wp2_with (first | (go_at_call 23; refine (set_calls _ _ m x _ _ HEm.out (by rw [hx4]; decide) HSV.out hml).mono ?_; rintro e w2 ⟨rfl, hE2, hc2⟩; rw [HAG.out.1]; have HE2 := Lib.hid hE2; have HC2 := Lib.hid hc2; clear hE2 hc2) | (go_at_call 21; refine (get_calls _ _ _ x _ HE2.out (by rw [hx4]; decide)).mono ?_; rw [HAG.out.2.2, Option.getD_some, str_data]; rintro e w3 ⟨rfl, rfl⟩))
            go_roundw
            case rel => exact ⟨1, rfl, hlt, HR.out.step HE2.out (HAG.out.2.1.trans HMN.out) HC2.out⟩
            case measure => simp only [intOf]; omega
          · obtain ⟨q, rfl⟩ : ∃ q, k = q + 1 := ⟨k - 1, by omega⟩
            obtain ⟨y, hcy, hyx⟩ := hxy q rfl
            have hbl : Op.bytesLess y.toList x.toList = true := by rw [ByteArray.toList_eq, ByteArray.toList_eq]; exact less_of_lt _ _ hyx
            go_wp2_with (first | (go_at_call 23; refine (set_calls _ _ m x _ _ HEm.out (by rw [hx4]; decide) HSV.out hml).mono ?_; rintro e w2 ⟨rfl, hE2, hc2⟩; rw [HAG.out.1]; have HE2 := Lib.hid hE2; have HC2 := Lib.hid hc2; clear hE2 hc2) | (go_at_call 21; refine (get_calls _ _ _ x _ HE2.out (by rw [hx4]; decide)).mono ?_; rw [HAG.out.2.2, Option.getD_some, str_data]; rintro e w3 ⟨rfl, rfl⟩))
            go_roundw
            case rel => exact ⟨q + 1 + 1, by simp only [Value.int.injEq, true_and]; omega, hlt, HR.out.step HE2.out (HAG.out.2.1.trans HMN.out) HC2.out⟩
            case measure => simp only [intOf]; omega
        · obtain rfl : k = N := by omega
          go_wp2
          go_ret
          exact ⟨rfl, HR.out.chg⟩
#print axioms many_all
end Go.Proofs.YtbilkpioddjlfaaDoor
