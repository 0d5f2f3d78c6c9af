/- cuecardlaw16.EnvActs returns true, whatever the acts. Condition: a part's text has no more than 2^24 letters. -/
import Derived.Test.YtbilkpioddjlfaaGreatDoorRefS
import Derived.Test.YtbilkpioddjlfaaGreatDoorRefN
import Derived.Test.YtbilkpioddjlfaaGreatDoorRefW
import Derived.Test.YtbilkpioddjlfaaGreatDoorActs
import Derived.Test.YtbilkpioddjlfaaGreatDoorEnvL
import Derived.Test.YtbilkpioddjlfaaGreatDoorWordsA
import Derived.Deep.RegionHeld3
namespace Go.Proofs.YtbilkpioddjlfaaGreatDoor
open Go.RowKit Go.Maps Go.Sort

/-- The parts of an act's word can be read. -/
def PartsOk (w : World) (a : ActV) : Prop := ∃ ps : List PartV, a.pn = ps.length ∧ RdRow w (fun _ => True) 2 ps.length (.slice a.pa a.pn a.pc) (partsC ps) ∧ ∀ p ∈ ps, p.2.size ≤ 16777216

set_option maxRecDepth 100000 in
set_option maxHeartbeats 1000000 in
theorem acts_great (v : Value) (l : List ActV) (w : World) (hr : RdRow w (fun _ => True) 6 l.length v (actsC l)) (hl : l.length ≤ 9223372036854775807) (hg : greatV l = true) :
    Calls Tryz.prog 3 #[v] w fun e w' => e = .returned (.bool true) ∧ Chg w w' NoB := by
  have HR := Lib.hid hr
  clear hr
  have HA := Lib.hid (EnvAt.made w)
  have hcA : Hid (Chg w ((w.alloc (.map #[] 0)).alloc (.cells #[.map (some w.heap.size)] 50)) NoB) := ((Chg.refl _ _).alloc _).alloc _
  go_enter Tryz.func3, Tryz.ntmps3
  go_wp2_with (first | (go_at_call 4; refine (new_calls _).mono ?_; rintro e w1 ⟨rfl, rfl⟩))
  refine (envAlive_calls _).mono ?_
  rintro e w1 ⟨rfl, hc1⟩
  have HC : Hid (Chg w w1 NoB) := hcA.out.trans hc1 (fun _ _ f => f)
  have HR1 := Lib.hid (HR.out.chg HC.out (fun _ _ _ f => f))
  clear hc1 HA hcA
  have HG := Lib.hid hg
  clear hg
  go_wp2_with (go_at_call 6; refine (great_calls _ _ l _ HR1.out hl).mono ?_; rw [HG.out]; rintro e w2 ⟨rfl, hc2⟩; have HC2 : Hid (Chg w w2 NoB) := HC.out.trans hc2 (fun _ _ f => f); clear hc2)
  refine (calls_since (w0 := w) (envAlive_calls _) HC2.out).mono ?_
  rintro e w3 ⟨rfl, hc3⟩
  go_wp2
  go_ret
  exact ⟨rfl, hc3⟩

/-- What the acts' loop keeps of both objects. -/
structure ActS (w wr : World) (P : Nat) (v2 : Value) (m : Vars) : Prop where
  env : EnvAt wr (w.heap.size + 1) w.heap.size m
  ref : RefAt wr P P v2 m
  chg : Chg w wr NoB
  len : m.length ≤ 256
  short : Short m
  lo : w.heap.size + 2 ≤ P
theorem ActS.on {w wr w2 : World} {P : Nat} {v2 : Value} {m : Vars} (h : ActS w wr P v2 m) (hc : Chg wr w2 NoB) : ActS w w2 P v2 m :=
  ⟨h.env.chg hc (fun f => f) (fun f => f), h.ref.chg hc (fun _ _ _ f => f), h.chg.trans hc (fun _ _ f => f), h.len, h.short, h.lo⟩
theorem ActS.set {w w2 w3 w4 : World} {P : Nat} {v2 v4 : Value} {m : Vars} {n v : List UInt8} (h : ActS w w2 P v2 m) (hE : EnvAt w3 (w.heap.size + 1) w.heap.size (setM m n v)) (hc : Chg w2 w3 (fun k => k = w.heap.size))
    (hR : RefAt w4 P P v4 (setM m n v)) (hc2 : Chg w3 w4 (fun k => k = P ∨ some k = v2.ownBlock)) : ActS w w4 P v4 (setM m n v) := by
  have hlo := h.lo
  have hown : ∀ k, v2.ownBlock = some k → P ≤ k := fun k e => (h.ref.own.lt k e).1
  have hS : ∀ k, k < P → ¬ (k = P ∨ some k = v2.ownBlock) := fun k hk e => by
    rcases e with e | e
    · omega
    · have := hown k e.symm; omega
  refine ⟨hE.chg hc2 (hS _ (by omega)) (hS _ (by omega)), hR, ((h.chg.trans hc (fun k hk e => by omega)).trans hc2 (fun k hk e => hS k (by omega) e)), length_set h.len _ _, h.short.set _ _, h.lo⟩

theorem ActS.ref3 {w w2 w3 : World} {P : Nat} {v2 : Value} {m : Vars} (h : ActS w w2 P v2 m) (hc : Chg w2 w3 (fun k => k = w.heap.size)) : RefAt w3 P P v2 m :=
  h.ref.chg hc (fun j h1 _ (e : j = w.heap.size) => by have := h.lo; omega)
theorem ActS.le3 {w w2 w3 : World} {P : Nat} {v2 : Value} {m : Vars} (h : ActS w w2 P v2 m) (hc : Chg w2 w3 (fun k => k = w.heap.size)) : P ≤ w3.heap.size := Nat.le_trans (Nat.le_of_lt h.ref.lt) hc.size

set_option maxRecDepth 100000 in
set_option maxHeartbeats 2000000 in
theorem acts_go (v : Value) (l : List ActV) (w : World) (hr : RdRow w (fun _ => True) 6 l.length v (actsC l)) (hpp : ∀ a ∈ l, PartsOk w a) (hl : l.length ≤ 9223372036854775807) (hg : greatV l = false) :
    Calls Tryz.prog 3 #[v] w fun e w' => e = .returned (.bool true) ∧ Chg w w' NoB := by
  have HR := Lib.hid hr
  have HPP := Lib.hid hpp
  obtain ⟨A, c, rfl, hA⟩ : ∃ A c, v = .slice A l.length c ∧ (l.length = 0 ∨ ∃ bb off, A = some ⟨bb, off, none⟩) := by
    rcases hr.where_ with ⟨h0, A, c, rfl⟩ | ⟨_, bb, off, c, rfl⟩
    · exact ⟨A, c, rfl, .inl h0⟩
    · exact ⟨_, c, rfl, .inr ⟨bb, off, rfl⟩⟩
  clear hr hpp
  have HA := Lib.hid (EnvAt.made w)
  have hcA : Hid (Chg w ((w.alloc (.map #[] 0)).alloc (.cells #[.map (some w.heap.size)] 50)) NoB) := ((Chg.refl _ _).alloc _).alloc _
  go_enter Tryz.func3, Tryz.ntmps3
  go_wp2_with (first | (go_at_call 4; refine (new_calls _).mono ?_; rintro e w1 ⟨rfl, rfl⟩))
  refine (envAlive_calls _).mono ?_
  rintro e w1 ⟨rfl, hc1⟩
  have HE1 : Hid (EnvAt w1 (w.heap.size + 1) w.heap.size []) := HA.out.chg hc1 (fun f => f) (fun f => f)
  have HC : Hid (Chg w w1 NoB) := hcA.out.trans hc1 (fun _ _ f => f)
  have HR1 := Lib.hid (HR.out.chg HC.out (fun _ _ _ f => f))
  clear hc1 HA hcA
  have HG := Lib.hid hg
  clear hg
  go_wp2_with (go_at_call 6; refine (great_calls _ _ l _ HR1.out hl).mono ?_; rw [HG.out]; rintro e w2 ⟨rfl, hc2⟩; have HC2 : Hid (Chg w w2 NoB) := HC.out.trans hc2 (fun _ _ f => f); have HE2 : Hid (EnvAt w2 (w.heap.size + 1) w.heap.size []) := HE1.out.chg hc2 (fun f => f) (fun f => f); clear hc2)
  have HK : Hid (ActS w (w2.alloc (.cells #[.slice none 0 0] 30)) w2.heap.size (.slice none 0 0) []) :=
    ⟨HE2.out.alloc _, RefAt.made w2 _ (Nat.le_refl _), HC2.out.alloc _, by simp, fun n x h => by simp [getV] at h, by have h1 := HE2.out.lt; omega⟩
  have hP : ∃ P, P = w2.heap.size := ⟨_, rfl⟩
  obtain ⟨P, hP⟩ := hP
  rw [← hP] at HK
  have HPQ := Lib.hid hP
  clear HR1 HC HE1 HC2 HE2 hP
  go_loopw [38] (fun i wr => ∃ (k : Nat) (m : Vars) (v2 : Value), i = .int .i64 k ∧ k ≤ l.length ∧ Hid (ActS w wr P v2 m)) (fun i _ => l.length - (intOf i).toNat)
  case atStart => exact ⟨0, [], _, rfl, Nat.zero_le _, HK⟩
  case round =>
    obtain ⟨k, m, v2, rfl, hk, HE⟩ := hrel
    rw [← HPQ.out]
    clear HK
    by_cases hlt : k < l.length
    · obtain ⟨bb, off, rfl⟩ : ∃ bb off, A = some ⟨bb, off, none⟩ := by
        rcases hA with h0 | h
        · omega
        · exact h
      obtain ⟨_, hbb, hcells⟩ := (HR.out.chg HE.out.chg (fun _ _ _ f => f)).at_ (by omega)
      have hgt := actsC_get l k hlt
      have hc0 := (hcells (k * 6) (by omega)).trans hgt.1
      have hc1 := (hcells (k * 6 + 1) (by omega)).trans hgt.2.1
      have hc2 := (hcells (k * 6 + 2) (by omega)).trans hgt.2.2.1
      have hc3 := (hcells (k * 6 + 3) (by omega)).trans hgt.2.2.2.1
      have hc4 := (hcells (k * 6 + 4) (by omega)).trans hgt.2.2.2.2.1
      have hc5 := (hcells (k * 6 + 5) (by omega)).trans hgt.2.2.2.2.2
      simp only [← Nat.add_assoc] at hc1 hc2 hc3 hc4 hc5
      have hsz := Lib.hid (ActV.sizes HG.out hlt)
      obtain ⟨ps, hpn, hrp, hsp⟩ := HPP.out _ (List.getElem_mem hlt)
      clear hgt hcells
      generalize l[k].kind = ak at *
      generalize l[k].name = an at *
      generalize l[k].value = av at *
      generalize l[k].ats = aa at *
      generalize l[k].kd = ad at *
      generalize l[k].pa = pa at *
      generalize l[k].pn = pn at *
      generalize l[k].pc = pc at *
      subst hpn
      have HRP := Lib.hid hrp
      have HSP := Lib.hid hsp
      clear hrp hsp
      have hwP : P < wr.heap.size := HE.out.ref.lt
      have hlo := HE.out.lo
      have hown : ∀ j, v2.ownBlock = some j → j < wr.heap.size := fun j e => (HE.out.ref.own.lt j e).2
      have HOWN := Lib.hid hown
      clear hown
      by_cases h0 : ak = 0
      · subst h0
        have HM : Hid (ActS w (wr.alloc (.cells #[.int .i64 0, .string an, .string av, .int .i64 aa, .int .i64 ad, .slice pa ps.length pc] 35)).drew P v2 m) := HE.out.on ((Chg.refl wr NoB).alloc _).drew
        have hM2 : wr.heap.size < (wr.alloc (.cells #[.int .i64 0, .string an, .string av, .int .i64 aa, .int .i64 ad, .slice pa ps.length pc] 35)).drew.heap.size := by simp [World.drew]
        have HM2 := Lib.hid hM2
        have HNE : Hid (¬ (wr.heap.size = P ∨ some wr.heap.size = v2.ownBlock)) := fun e => by
          rcases e with e | e
          · omega
          · have := HOWN.out _ e.symm; omega
        have HNE0 : Hid (¬ wr.heap.size = w.heap.size) := fun e => by omega
        clear hM2
        go_wp2_with fail
        go_region_held3 (fun w' => w'.cell? ⟨wr.heap.size, 1, none⟩ = some (.string an) ∧ w'.cell? ⟨wr.heap.size, 2, none⟩ = some (.string av))
          (first
            | go_keep
            | (go_split_ands
               first
                 | exact ⟨(HC4.out.cell (p := ⟨wr.heap.size, 1, none⟩) (Nat.lt_of_lt_of_le HM2.out HC3.out.size) HNE.out).trans (by assumption), (HC4.out.cell (p := ⟨wr.heap.size, 2, none⟩) (Nat.lt_of_lt_of_le HM2.out HC3.out.size) HNE.out).trans (by assumption)⟩
                 | exact ⟨(HC3.out.cell (p := ⟨wr.heap.size, 1, none⟩) HM2.out HNE0.out).trans (by assumption), (HC3.out.cell (p := ⟨wr.heap.size, 2, none⟩) HM2.out HNE0.out).trans (by assumption)⟩))
          ((first
            | (go_at_call 7; refine (set_calls _ _ m an av _ HM.out.env (Nat.le_trans hsz.out.2.1 (by decide)) (Nat.le_trans hsz.out.1 (by decide)) HE.out.len).mono ?_; rintro e w3 ⟨rfl, hE3, hc3⟩; have HE3 := Lib.hid hE3; have HC3 := Lib.hid hc3; clear hE3 hc3)
            | (go_at_call 8
               refine (refSet_calls P P v2 m an av _ (HM.out.ref3 HC3.out) (HM.out.le3 HC3.out) (Nat.le_trans hsz.out.2.1 (by decide)) (Nat.le_trans hsz.out.1 (by decide)) HE.out.len).mono ?_
               rintro e w4 ⟨rfl, ⟨v4, hR4⟩, hc4⟩
               have HE4 := Lib.hid (HM.out.set HE3.out HC3.out hR4 hc4)
               have HC4 := Lib.hid hc4
               clear hR4 hc4)))
        go_wp2
        go_roundw
        case rel => exact ⟨k + 1, _, v4, by go_num, hlt, HE4⟩
        case measure => simp only [intOf]; omega
      · by_cases h1 : ak = 1
        · subst h1
          have HM : Hid (ActS w (wr.alloc (.cells #[.int .i64 1, .string an, .string av, .int .i64 aa, .int .i64 ad, .slice pa ps.length pc] 35)) P v2 m) := HE.out.on ((Chg.refl wr NoB).alloc _)
          have hml : m.length ≤ 1000000 := by have := HE.out.len; omega
          have hsn : an.size ≤ maxLen := Nat.le_trans hsz.out.2.1 (by decide)
          have hg1 := get_calls _ _ m an _ HM.out.env hsn
          have hg2 := refGet_calls P _ v2 m an _ HM.out.ref.cell HM.out.ref.row hml
          unfold RefGetPost at hg2
          generalize (getV m an.data.toList).isSome = ok at hg1 hg2
          generalize str ((getV m an.data.toList).getD []) = sx at hg1 hg2
          have HG1 := Lib.hid hg1
          have HG2 := Lib.hid hg2
          clear hg1 hg2
          go_wp2_with (first
            | (go_at_call 9; refine HG1.out.mono ?_; rintro e w3 ⟨rfl, rfl⟩)
            | (go_at_call 10; refine HG2.out.mono ?_; rintro e w3 ⟨rfl, rfl⟩))
          go_roundw
          case rel => exact ⟨k + 1, m, v2, by go_num, hlt, HM⟩
          case measure => simp only [intOf]; omega
        · by_cases h2 : ak = 2
          · subst h2
            have HM : Hid (ActS w (wr.alloc (.cells #[.int .i64 2, .string an, .string av, .int .i64 aa, .int .i64 ad, .slice pa ps.length pc] 35)) P v2 m) := HE.out.on ((Chg.refl wr NoB).alloc _)
            have HRP1 := Lib.hid (HRP.out.chg HM.out.chg (fun _ _ _ f => f))
            have hlen : ps.length ≤ 1000000000000 := by have := hsz.out.2.2; omega
            have HSM : Hid (sumV m ps ≤ 140737488355328) := by have := sum_short HE.out.short ps HSP.out; have h2 := hsz.out.2.2; show sumV m ps ≤ _; omega
            have HSZ : Hid (∀ p ∈ ps, p.2.size ≤ maxLen) := fun p hp => Nat.le_trans (HSP.out p hp) (by decide)
            have hwa : ∀ (w3 : World), Chg (wr.alloc (.cells #[.int .i64 2, .string an, .string av, .int .i64 aa, .int .i64 ad, .slice pa ps.length pc] 35)) w3 NoB → w3.cell? ⟨wr.heap.size, 3, none⟩ = some (.int .i64 aa) ∧ w3.cell? ⟨wr.heap.size, 4, none⟩ = some (.int .i64 ad) ∧ w3.cell? ⟨wr.heap.size, 5, none⟩ = some (.slice pa ps.length pc) := fun w3 h => by
              have hs : wr.heap.size < (wr.alloc (.cells #[.int .i64 2, .string an, .string av, .int .i64 aa, .int .i64 ad, .slice pa ps.length pc] 35)).heap.size := by simp
              refine ⟨(h.cell (p := ⟨wr.heap.size, 3, none⟩) hs (fun f => f)).trans (by simp), (h.cell (p := ⟨wr.heap.size, 4, none⟩) hs (fun f => f)).trans (by simp), (h.cell (p := ⟨wr.heap.size, 5, none⟩) hs (fun f => f)).trans (by simp)⟩
            have HWA := Lib.hid hwa
            clear hwa
            have hw1 := word_calls _ _ m _ aa ad _ ps _ HM.out.env HRP1.out hlen HSZ.out HSM.out
            have hw2 : ∀ w3, ActS w w3 P v2 m → Calls Tryz.prog 12 #[.pointer (some ⟨P, 0, none⟩), .agg #[.int .i64 aa, .int .i64 ad, .slice pa ps.length pc]] w3 (WordPost m ps w3) := fun w3 h =>
              refWord_calls P v2 m _ aa ad _ ps w3 h.ref.cell h.ref.lt (h.ref.row.mono (fun _ _ _ => trivial)) h.len (HRP.out.chg h.chg (fun _ _ _ f => f)) hlen HSM.out
            unfold WordPost at hw1 hw2
            generalize (wordV m ps).2 = we at hw1 hw2
            generalize str (wordV m ps).1 = ws at hw1 hw2
            have HW1 := Lib.hid hw1
            have HW2 := Lib.hid hw2
            clear hw1 hw2
            go_wp2_with (first
              | (go_at_call 11; refine HW1.out.mono ?_; rintro e w3 ⟨rfl, hc3⟩; have HM3 : Hid (ActS w w3 P v2 m) := HM.out.on hc3; obtain ⟨hd3, hd4, hd5⟩ := HWA.out _ hc3; clear hc3)
              | (go_at_call 12; refine (HW2.out _ HM3.out).mono ?_; rintro e w4 ⟨rfl, hc4⟩; have HM4 : Hid (ActS w w4 P v2 m) := HM3.out.on hc4; clear hc4))
            go_roundw
            case rel => exact ⟨k + 1, m, v2, by go_num, hlt, HM4⟩
            case measure => simp only [intOf]; omega
          · have b0 : (ak == 0) = false := by simpa using h0
            have b1 : (ak == 1) = false := by simpa using h1
            have b2 : (ak == 2) = false := by simpa using h2
            go_wp2
            go_roundw
            case rel => exact ⟨k + 1, m, v2, by go_num, hlt, HE.out.on (((Chg.refl wr NoB).alloc _))⟩
            case measure => simp only [intOf]; omega
    · obtain rfl : k = l.length := by omega
      clear hlt hk hA HG HR HPP
      have hn1 := names_calls _ _ _ _ HE.out.env HE.out.len
      rw [namesV_length] at hn1
      have hn2 : ∀ w3, ActS w w3 P v2 m → _ := fun w3 h => refNames_calls P v2 m w3 h.ref.cell h.ref.lt (h.ref.row.mono (fun _ _ _ => trivial)) h.len
      have HN1 := Lib.hid hn1
      have HN2 := Lib.hid hn2
      have hm256 := HE.out.len
      clear hn1 hn2
      go_wp2_with (go_at_call 13; refine HN1.out.mono ?_; rintro e w3 ⟨v', rfl, hr3, hc3⟩; have HE3 : Hid (ActS w w3 P v2 m) := HE.out.on hc3; have HR3 := Lib.hid hr3; obtain ⟨A3, c3, rfl⟩ := own_form hr3; clear hr3 hc3)
      refine (HN2.out _ HE3.out).mono ?_
      rintro e w4 ⟨v', rfl, hr4, hc4⟩
      have HE4 : Hid (ActS w w4 P v2 m) := HE3.out.on hc4
      obtain ⟨A4, c4, rfl⟩ := own_form hr4
      have HR3' : Hid (RdRow w4 (fun _ => True) 1 m.length (.slice A3 m.length c3) ((namesV m).map encStr)) := (RdRow.ofOwn HR3.out (by decide) (fun _ _ => trivial)).chg hc4 (fun _ _ _ f => f)
      have HR4' : Hid (RdRow w4 (fun _ => True) 1 m.length (.slice A4 m.length c4) ((namesV m).map encStr)) := RdRow.ofOwn hr4 (by decide) (fun _ _ => trivial)
      clear hr4 hc4 HR3 HE3 HN1 HN2
      go_wp2
      go_loopw [119] (fun i wq => ∃ k : Nat, i = .int .i64 k ∧ k ≤ m.length ∧ Hid (Chg w4 wq NoB)) (fun i _ => m.length - (intOf i).toNat)
      case atStart => exact ⟨0, rfl, Nat.zero_le _, Chg.refl _ _⟩
      case round =>
        obtain ⟨k, rfl, hk, HC⟩ := hrel
        by_cases hlt : k < m.length
        · rcases HR3'.out.where_ with ⟨h0, _⟩ | ⟨_, b3, o3, c3', e3⟩
          · omega
          rcases HR4'.out.where_ with ⟨h0, _⟩ | ⟨_, b4, o4, c4', e4⟩
          · omega
          injection e3 with e3 _ e3'
          injection e4 with e4 _ e4'
          subst e3
          subst e4
          subst e3'
          subst e4'
          have hkl : k < (namesV m).length := by rw [namesV_length]; exact hlt
          have hx : ((namesV m).map encStr)[k]? = some (.string (str (namesV m)[k])) := by simp [hkl, encStr, str]
          have hx3 := (((HR3'.out.chg HC.out (fun _ _ _ f => f)).at_ (by omega)).2.2 k (by omega)).trans hx
          have hx4 := (((HR4'.out.chg HC.out (fun _ _ _ f => f)).at_ (by omega)).2.2 k (by omega)).trans hx
          generalize str (namesV m)[k] = sx at *
          clear hx hkl
          go_wp2
          go_quiet (fail)
          go_wp2
          go_roundw
          case rel => exact ⟨k + 1, by go_num, hlt, HC.out.drewN _⟩
          case measure => simp only [intOf]; omega
        · go_wp2
          go_ret
          exact ⟨rfl, HE4.out.chg.trans HC.out (fun _ _ f => f)⟩
theorem acts_all (v : Value) (l : List ActV) (w : World) (hr : RdRow w (fun _ => True) 6 l.length v (actsC l)) (hl : l.length ≤ 9223372036854775807) (hpp : ∀ a ∈ l, PartsOk w a) :
    Calls Tryz.prog 3 #[v] w fun e w' => e = .returned (.bool true) ∧ Chg w w' NoB := by
  cases hg : greatV l
  · exact acts_go v l w hr hpp hl hg
  · exact acts_great v l w hr hl hg
#print axioms acts_all
end Go.Proofs.YtbilkpioddjlfaaGreatDoor
