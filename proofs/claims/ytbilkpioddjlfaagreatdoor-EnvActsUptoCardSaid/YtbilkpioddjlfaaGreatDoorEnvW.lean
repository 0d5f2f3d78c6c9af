/- env.Word of an object: the text that a word's parts tell, or the error. Conditions: the texts are no longer than texts may be, and together take at most 2^47 bytes. -/
import Derived.Test.YtbilkpioddjlfaaGreatDoorEnvS
import Derived.Test.YtbilkpioddjlfaaGreatDoorBld
import Derived.Test.YtbilkpioddjlfaaGreatDoorShelf
import Derived.Deep.QuietTactic
import Derived.BigQuiet
namespace Go.Proofs.YtbilkpioddjlfaaGreatDoor
open Go.RowKit Go.Maps

/-- A part: is it a variable, its text. -/
abbrev PartV := Bool × ByteArray
def partC (p : PartV) : List Value := [.bool p.1, .string p.2]
def partsC (ps : List PartV) : List Value := ps.flatMap partC
/-- What a part tells: none, if there is no such variable. -/
def partT (m : Vars) (p : PartV) : Option (List UInt8) := if p.1 then getV m p.2.data.toList else some p.2.data.toList
/-- What parts tell, behind a text. -/
def textV (m : Vars) : List PartV → List UInt8 → Option (List UInt8)
  | [], acc => some acc
  | p :: ps, acc => match partT m p with
    | none => none
    | some t => textV m ps (acc ++ t)
/-- What they take together, at most. -/
def sumV (m : Vars) : List PartV → Nat
  | [] => 0
  | p :: ps => ((partT m p).getD []).length + sumV m ps
def wordV (m : Vars) (ps : List PartV) : List UInt8 × Int := match textV m ps [] with
  | none => ([], 8)
  | some t => if 16777216 < t.length then ([], 6) else (t, 0)

theorem partsC_length (ps : List PartV) : (partsC ps).length = ps.length * 2 := by
  induction ps with
  | nil => rfl
  | cons p ps ih =>
    have e : partsC (p :: ps) = partC p ++ partsC ps := rfl
    rw [e, List.length_append, ih, List.length_cons]
    simp [partC]; omega
theorem partsC_get (ps : List PartV) (k : Nat) (h : k < ps.length) : (partsC ps)[k * 2]? = some (.bool ps[k].1) ∧ (partsC ps)[k * 2 + 1]? = some (.string ps[k].2) := by
  induction ps generalizing k with
  | nil => simp at h
  | cons p ps ih =>
    have e : partsC (p :: ps) = .bool p.1 :: .string p.2 :: partsC ps := rfl
    rw [e]
    cases k with
    | zero => exact ⟨rfl, rfl⟩
    | succ k =>
      have := ih k (by simpa using h)
      have e1 : (k + 1) * 2 = k * 2 + 2 := by omega
      rw [e1]
      exact this
theorem sumV_drop (m : Vars) (ps : List PartV) (k : Nat) (h : k < ps.length) : sumV m (ps.drop k) = ((partT m ps[k]).getD []).length + sumV m (ps.drop (k + 1)) := by
  rw [List.drop_eq_getElem_cons h]; rfl
theorem textV_drop (m : Vars) (ps : List PartV) (k : Nat) (h : k < ps.length) (acc : List UInt8) : textV m (ps.drop k) acc = match partT m ps[k] with
    | none => none
    | some t => textV m (ps.drop (k + 1)) (acc ++ t) := by
  rw [List.drop_eq_getElem_cons h]; rfl

/-- What the loop keeps. -/
def WordRel (w : World) (m : Vars) (ps : List PartV) (B : Nat) (i : Value) (wr : World) : Prop :=
  ∃ (k : Nat) (acc : List UInt8), i = .int .i64 k ∧ k ≤ ps.length ∧ textV m (ps.drop k) acc = textV m ps [] ∧ acc.length + sumV m (ps.drop k) ≤ 140737488355328 ∧ BldAt wr (fun k => B ≤ k) B acc ∧ Chg w wr NoB ∧ B < wr.heap.size

theorem WordRel.step {w wr w1 w2 : World} {m : Vars} {ps : List PartV} {k : Nat} {acc x : List UInt8} {u : Value} (hlt : k < ps.length)
    (ht : textV m (ps.drop k) acc = textV m ps []) (hd : textV m (ps.drop k) acc = textV m (ps.drop (k + 1)) (acc ++ x)) (hsm : acc.length + sumV m (ps.drop k) ≤ 140737488355328) (hsd : sumV m (ps.drop k) = x.length + sumV m (ps.drop (k + 1)))
    (hchg : Chg w wr NoB) (hc1 : Chg wr w1 NoB) (hsz : w.heap.size + 1 < wr.heap.size) (hb : BldAt w2 (fun j => w.heap.size + 1 ≤ j ∨ w1.heap.size ≤ j) (w.heap.size + 1) (acc ++ x)) (hc2 : Chg w1 w2 (fun j => w.heap.size + 1 ≤ j)) (hu : wr.cell? ⟨w.heap.size, 2, none⟩ = some u) :
    WordRel w m ps (w.heap.size + 1) (.int .i64 (k + 1 : Nat)) w2 ∧ w2.cell? ⟨w.heap.size, 2, none⟩ = some u := by
  have h1 := hc1.size
  have h2 := hc2.size
  refine ⟨⟨k + 1, acc ++ x, rfl, hlt, hd.symm.trans ht, by rw [List.length_append]; omega, hb.mono (fun j hj => by have := hchg.size; omega), (hchg.trans hc1 (fun _ _ f => f)).trans hc2 (fun j hj hk => by omega), by omega⟩, ?_⟩
  rw [← hu, ← hc1.cell (p := ⟨w.heap.size, 2, none⟩) (by simp; omega) (fun f => f)]
  exact hc2.cell (p := ⟨w.heap.size, 2, none⟩) (by simp; omega) (fun h => by simp at h; omega)

def WordPost (m : Vars) (ps : List PartV) (w : World) (e : Ending) (w' : World) : Prop := e = .returned (.tuple #[.string (str (wordV m ps).1), .int .i64 (wordV m ps).2]) ∧ Chg w w' NoB

set_option maxRecDepth 100000 in
set_option maxHeartbeats 1000000 in
theorem word_calls (p b : Nat) (m : Vars) (F : Nat → Prop) (ats kd : Int) (v : Value) (ps : List PartV) (w : World) (h : EnvAt w p b m) (hr : RdRow w F 2 ps.length v (partsC ps)) (hl : ps.length ≤ 1000000000000) (hs : ∀ x ∈ ps, x.2.size ≤ maxLen) (hsum : sumV m ps ≤ 140737488355328) :
    Calls Tryz.prog 11 #[.pointer (some ⟨p, 0, none⟩), .agg #[.int .i64 ats, .int .i64 kd, v]] w (WordPost m ps w) := by
  have HE := Lib.hid h
  have HR := Lib.hid hr
  have HS := Lib.hid hsum
  have HSZ := Lib.hid hs
  have hpl := h.lt
  have hwh := hr.where_
  clear h hsum hs hr
  obtain ⟨A, c, rfl, hA⟩ : ∃ A c, v = .slice A ps.length c ∧ (ps.length = 0 ∨ ∃ bb off, A = some ⟨bb, off, none⟩) := by
    rcases hwh with ⟨h0, A, c, rfl⟩ | ⟨_, bb, off, c, rfl⟩
    · exact ⟨A, c, rfl, .inl h0⟩
    · exact ⟨_, c, rfl, .inr ⟨bb, off, rfl⟩⟩
  clear hwh
  rcases hA with h0 | ⟨bb, off, rfl⟩
  · obtain rfl : ps = [] := List.eq_nil_of_length_eq_zero h0
    clear HE HR HS HSZ h0 hl
    rw [List.length_nil]
    go_enter Tryz.func11, Tryz.ntmps11
    go_wp2
    go_loopw [17] (fun i wr => i = .int .i64 0 ∧ BldAt wr (fun k => w.heap.size + 1 ≤ k) (w.heap.size + 1) [] ∧ Chg w wr NoB ∧ w.heap.size + 1 < wr.heap.size) (fun _ _ => 0)
    case atStart =>
      refine ⟨rfl, ?_, ((Chg.refl _ _).alloc _).alloc _, by simp⟩
      have e : (w.alloc (.cells #[.int .i64 ats, .int .i64 kd, .slice A 0 c] 33)).heap.size = w.heap.size + 1 := by simp
      rw [← e]
      exact BldAt.made _ _ (Nat.le_refl _)
    case round =>
      obtain ⟨rfl, hb, hc, hz⟩ := hrel
      have HB := Lib.hid hb
      have HC := Lib.hid hc
      clear hb hc
      go_wp2_with (go_at_call 20; refine (len_calls _ _ _ _ HB.out).mono ?_; rintro e w1 ⟨rfl, rfl⟩)
      refine (Tryz.Builder_String_any (w.heap.size + 1) (w.heap.size + 1) [] wr (HB.out.toLib (fun _ h => h)) (by omega)).mono ?_
      rintro e w2 ⟨rfl, hb2⟩
      have HC2 : Hid (Chg w w2 NoB) := HC.out.trans (T := fun k => w.heap.size + 1 ≤ k) ⟨hb2.os, hb2.tape, hb2.output, hb2.size, fun k _ hn => hb2.block k (by omega)⟩ (fun k h1 h2 => by omega)
      go_wp2
      go_ret2
      exact ⟨rfl, HC2.out⟩
  go_enter Tryz.func11, Tryz.ntmps11
  go_wp2
  go_loopw [17] (fun i wr => WordRel w m ps (w.heap.size + 1) i wr ∧ wr.cell? ⟨w.heap.size, 2, none⟩ = some (.slice (some ⟨bb, off, none⟩) ps.length c)) (fun i _ => ps.length - (intOf i).toNat)
  case atStart =>
    refine ⟨⟨0, [], rfl, Nat.zero_le _, rfl, by simpa using HS.out, ?_, ?_, by simp⟩, ?_⟩
    · have e : (w.alloc (.cells #[.int .i64 ats, .int .i64 kd, .slice (some ⟨bb, off, none⟩) ps.length c] 33)).heap.size = w.heap.size + 1 := by simp
      rw [← e]
      exact BldAt.made _ _ (Nat.le_refl _)
    · exact ((Chg.refl _ _).alloc _).alloc _
    · simp
  case round =>
    obtain ⟨⟨k, acc, rfl, hk, htx, hsm, hbld, hchg, hsz⟩, hcw⟩ := hrel
    have HT := Lib.hid htx
    have HSM := Lib.hid hsm
    have HB := Lib.hid hbld
    have hcs := hchg.size
    clear htx hsm hbld
    by_cases hlt : k < ps.length
    · have hE : EnvAt wr p b m := HE.out.chg hchg (fun f => f) (fun f => f)
      have hRw := HR.out.chg hchg (fun _ _ _ f => f)
      obtain ⟨_, hbb, hcells⟩ := hRw.at_ (by omega)
      have hg := partsC_get ps k hlt
      have hc0 : wr.cell? ⟨bb, off + k * 2, none⟩ = some (.bool ps[k].1) := (hcells _ (by omega)).trans hg.1
      have hc1 : wr.cell? ⟨bb, off + k * 2 + 1, none⟩ = some (.string ps[k].2) := (hcells (k * 2 + 1) (by omega)).trans hg.2
      have hsz1 := HSZ.out ps[k] (List.getElem_mem hlt)
      have hd := textV_drop m ps k hlt acc
      have hsd := sumV_drop m ps k hlt
      have hpt : partT m ps[k] = if ps[k].1 then getV m ps[k].2.data.toList else some ps[k].2.data.toList := rfl
      generalize ps[k].1 = q at *
      generalize ps[k].2 = s at *
      generalize partT m ps[k] = pt at *
      have hAO : ∀ O, EnvAt (wr.alloc O) p b m := fun O => hE.alloc O
      have hce : ∀ O, (wr.alloc O).cell? ⟨p, 0, none⟩ = some (.map (some b)) := fun O => (hAO O).cell
      have hlk := fun O n => ((hAO O).drewN n).look s hsz1
      have hvl := hE.value_le s hsz1
      have hpz : p < wr.heap.size := by omega
      clear hg hcells hRw hE hAO hbb
      have HD := Lib.hid hd
      have HSD := Lib.hid hsd
      clear hd hsd
      cases q
      · obtain rfl : pt = some s.data.toList := hpt
        have hl : acc.length + s.size ≤ 140737488355328 := by
          have h1 := HSM.out
          have h2 : sumV m (ps.drop k) = s.data.toList.length + sumV m (ps.drop (k + 1)) := HSD.out
          have h3 : s.data.toList.length = s.size := by simp
          omega
        go_wp2_with (go_at_call 19; refine (writeString_calls (fun k => w.heap.size + 1 ≤ k) (w.heap.size + 1) acc s _ (HB.out.chg ((Chg.refl wr NoB).alloc _) (fun _ _ _ f => f)) hl).mono ?_; rintro e w2 ⟨rfl, hb2, hc2⟩; have R := Lib.hid (WordRel.step hlt HT.out HD.out HSM.out HSD.out hchg ((Chg.refl wr NoB).alloc _) hsz hb2 hc2 hcw); clear hb2 hc2 hcw)
        go_roundw
        case rel => exact R.out
        case measure => simp [intOf]; omega
      · cases hgv : getV m s.data.toList with
        | none =>
          rw [hgv] at hlk
          obtain rfl : pt = none := by rw [hpt, hgv]; rfl
          have hw0 : wordV m ps = ([], 8) := by
            unfold wordV
            rw [← HT.out, HD.out]
          have hw := Lib.hid hw0
          clear hw0
          have HC := Lib.hid hchg
          clear hchg hcw hpt hgv hvl
          go_wp2
          go_quiet (fail)
          go_wp2
          go_ret2
          exact ⟨by rw [hw.out]; rfl, (HC.out.alloc _).drewN _⟩
        | some x =>
          rw [hgv] at hlk hvl
          obtain rfl : pt = some x := by rw [hpt, hgv]; rfl
          have hx : x.length + acc.length ≤ 140737488355328 := by
            have h1 := HSM.out
            have h2 : sumV m (ps.drop k) = x.length + sumV m (ps.drop (k + 1)) := HSD.out
            omega
          clear hpt hgv hvl
          simp only [Option.getD_some, Option.isSome_some] at hlk
          have hst : (str x).data.toList = x := data_str x
          have HST := Lib.hid hst
          clear hst
          generalize str x = sx at *
          go_wp2
          go_quiet (fail)
          have hl : acc.length + sx.size ≤ 140737488355328 := by
            have h3 : sx.data.toList.length = sx.size := by simp
            rw [HST.out] at h3
            omega
          go_wp2_with (go_at_call 19; refine (writeString_calls (fun k => w.heap.size + 1 ≤ k) (w.heap.size + 1) acc sx _ (HB.out.chg (((Chg.refl wr NoB).alloc _).drewN _) (fun _ _ _ f => f)) hl).mono ?_; rw [HST.out]; rintro e w2 ⟨rfl, hb2, hc2⟩; have R := Lib.hid (WordRel.step hlt HT.out HD.out HSM.out HSD.out hchg (((Chg.refl wr NoB).alloc _).drewN _) hsz hb2 hc2 hcw); clear hb2 hc2 hcw)
          go_roundw
          case rel => exact R.out
          case measure => simp [intOf]; omega
    · have hke : ps.drop k = [] := List.drop_eq_nil_of_le (by omega)
      have hw : Hid (wordV m ps = if 16777216 < acc.length then ([], 6) else (acc, 0)) := by
        have := HT.out
        rw [hke] at this
        unfold wordV
        rw [← this]
        rfl
      have HC := Lib.hid hchg
      clear hke hchg hcw
      go_wp2_with (go_at_call 20; refine (len_calls _ _ _ _ HB.out).mono ?_; rintro e w1 ⟨rfl, rfl⟩)
      · have hgt : 16777216 < acc.length := by omega
        go_ret2
        exact ⟨by rw [hw.out, if_pos hgt]; rfl, HC.out⟩
      · have hgt : ¬ 16777216 < acc.length := by omega
        refine (Tryz.Builder_String_any (w.heap.size + 1) (w.heap.size + 1) acc wr (HB.out.toLib (fun _ h => h)) (by omega)).mono ?_
        rintro e w2 ⟨rfl, hb2⟩
        have HC2 : Hid (Chg w w2 NoB) := HC.out.trans (T := fun k => w.heap.size + 1 ≤ k) ⟨hb2.os, hb2.tape, hb2.output, hb2.size, fun k _ hn => hb2.block k (by omega)⟩ (fun k h1 h2 => by omega)
        go_wp2
        go_ret2
        exact ⟨by rw [hw.out, if_neg hgt]; rfl, HC2.out⟩
#print axioms word_calls
end Go.Proofs.YtbilkpioddjlfaaGreatDoor
