/- EnvWords: for all acts and parts the law returns true; the input reads as it did. Condition: what the arguments read as is of bulk at most 1048576; the listed package-level variables start as the program's text lays them (the card ties them). -/
import Derived.Test.YtbilkpioddjlfaaDoorWordsW
import Derived.Test.YtbilkpioddjlfaaDoorOpenA
import Derived.Test.YtbilkpioddjlfaaDoorCards
import Derived.Test.YtbilkpioddjlfaaDoorTie
import Derived.ProofKit
import Derived.Handy
import Derived.Lay
import Derived.OpenShut
import Derived.ChangeMaps5
import Derived.SevenTiedAt
import Derived.Deep.DeepHandedRow
import Derived.Test.YtbilkpioddjlfaaDoorBulk
namespace Go.Proofs.YtbilkpioddjlfaaDoor.envWords
open Go.ChangeShapes Go.WideShapes Go.ChangeAt Go.RowKit
open Go.ChangeMaps (open_string shut_string)

theorem own : ownKnob Tryd.prog.godebug = none := by kernel_rfl
set_option maxRecDepth 100000 in
theorem lifted (os : Os) (started : os.Started) (H : Type) (enc : TypeId × Value → H) (FF : Stop.Interp) :
    ReturnsInHanded {} Tryd.checked os 8 .any ((Rows.OpenSpec.upto Rows.envWordsSpec).preRow enc Tryd.prog Tryd.f8 Rows.envWordsUptoRow.domain false Rows.envWordsUptoRow.laid)
      (((Rows.OpenSpec.upto Rows.envWordsSpec).at FF).post enc Tryd.prog Tryd.f8 false true false false) := by
  have hok : Input.okWideB Tryd.checked.prog ((World.laidAll Tryd.prog os Rows.envWordsUptoRow.laid).forCall (fun _ _ => 0) ⟨#[], #[.slice none 0 0, .slice none 0 0, .slice none 0 0], []⟩) 8 ⟨#[], #[.slice none 0 0, .slice none 0 0, .slice none 0 0], []⟩ = true := by kernel_rfl
  have hx : DataW.whole enc Tryd.prog ((World.laidAll Tryd.prog os Rows.envWordsUptoRow.laid).forCall (fun _ _ => 0) ⟨#[], #[.slice none 0 0, .slice none 0 0, .slice none 0 0], []⟩).memory Tryd.f8.params.toList Rows.envWordsSpec.vars false (#[.slice none 0 0, .slice none 0 0, .slice none 0 0] : Array Value).toList 8 = some ([.nil, .nil, .nil], [], []) := by kernel_rfl
  refine returnsInHanded_of_row (C := Tryd.checked) (s := Rows.OpenSpec.upto Rows.envWordsSpec) own started (by kernel_rfl) Tryd.func8
    ⟨World.laidAll Tryd.prog os Rows.envWordsUptoRow.laid, fun _ _ => 0, ⟨#[], #[.slice none 0 0, .slice none 0 0, .slice none 0 0], []⟩, World.laidAll_os _ _ _, World.shaped_of_ZipB (by kernel_rfl) (by kernel_rfl), (Input.okWide_of_okWideB (base := 0) hok).1, (Input.okWide_of_okWideB hok).2,
      OpenSpec.preRow_of_cond 8 hx (by kernel_rfl) (fun k hk => by cases hk; kernel_rfl) (by kernel_rfl) (by rw [MakeChecks.laidMetH_plain _ _ _ (by kernel_rfl)]; exact laidMet_laidAll _ (by kernel_rfl) (by kernel_rfl)),
      by simp only [Assume.holds]; exact ⟨by simp, by simp, by simp, by simp, by simp⟩⟩ ?_
  intro W base args ds gs before hval0 hW _ hcond _ _ _ _
  have hk := hcond _ rfl
  have hval : ∀ (j : Nat) t v, Tryd.f8.params[j]? = some t → args[j]? = some v → Value.okWide Tryd.prog W .any base t v := hval0
  have hW' := hW
  obtain ⟨p, q, hA0, hV, rfl, _, _⟩ := hW
  have hA : DataW.TrodAll enc Tryd.prog W 0 (fun _ => true) true Tryd.f8.params.toList args.toList ds p := hA0
  rw [Tryd.params8] at hA hval
  obtain ⟨v0, v1, v2, d0, d1, d2, p0, p1, p2, rfl, rfl, rfl, h0, h1, h2⟩ := trodAll_three hA
  obtain ⟨rfl, rfl⟩ := trodVars_none hV
  have k0 := h0
  obtain ⟨l0, hr0, hl0⟩ := open_acts (hval 0 58 v0 rfl rfl) h0
  have k1 := h1
  obtain ⟨l1, hr1, hl1, hs1⟩ := open_parts (hval 1 48 v1 rfl rfl) h1
  have k2 := h2
  obtain ⟨l2, hr2, hl2, hs2⟩ := open_parts (hval 2 48 v2 rfl rfl) h2
  simp only [List.append_nil] at hW'
  have hsh1 : ∀ p ∈ l1, p.2.size ≤ 16777216 := fun p hp => by
    obtain ⟨dx, els, sp, e, hm, _, hx⟩ := hs1 p hp
    have h1 := bulk_text hk (by simp) e hm hx
    have h2 : p.2.data.toList.length = p.2.size := Array.length_toList
    omega
  have hsh2 : ∀ p ∈ l2, p.2.size ≤ 16777216 := fun p hp => by
    obtain ⟨dx, els, sp, e, hm, _, hx⟩ := hs2 p hp
    have h1 := bulk_text hk (by simp) e hm hx
    have h2 : p.2.data.toList.length = p.2.size := Array.length_toList
    omega
  refine (words_all v0 v1 v2 l0 l1 l2 W hr0 hr1 hr2 hl0 hsh1 hsh2).mono fun e W' ⟨he, hc⟩ => ?_
  have hb : Below W.heap.size W W' := by first | exact hc | exact hc.below
  subst he
  exact ⟨_, rfl, _, _, _, [], _, [], hW', trodAll_mk1 (shut_bool Tryd.underlying4 _), trodAll_mk3 (Below.trod laidOut (by kernel_rfl) (of_decide_eq_true (by kernel_rfl)) k0 hb (fun x hx => by first | (exact absurd hx (by simp; done)) | (simpa using hW'.lt x (by simp [hx])))) (Below.trod laidOut (by kernel_rfl) (of_decide_eq_true (by kernel_rfl)) k1 hb (fun x hx => by first | (exact absurd hx (by simp; done)) | (simpa using hW'.lt x (by simp [hx])))) (Below.trod laidOut (by kernel_rfl) (of_decide_eq_true (by kernel_rfl)) k2 hb (fun x hx => by first | (exact absurd hx (by simp; done)) | (simpa using hW'.lt x (by simp [hx])))), rfl, hb.frame _, fun h => by cases h⟩
theorem holds : Rows.EnvWordsUptoSaid :=
  OpenClaim.holds_of_cond 8 Tryd.f8 rfl rfl rfl rfl rfl rfl rfl ⟨rfl, rfl, rfl, rfl, rfl⟩ rfl rfl rfl rfl rfl (by kernel_rfl) Tryd.func8 (by kernel_rfl)
    (of_decide_eq_true (by kernel_rfl)) (by unfold Func.isWrapper; first | (rw [if_pos (by decide +kernel)]; kernel_rfl) | (rw [if_neg (by decide +kernel)]; exact ⟨rfl, rfl⟩))
    (fun os started H enc _ FF => by rw [OpenClaim.pre_eq_preRow]; exact lifted os started H enc FF)
theorem plain (f : FuncId) (fn : Func) (hf : Tryd.pinned.checked.prog.funcNamed "cuecard/cuecardlaw16.EnvWords" = some f) (hfn : Tryd.pinned.checked.prog.funcs[f]? = some fn) :
    true = Tryd.pinned.checked.prog.looks [] ∧ ∀ (j : Nat) t, fn.params[j]? = some t → Tryd.pinned.checked.prog.wantsStandIn t = false := by
  obtain rfl : f = 8 := Option.some.inj ((show Tryd.prog.funcNamed "cuecard/cuecardlaw16.EnvWords" = some 8 by kernel_rfl).symm.trans hf) |>.symm
  obtain rfl : fn = Tryd.f8 := (Option.some.inj (Tryd.func8.symm.trans hfn)).symm
  refine ⟨by kernel_rfl, fun j t ht => ?_⟩
  rw [Tryd.params8] at ht
  have hm : t ∈ [58, 48, 48] := by simpa using Array.mem_of_getElem? ht
  have hall : ([58, 48, 48].all fun u => !Tryd.prog.wantsStandIn u) = true := by kernel_rfl
  exact (show Tryd.prog.wantsStandIn t = false by simpa using List.all_eq_true.1 hall t hm)
theorem card : Rows.EnvWordsUptoCardSaid :=
  Claim7.holds_tied_plain_at .later [] _ _ _ _ holds (fun _ h => by cases h) (by kernel_rfl) (fun _ h => by cases h) envWordsUpto_row_tie rfl ⟨rfl, rfl⟩ (by kernel_rfl) rfl plain (by kernel_rfl)
#print axioms card
end Go.Proofs.YtbilkpioddjlfaaDoor.envWords
