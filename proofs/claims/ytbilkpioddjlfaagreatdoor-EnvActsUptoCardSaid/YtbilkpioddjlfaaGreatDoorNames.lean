/- env.Names: the iterator that an env.Env's names come from, in order; cuecardlaw16.names collects them. Condition: no more than 256 variables. -/
import Derived.Test.YtbilkpioddjlfaaGreatDoorEnvM
import Derived.Test.YtbilkpioddjlfaaGreatDoorRange
import Derived.Test.YtbilkpioddjlfaaGreatDoorIter
import Derived.Test.YtbilkpioddjlfaaGreatDoorShelf
import Derived.Sort.OwnSorted
import Derived.Sort.KeysCollected
import Derived.RangeFuncBox
import Derived.RangeFuncLeaves
import Derived.Shelf.Abstract
import Derived.WalkKit
import Derived.OwnWalkIn
import Derived.TacticsInMore
import Derived.LoopNIn
import Derived.LoopIn
import Derived.Maps.AppendAt
import Derived.Maps.OwnIn
namespace Go.Proofs.YtbilkpioddjlfaaGreatDoor
open Go.RowKit Go.Maps Go.Shelf Go.Sort
attribute [local go_sem] Oper.semAt_some

/-- The names, in order. -/
def namesV (m : Vars) : List (List UInt8) := (m.map (·.1)).mergeSort leB
theorem namesV_length (m : Vars) : (namesV m).length = m.length := by simp [namesV]
theorem namesV_of_perm {ss : List (List UInt8)} {m : Vars} (h : ss.Perm (m.map (·.1))) : ss.mergeSort leB = namesV m := mergeSort_of_perm h

theorem perm_names {D : DataW Unit} {m : Vars} (h : RelD D m) {ss : List (List UInt8)} (hs : ss.Nodup) (hm : ∀ x, x ∈ ss ↔ has D (.string x) = true) : ss.Perm (m.map (·.1)) := by
  refine (List.perm_ext_iff_of_nodup hs h.nodup).2 fun x => ?_
  rw [hm, h.has]
  have := getV_none_iff m x
  cases hg : getV m x with
  | none => simpa [hg] using this.1 hg
  | some v =>
    simp
    have h2 : ¬ (getV m x = none) := by rw [hg]; simp
    rw [this] at h2
    simpa using h2
theorem nodup_keys {D : DataW Unit} {w : World} {b n : Nat} {m : Vars} (h : RelD D m) (hown : w.ownsMap Tryz.prog 9 (plainElem Tryz.prog 9) b n D) {ss : List (List UInt8)} (hs : ss.Perm (strKeys D)) : ss.Nodup := by
  have hm : ∀ x, x ∈ m.map (·.1) ↔ has D (.string x) = true := fun x => by
    rw [h.has]
    have := getV_none_iff m x
    cases hg : getV m x with
    | none => simpa [hg] using this.1 hg
    | some v =>
      simp
      have h2 : ¬ (getV m x = none) := by rw [hg]; simp
      rw [this] at h2
      simpa using h2
  obtain ⟨es, rfl, hp⟩ := h.tidy
  obtain ⟨es', e, hk⟩ := hown.keysOf
  cases e
  have h1 := perm_strKeys hp (fun p hp => by obtain ⟨v, hv⟩ := hk p hp; obtain ⟨x, _, hx, _⟩ := Maps.keyOf_str Tryz.underlying9 hv; exact ⟨x, hx⟩) h.nodup hm
  exact (hs.trans h1.symm).nodup_iff.2 h.nodup

theorem infoS : (Tryz.prog.info? 9).map (fun i => (i.zero, i.size, i.bytes)) = some (some (.string ⟨#[]⟩), 1, 16) := by kernel_rfl

/-- slices.Sort of a slice of the call's own. -/
theorem sort_calls (base : Nat) (v : Value) (ss : List (List UInt8)) (w : World) (h : w.ownsRow base 9 1 v ss.length (ss.map encStr)) (hss : ss.length < 4611686018427387904) :
    Calls Tryz.prog 30 #[v] w fun e w' => e = .returned (.tuple #[]) ∧ w'.ownsRow base 9 1 v ss.length ((ss.mergeSort leB).map encStr) ∧ w.grownBy w' v.ownBlock := by
  rcases h.2 with ⟨rfl, h0⟩ | ⟨g, cap, cur, rfl, hb, hh, h1, h2, h3, h4⟩
  · obtain rfl : ss = [] := List.eq_nil_of_length_eq_zero h0
    refine (Tryz.slices_Sort_string_none none 0 w).mono ?_
    rintro e w' ⟨rfl, rfl⟩
    exact ⟨rfl, by rw [List.mergeSort_nil]; exact World.ownsRow_nil _ _ _ _, ⟨rfl, rfl, rfl, Nat.le_refl _, fun _ _ _ => rfl⟩⟩
  · refine (Tryz.slices_Sort_string g 0 cap ss w (holds_of_block hh (by simpa using h4)) (Array.getElem?_eq_some_iff.1 hh).1 hss).mono ?_
    rintro e w' ⟨rfl, n, os, rfl⟩
    exact ⟨rfl, ownsRow_sorted (by simp) hb hh h1 h2 h3, grownBy_sorted _⟩

variable {n : Nat}
theorem keysIter (Bm b nn : Nat) (D0 : DataW Unit) (w : World) (hn : 1 ≤ n) (hBm : Bm < w.heap.size) (hm : w.cell? ⟨Bm, 0, none⟩ = some (.map (some b))) (hown : w.ownsMap Tryz.prog 9 (plainElem Tryz.prog 9) b nn D0) :
    SeqStops Fence.wide n Tryz.prog 42 #[.pointer (some ⟨Bm, 0, none⟩)] encStr (fun ss => ss.Perm (strKeys D0) ∧ ∀ x, x ∈ ss ↔ has D0 (.string x) = true) (fun pre => pre.Nodup ∧ ∀ x ∈ pre, has D0 (.string x) = true) (Maps.size D0) w :=
  AnyZ.keys_stops (ρ := Tryz.keysL_ren) { Tryz.keysL with } Fence.wide n trivial rfl hn Bm b nn D0 w hBm hm hown
theorem keysCall (mb : Option Nat) (w : World) :
    CallsIn Fence.wide n Tryz.prog 29 #[.map mb] w fun e w' => e = .returned (.func (.func 42) #[] #[.pointer (some ⟨w.heap.size, 0, none⟩)]) ∧ w' = w.alloc (.cells #[.map mb] 48) :=
  AnyZ.keys_in (ρ := Tryz.keysL_ren) Tryz.keysL Fence.wide n trivial rfl mb w
#print axioms keysIter

set_option maxRecDepth 100000 in
set_option maxHeartbeats 2000000 in
theorem names1_nil (l Bp : Nat) (J : List (List UInt8) → World → Prop) (W : World) (h0 : J [] W) (hc : W.cell? ⟨Bp, 0, none⟩ = some (.pointer none)) :
    CallsIn Fence.wide n Tryz.prog 28 #[.func (.yield l) #[] #[], .pointer (some ⟨Bp, 0, none⟩)] W fun e W' => (∃ v, e = .returned v) ∧ J [] W' := by
  refine callsIn_of_wp_marks Tryz.func28 rfl trivial ?_ rfl
  simp only [Tryz.ntmps28, List.size_toArray, List.length_cons, List.length_nil, Nat.reduceAdd, Nat.reduceSub, Array.replicate_succ, Array.replicate_zero, List.push_toArray, List.append_toArray, List.nil_append, List.cons_append]
  gi_wp2
  exact ⟨_, results_none rfl _ _ _, ⟨_, rfl⟩, h0⟩

/-- What the collecting loop keeps. -/
def CollI (W : World) (pre : List (List UInt8)) (W' : World) : Prop :=
  (∃ v, Boxed W' W.heap.size 45 v ∧ W'.ownsRow W.heap.size 9 1 v pre.length (pre.map encStr)) ∧ Below W.heap.size W W'

set_option maxRecDepth 100000 in
set_option maxHeartbeats 2000000 in
theorem names1_at (l Bp p b : Nat) (m : Vars) (J Jx : Nat → List (List UInt8) → World → Prop) (W : World) (hn : 8 ≤ n)
    (hJ : ∀ M pre W1 W2, J M pre W1 → Chg W1 W2 (fun k => W.heap.size ≤ k ∧ k < M) → J M pre W2)
    (hJx : ∀ M pre W1 W2, Jx M pre W1 → Chg W1 W2 (fun k => W.heap.size ≤ k ∧ k < M) → Jx M pre W2)
    (hY : ∀ M pre x W1, J M pre W1 → pre.length < m.length → YieldAt Fence.wide (n - 1) Tryz.prog l #[encStr x] W1 fun e W' =>
      Chg W1 W' (fun k => ¬ (W.heap.size ≤ k ∧ k < M)) ∧ ((e = .returned (.bool true) ∧ J M (pre ++ [x]) W') ∨ (e = .returned (.bool false) ∧ Jx M (pre ++ [x]) W')))
    (h0 : ∀ M W', Chg W W' NoB → W'.heap.size = M → J M [] W') (hc : W.cell? ⟨Bp, 0, none⟩ = some (.pointer (some ⟨p, 0, none⟩))) (hBp : Bp < W.heap.size) (h : EnvAt W p b m) (hm : m.length ≤ 256) :
    CallsIn Fence.wide n Tryz.prog 28 #[.func (.yield l) #[] #[], .pointer (some ⟨Bp, 0, none⟩)] W fun e W' => (∃ v, e = .returned v) ∧ ∃ M, (∃ xs, xs = namesV m ∧ J M xs W') ∨ (∃ pre, pre <+: namesV m ∧ Jx M pre W') := by
  obtain ⟨i0, hi, hz0, hz1, hz2⟩ := info_parts infoS
  have HJ := Lib.hid hJ
  have HJx := Lib.hid hJx
  have HY := Lib.hid hY
  have H0 := Lib.hid h0
  have HE := Lib.hid h
  have hpl := h.lt
  have hpc : ∀ O, (W.alloc O).cell? ⟨p, 0, none⟩ = some (.map (some b)) := fun O => (h.alloc O).cell
  clear hJ hJx hY h0 h
  refine callsIn_of_wp_marks Tryz.func28 rfl trivial ?_ rfl
  simp only [Tryz.ntmps28, List.size_toArray, List.length_cons, List.length_nil, Nat.reduceAdd, Nat.reduceSub, Array.replicate_succ, Array.replicate_zero, List.push_toArray, List.append_toArray, List.nil_append, List.cons_append]
  gi_wp2_with (refine ⟨trivial, fun _ => by omega, ?_⟩; gi_at_call 29; refine (keysCall (n := n - 1) _ _).mono ?_; rintro e w' ⟨rfl, rfl⟩)
  obtain ⟨D, hr, ho⟩ := HE.out.map
  have bO := Boxed.new W 45 (.slice none 0 0)
  have bN := Boxed.new (W.alloc (.cells #[.slice none 0 0] 45)) 48 (.map (some b))
  rw [World.size_alloc] at bN
  have hB0 : Below W.heap.size W ((W.alloc (.cells #[.slice none 0 0] 45)).alloc (.cells #[.map (some b)] 48)) := ((Below.refl _ W).alloc (Nat.le_refl _) _).alloc (by simp) _
  refine wpIn_rangeFunc_ownG rfl (by omega) (gf := 42) (lb := #[.pointer (some ⟨W.heap.size + 1, 0, none⟩)]) rfl trivial (enters_of Tryz.func42 (by kernel_rfl) rfl)
    (keysIter (n := n - 1) (W.heap.size + 1) b m.length D _ (by omega) (by simp) bN.cell ((ho.alloc _).alloc _)) walksK_t walksK_b (Below.refl _ _) (fun _ => rfl)
    (CollI W) (fun _ _ _ => False)
    (OwnFrom.and (Own.from (fun s A B row hs hg hrw => by
      obtain ⟨v, h1, h2⟩ := hs
      obtain ⟨v', a1, a2, _⟩ := holdsRow_own (β := List (List UInt8)) W.heap.size W.heap.size 45 9 1 (fun pre => pre.length) (fun pre => pre.map encStr) (fun _ _ => True) s A B row ⟨v, h1, h2, trivial⟩ hg hrw
      exact ⟨v', a1, a2⟩) _) (ownFrom_below (Nat.le_refl _) (by simp; omega)))
    (fun _ _ _ _ _ hs _ _ => hs)
    ⟨⟨_, bO.alloc _, World.ownsRow_nil _ _ _ _⟩, hB0⟩
    (fun x => { tmps := #[.func (.yield l) #[] #[], .pointer (some ⟨Bp, 0, none⟩), undef, .pointer (some ⟨W.heap.size, 0, none⟩), encStr x, undef, undef, .pointer (some ⟨p, 0, none⟩), .bool false, .pointer (some ⟨p, 0, none⟩), .pointer (some ⟨p, 0, none⟩), .pointer (some ⟨p, 0, none⟩), .map (some b), .func (.func 42) #[] #[.pointer (some ⟨W.heap.size + 1, 0, none⟩)], encStr x, undef, undef, undef, undef, undef, undef, undef, undef, undef, undef, undef, undef, undef, undef, undef, undef, undef], defers := [] }) ?assign ?body ?done ?stop
  case assign =>
    intro l x W K hK
    gi_wp2
    exact hK
  case body =>
    rintro l pre x W' ⟨⟨v, hv, hrow⟩, hB⟩ hlt
    have hc := hv.cell
    rw [hr.size] at hlt
    have hsz := hB.size
    gi_wp2_with (gi_at_builtin; refine wpListIn_append_own _ rfl _ _ 45 rfl W.heap.size 9 i0 (.string ⟨#[]⟩) 1 16 Tryz.underlying45 hi hz0 hz1 hz2 rfl (by decide) _ _ _ rfl (hrow.alloc _) ⟨W'.heap.size, 0, none⟩ 1 1 [encStr x] rfl rfl (cell_one_new _ _ _) (by simp [Value.oneCell', encStr]) (by unfold maxLen; omega) (by omega) (by simp; omega) ?_; intro v' w1 hown' hgrow _; obtain ⟨g', cap', rfl⟩ := ownsRow_succ hown'; obtain ⟨hv1, hv2, hr2, hk2, hb2⟩ := hv.appended (by decide) hrow hB.size (Nat.le_refl _) hown' hgrow; have hc1 := hv1.cell; have hf1 := hv1.frozen)
    exact ⟨hk2.from _, ⟨hk2.size, fun k o h1 h2 => hk2.same k o h1 (Obj.not_cells_of_walk h2)⟩, ⟨_, hv2, by simpa using hr2⟩, hB.trans hb2⟩
  case done =>
    rintro D' ss W3 hD ⟨hperm, hmem⟩ ⟨⟨v, hv, hrow⟩, hB⟩ hK
    have hnd := nodup_keys hr ho hperm
    have hpn := perm_names hr hnd hmem
    have hss : ss.length = m.length := by simpa using hpn.length_eq
    have hso := namesV_of_perm hpn
    obtain ⟨A, cp, rfl, hA⟩ : ∃ A c, v = .slice A m.length c ∧ (m.length = 0 ∨ ∃ bb off, A = some ⟨bb, off, none⟩) := by
      rw [hss] at hrow
      rcases (RdRow.ofOwn (F := fun _ => True) hrow (by decide) (fun _ _ => trivial)).where_ with ⟨h0, A, c, rfl⟩ | ⟨_, bb, off, c, rfl⟩
      · exact ⟨A, c, rfl, .inl h0⟩
      · exact ⟨_, c, rfl, .inr ⟨bb, off, rfl⟩⟩
    have hcb := hv.cell
    have hvt : some W.heap.size ≠ (Value.slice A m.length cp).ownBlock := hv.not_row (by decide) hrow
    have hsl := hB.size
    have HB := Lib.hid hB
    have HK := Lib.hid hK
    have HR := Lib.hid hrow
    have HV := Lib.hid hv
    have HS := Lib.hid hso
    have HD := Lib.hid hD
    clear hB hK hrow hpn hnd hmem hperm hso hD hr ho bO bN hB0 HE hpc
    gi_wp2_with (refine ⟨trivial, fun _ => by omega, ?_⟩; gi_at_call 30; refine (callsIn_wide.2 (sort_calls _ _ _ _ HR.out (by omega))).mono ?_; rintro e W4 ⟨rfl, hr4, hg4⟩; have hcb4 := (World.cell?_of_block (w := W3) (a := ⟨W.heap.size, 0, none⟩) (hg4.block _ HV.out.lt hvt)).trans hcb)
    have hown : ∀ g, (Value.slice A m.length cp).ownBlock = some g → W.heap.size ≤ g ∧ g < W4.heap.size := fun g hg => ⟨(hr4.lt g hg).1, (hr4.lt g hg).2⟩
    have hc4 : Chg W W4 NoB := (Chg.ofBelow HB.out).grown hg4 (fun k e hk => by have := (hown k e).1; omega)
    have hK4 : W4.heap[D']? = some (.deferred (some [])) := by
      refine (hg4.block D' (Array.getElem?_eq_some_iff.1 HK.out).1 (fun e => ?_)).trans HK.out
      rcases HR.out.2 with ⟨e0, _⟩ | ⟨g, cap, cur, e0, _, hh, _⟩
      · rw [e0] at e; simp [Value.ownBlock] at e
      · rw [e0] at e
        have e1 : D' = g := by simpa [Value.ownBlock] using e
        subst e1
        have := HK.out
        rw [hh] at this
        cases this
    have hrd : RdRow W4 (fun g => W.heap.size ≤ g ∧ g < W4.heap.size) 1 m.length (.slice A m.length cp) ((namesV m).map encStr) := by
      have := RdRow.ofOwn hr4 (by decide) hown
      rwa [HS.out, hss] at this
    have hDl : W.heap.size ≤ D' ∧ D' < W4.heap.size := ⟨by have := HD.out; simp at this; omega, (Array.getElem?_eq_some_iff.1 hK4).1⟩
    have hJ0 := H0.out _ _ hc4 rfl
    clear hr4 hg4 hv HR HV HS HK HB HD H0 hown hc4 hvt hcb hc hss ss
    have HRD := Lib.hid hrd
    have HJ0 := Lib.hid hJ0
    clear hrd hJ0
    gi_wp2
    gi_loopw [23] (fun i wr => ∃ k : Nat, i = .int .i64 k ∧ k ≤ m.length ∧ J W4.heap.size ((namesV m).take k) wr ∧ Chg W4 wr (fun j => ¬ (W.heap.size ≤ j ∧ j < W4.heap.size))) (fun i _ => m.length - (intOf i).toNat)
    case atStart => exact ⟨0, rfl, Nat.zero_le _, by simpa using HJ0.out, Chg.refl _ _⟩
    case round =>
      obtain ⟨k, rfl, hk, hJk, hcw⟩ := hrel
      by_cases hlt : k < m.length
      · obtain ⟨bb, off, rfl⟩ : ∃ bb off, A = some ⟨bb, off, none⟩ := by
          rcases hA with h0 | h
          · omega
          · exact h
        obtain ⟨_, hbb, hcells⟩ := (HRD.out.chg hcw (fun k hk _ f => f hk)).at_ (by omega)
        have hcx : wr.cell? ⟨bb, off + k, none⟩ = some (encStr ((namesV m)[k]'(by rw [namesV_length]; exact hlt))) := (hcells k (by omega)).trans (by simp [namesV_length, hlt])
        have htk : (namesV m).take k ++ [(namesV m)[k]'(by rw [namesV_length]; exact hlt)] = (namesV m).take (k + 1) := by simp
        obtain ⟨fn, tmps, assign, body, hy, hR⟩ := HY.out W4.heap.size ((namesV m).take k) ((namesV m)[k]'(by rw [namesV_length]; exact hlt)) wr hJk (by simp; omega)
        rw [htk] at hR
        generalize (namesV m)[k]'(by rw [namesV_length]; exact hlt) = x at *
        have HTK := Lib.hid htk
        clear htk hcells
        gi_wp2
        refine ⟨fun _ => by omega, hR.mono ?_⟩
        rintro e W5 ⟨hc5, (⟨rfl, hJ5⟩ | ⟨rfl, hJx5⟩)⟩
        · gi_wp2
          go_roundw
          case rel => exact ⟨k + 1, rfl, hlt, hJ5, hcw.trans hc5 (fun _ _ f => f)⟩
          case measure => simp [intOf]; omega
        · have hK5 : W5.heap[D']? = some (.deferred (some [])) := (hc5.block D' (Nat.lt_of_lt_of_le hDl.2 hcw.size) (fun f => f hDl)).trans ((hcw.block D' hDl.2 (fun f => f hDl)).trans hK4)
          gi_wp2
          refine ⟨by simp, .inl ⟨_, _, rfl, run_takeDeferred hK5, ?_⟩⟩
          exact ⟨_, results_none rfl _ _ _, ⟨_, rfl⟩, _, .inr ⟨_, ⟨(namesV m).drop (k + 1), List.take_append_drop _ _⟩, HJx.out _ _ _ _ hJx5 ((Chg.refl _ _).putObj _ _ (fun _ => hDl))⟩⟩
      · obtain rfl : k = m.length := by omega
        have hKr : wr.heap[D']? = some (.deferred (some [])) := (hcw.block D' hDl.2 (fun f => f hDl)).trans hK4
        gi_wp2
        refine ⟨by simp, .inl ⟨_, _, rfl, run_takeDeferred hKr, ?_⟩⟩
        exact ⟨_, results_none rfl _ _ _, ⟨_, rfl⟩, _, .inl ⟨_, rfl, by rw [← namesV_length m, List.take_length] at hJk; exact HJ.out _ _ _ _ hJk ((Chg.refl _ _).putObj _ _ (fun _ => hDl))⟩⟩
  case stop =>
    rintro D c pre W _ _ h _
    exact h.elim

theorem names1_seq (Bp p b : Nat) (m : Vars) (w : World) (hn : 8 ≤ n) (hBp : Bp < w.heap.size) (hc : w.cell? ⟨Bp, 0, none⟩ = some (.pointer (some ⟨p, 0, none⟩))) (h : EnvAt w p b m) (hm : m.length ≤ 256) :
    SeqC Fence.wide n Tryz.prog 28 #[.pointer (some ⟨Bp, 0, none⟩)] (fun x => #[encStr x]) (fun xs => xs = namesV m) (fun pre => pre <+: namesV m) m.length w := fun l J Jx W hW hJ hJx hY h0 =>
  names1_at l Bp p b m J Jx W hn hJ hJx hY h0 ((hW.cell (p := ⟨Bp, 0, none⟩) hBp).trans hc) (Nat.lt_of_lt_of_le hBp hW.size) (h.move (hW.block p h.lt) (hW.block b h.ltb)) hm
theorem names1_seq_nil (Bp : Nat) (w : World) (hBp : Bp < w.heap.size) (hc : w.cell? ⟨Bp, 0, none⟩ = some (.pointer none)) :
    SeqC Fence.wide n Tryz.prog 28 #[.pointer (some ⟨Bp, 0, none⟩)] (fun x => #[encStr x]) (fun xs => xs = []) (fun _ => False) 0 w := fun l J Jx W hW _ _ _ h0 =>
  (names1_nil l Bp (J W.heap.size) W (h0 _ _ (Chg.refl _ _) rfl) ((hW.cell (p := ⟨Bp, 0, none⟩) hBp).trans hc)).mono fun _ _ ⟨he, hj⟩ => ⟨he, _, .inl ⟨[], rfl, hj⟩⟩
theorem envNames_calls (pv : Value) (w : World) (hp : ∃ o, pv = .pointer o) : Calls Tryz.prog 22 #[pv] w fun e w' => e = .returned (.func (.func 28) #[] #[.pointer (some ⟨w.heap.size, 0, none⟩)]) ∧ w' = w.alloc (.cells #[pv] 23) := by
  obtain ⟨o, rfl⟩ := hp
  go_enter Tryz.func22, Tryz.ntmps22
  go_wp2
  go_ret
  exact ⟨rfl, rfl⟩

/-- What cuecardlaw16.names keeps: l: the iterator's box's place; the collected row lies outside the iterator's own blocks. -/
def NamesI (w : World) (B M : Nat) (pre : List (List UInt8)) (W : World) : Prop :=
  (∃ v, Boxed W w.heap.size 45 v ∧ W.ownsRow w.heap.size 9 1 v pre.length (pre.map encStr) ∧ (∀ g, v.ownBlock = some g → M ≤ g)) ∧ Chg w W NoB ∧ B ≤ W.heap.size
theorem NamesI.chg {w A C : World} {B M : Nat} {pre : List (List UInt8)} (hB : w.heap.size < B) (h : NamesI w B M pre A) (hc : Chg A C (fun k => B ≤ k ∧ k < M)) : NamesI w B M pre C := by
  obtain ⟨⟨v, h1, h2, h3⟩, h4, h5⟩ := h
  refine ⟨⟨v, (hc.block _ h1.lt (by omega)).trans h1, ?_, h3⟩, h4.trans hc (fun k hk h => by omega), Nat.le_trans h5 hc.size⟩
  obtain ⟨e1, e2⟩ := h2
  refine ⟨e1, ?_⟩
  rcases e2 with e2 | ⟨g, cap, cur, rfl, hg0, hh, r⟩
  · exact .inl e2
  · exact .inr ⟨g, cap, cur, rfl, hg0, (hc.block g (Array.getElem?_eq_some_iff.1 hh).1 (by have := h3 g rfl; omega)).trans hh, r⟩

set_option maxRecDepth 100000 in
set_option maxHeartbeats 2000000 in
/-- for s := range v.Names() { l = append(l, s) }; return l -/
theorem names_of (pv : Value) (xs : List (List UInt8)) (N : Nat) (w : World) (hp : ∃ o, pv = .pointer o) (hN : N ≤ 256) (S Sp : List (List UInt8) → Prop) (hS : ∀ ys, S ys → ys = xs)
    (hseq : SeqC Fence.wide 8 Tryz.prog 28 #[.pointer (some ⟨w.heap.size + 1, 0, none⟩)] (fun x => #[encStr x]) S Sp N ((w.alloc (.cells #[.slice none 0 0] 45)).alloc (.cells #[pv] 23))) :
    Calls Tryz.prog 13 #[pv] w fun e w' => ∃ v, e = .returned v ∧ w'.ownsRow w.heap.size 9 1 v xs.length (xs.map encStr) ∧ Chg w w' NoB := by
  obtain ⟨i0, hi, hz0, hz1, hz2⟩ := info_parts infoS
  refine (callsIn_wide (n := 9)).1 ?_
  refine callsIn_of_wp_marks Tryz.func13 rfl trivial ?_ rfl
  simp only [Tryz.ntmps13, List.size_toArray, List.length_cons, List.length_nil, Nat.reduceAdd, Nat.reduceSub, Array.replicate_succ, Array.replicate_zero, List.push_toArray, List.append_toArray, List.nil_append, List.cons_append]
  gi_wp2_with (refine ⟨trivial, ?_⟩; gi_at_call 22; refine (callsIn_wide.2 (envNames_calls _ _ hp)).mono ?_; rintro e w' ⟨rfl, rfl⟩)
  have bO := Boxed.new w 45 (.slice none 0 0)
  have hsz : ((w.alloc (.cells #[.slice none 0 0] 45)).alloc (.cells #[pv] 23)).heap.size = w.heap.size + 2 := by simp
  have hc0 : Chg w ((w.alloc (.cells #[.slice none 0 0] 45)).alloc (.cells #[pv] 23)) NoB := ((Chg.refl _ _).alloc _).alloc _
  have hb0 := bO.alloc (.cells #[pv] 23)
  generalize ((w.alloc (.cells #[.slice none 0 0] 45)).alloc (.cells #[pv] 23)) = W at *
  refine wpIn_rangeFunc_chg rfl (by omega) (gf := 28) (lb := #[.pointer (some ⟨w.heap.size + 1, 0, none⟩)]) rfl trivial (enters_of Tryz.func28 (by kernel_rfl) rfl)
    hseq (fun _ => rfl) (NamesI w W.heap.size) (fun _ _ _ _ => False)
    (fun M pre W1 W2 h hc => h.chg (by omega) hc) (fun _ _ _ _ _ h _ => h)
    (fun M W' hc hM => ⟨⟨_, (hc.block _ hb0.lt (fun f => f)).trans hb0, World.ownsRow_nil _ _ _ _, fun g hg => by simp [Value.ownBlock] at hg⟩, hc0.trans hc (fun _ _ f => f), hc.size⟩)
    (fun x => { tmps := #[pv, undef, .slice none 0 0, .pointer (some ⟨w.heap.size, 0, none⟩), encStr x, pv, .func (.func 28) #[] #[.pointer (some ⟨w.heap.size + 1, 0, none⟩)], encStr x, undef, undef, undef, undef, undef], defers := [] }) ?assign ?body ?done ?stop
  case assign =>
    intro l x W K hK
    gi_wp2
    exact hK
  case body =>
    rintro l M pre x W' hM hMl ⟨⟨v, hv, hrow, hg⟩, hch, hsz'⟩ hlt
    have hc := hv.cell
    have hsw := hch.size
    have hhv := Lib.hid hv
    have HCH := Lib.hid hch
    gi_wp2_with (gi_at_builtin; refine wpListIn_append_own_at _ rfl _ _ 45 rfl w.heap.size 9 i0 (.string ⟨#[]⟩) 1 16 Tryz.underlying45 hi hz0 hz1 hz2 rfl (by decide) _ _ _ rfl (hrow.alloc _) ⟨W'.heap.size, 0, none⟩ 1 1 [encStr x] rfl rfl (cell_one_new _ _ _) (by simp [Value.oneCell', encStr]) (by unfold maxLen; omega) (by omega) (by simp; omega) ?_; intro v' w1 hown' hgrow _ hat; obtain ⟨g', cap', rfl⟩ := ownsRow_succ hown'; obtain ⟨hv1, hv2, hr2, hk2, hb2⟩ := hv.appended (by decide) hrow hsw (Nat.le_refl _) hown' hgrow; have hc1 := hv1.cell; have hf1 := hv1.frozen)
    have hg' : M ≤ g' := by
      rcases hat with e | e
      · exact hg g' e.symm
      · have : g' = W'.heap.size + 1 := by simpa [Value.ownBlock] using e
        omega
    refine ⟨?_, ⟨_, hv2, by simpa using hr2, fun g e => (show g' = g by simpa [Value.ownBlock] using e) ▸ hg'⟩, ?_, ?_⟩
    · exact (((Chg.refl W' _).alloc _).grown hgrow (fun k e hk h => by have := hg k e; omega)).setCell (fun _ h => by simp at h; omega) _
    · exact ((HCH.out.alloc _).grown hgrow (fun k e hk => by have := hg k e; omega)).setCell (fun h => by simp at h) _
    · have := hk2.size; omega
  case done =>
    rintro M ys W' hys hM ⟨⟨v, hv, hrow, hg⟩, hch, hsz'⟩ hK
    obtain rfl := hS ys hys
    have hc := hv.cell
    gi_wp2
    refine ⟨by simp, .inl ⟨_, _, rfl, run_takeDeferred hK, ?_⟩⟩
    exact ⟨_, results_tmp rfl _ _ _, v, rfl, ownsRow_putObj hrow _ hK rfl, hch.putObj _ _ (fun _ => by omega)⟩
  case stop =>
    rintro c M pre W _ _ h _
    exact h.elim
/-- All names of an object. -/
theorem names_calls (p b : Nat) (m : Vars) (w : World) (h : EnvAt w p b m) (hm : m.length ≤ 256) :
    Calls Tryz.prog 13 #[.pointer (some ⟨p, 0, none⟩)] w fun e w' => ∃ v, e = .returned v ∧ w'.ownsRow w.heap.size 9 1 v (namesV m).length ((namesV m).map encStr) ∧ Chg w w' NoB := by
  have hb := Boxed.new (w.alloc (.cells #[.slice none 0 0] 45)) 23 (.pointer (some ⟨p, 0, none⟩))
  rw [World.size_alloc] at hb
  exact names_of _ (namesV m) m.length w ⟨_, rfl⟩ hm _ _ (fun _ h => h) (names1_seq (n := 8) (w.heap.size + 1) p b m _ (by omega) hb.lt hb.cell ((h.alloc _).alloc _) hm)
/-- .. of none. -/
theorem names_nil (w : World) :
    Calls Tryz.prog 13 #[.pointer none] w fun e w' => ∃ v, e = .returned v ∧ w'.ownsRow w.heap.size 9 1 v 0 [] ∧ Chg w w' NoB := by
  have hb := Boxed.new (w.alloc (.cells #[.slice none 0 0] 45)) 23 (.pointer none)
  rw [World.size_alloc] at hb
  exact names_of _ [] 0 w ⟨_, rfl⟩ (by omega) _ _ (fun _ h => h) (names1_seq_nil (w.heap.size + 1) _ hb.lt hb.cell)
#print axioms names_calls
#print axioms names_nil
#print axioms names1_seq
#print axioms names1_seq_nil
#print axioms envNames_calls

end Go.Proofs.YtbilkpioddjlfaaGreatDoor
