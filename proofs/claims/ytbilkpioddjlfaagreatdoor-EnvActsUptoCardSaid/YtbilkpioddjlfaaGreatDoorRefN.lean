/- cuecardref16.Env.Names: the names in order, sorted by insertion. Condition: fewer variables than numbers. -/
import Derived.Test.YtbilkpioddjlfaaGreatDoorRefB
import Derived.Test.YtbilkpioddjlfaaGreatDoorRefP
import Derived.IntWalk
import Derived.Deep.QuietTactic
import Derived.BigQuiet
namespace Go.Proofs.YtbilkpioddjlfaaGreatDoor
open Go.RowKit Go.Sort

theorem lt_of_less : ∀ (x y : List UInt8), Op.bytesLess x y = true → x < y
  | [], [], h => by simp [Op.bytesLess] at h
  | _ :: _, [], h => by simp [Op.bytesLess] at h
  | [], _ :: _, _ => List.nil_lt_cons _ _
  | a :: x, b :: y, h => by
    rw [Op.bytesLess] at h
    rw [List.cons_lt_cons_iff]
    by_cases h1 : a = b
    · subst h1
      refine .inr ⟨rfl, lt_of_less x y ?_⟩
      simpa using h
    · left
      simp only [Bool.or_eq_true, Bool.and_eq_true, beq_iff_eq, decide_eq_true_eq] at h
      rcases h with h | h
      · exact h
      · exact absurd h.1 h1
theorem less_le {x y : List UInt8} (h : Op.bytesLess x y = true) : leB x y = true := by
  simp only [leB, decide_eq_true_eq]
  exact List.le_of_lt (lt_of_less _ _ h)
theorem not_less_le {x y : List UInt8} (h : Op.bytesLess x y = false) : leB y x = true := by
  simp only [leB, decide_eq_true_eq]
  refine List.not_lt.1 (fun hlt => ?_)
  rw [less_of_lt _ _ hlt] at h
  cases h
theorem leB_trans (a b c : List UInt8) (h1 : leB a b = true) (h2 : leB b c = true) : leB a c = true := by
  simp only [leB, decide_eq_true_eq] at *; exact List.le_trans h1 h2
/-- What insertion keeps: x stands behind pre and ahead of post. -/
structure Ins (pre : List (List UInt8)) (x : List UInt8) (post all : List (List UInt8)) : Prop where
  sorted : (pre ++ post).Pairwise (fun a b => leB a b = true)
  ahead : ∀ y ∈ post, leB x y = true
  perm : (pre ++ x :: post).Perm all
theorem Ins.begin {l all : List (List UInt8)} (hs : l.Pairwise (fun a b => leB a b = true)) (hp : l.Perm all) (x : List UInt8) : Ins l x [] (all ++ [x]) :=
  ⟨by simpa using hs, by simp, hp.append_right _⟩
theorem Ins.swap {pre : List (List UInt8)} {x y : List UInt8} {post all : List (List UInt8)} (h : Ins (pre ++ [y]) x post all) (hl : Op.bytesLess x y = true) : Ins pre x (y :: post) all := by
  refine ⟨by simpa using h.sorted, fun z hz => ?_, ?_⟩
  · rcases List.mem_cons.1 hz with rfl | hz
    · exact less_le hl
    · exact h.ahead z hz
  · refine List.Perm.trans ?_ h.perm
    simp only [List.append_assoc, List.cons_append, List.nil_append]
    exact (List.Perm.swap _ _ _).append_left _
theorem Ins.done_zero {x : List UInt8} {post all : List (List UInt8)} (h : Ins [] x post all) : (x :: post).Pairwise (fun a b => leB a b = true) :=
  List.pairwise_cons.2 ⟨h.ahead, by simpa using h.sorted⟩
theorem Ins.done {pre : List (List UInt8)} {x y : List UInt8} {post all : List (List UInt8)} (h : Ins (pre ++ [y]) x post all) (hl : Op.bytesLess x y = false) : (pre ++ [y] ++ x :: post).Pairwise (fun a b => leB a b = true) := by
  have h1 := List.pairwise_append.1 h.sorted
  refine List.pairwise_append.2 ⟨h1.1, List.pairwise_cons.2 ⟨h.ahead, h1.2.1⟩, fun a ha b hb => ?_⟩
  rcases List.mem_cons.1 hb with rfl | hb
  · have hy := not_less_le hl
    rcases List.mem_append.1 ha with ha' | ha'
    · exact leB_trans _ _ _ ((List.pairwise_append.1 h1.1).2.2 a ha' y (by simp)) hy
    · obtain rfl : a = y := by simpa using ha'
      exact hy
  · exact h1.2.2 a ha b hb

/-- append(out, x) -/
theorem strs_push {w : World} {B n c : Nat} {A : Option Addr} {xs : List (List UInt8)} (x : List UInt8) (h : w.ownsRow B 9 1 (.slice A n c) n (xs.map encStr)) (hB : B ≤ w.heap.size) (hn : n ≤ 1000000) :
    ∃ g c1 w1, (Builtin.append_ #[45, 45] 45 #[.slice A n c, .slice (some ⟨w.heap.size, 0, none⟩) 1 1]).run Tryz.prog (w.alloc (.cells #[.string (str x)] 9)) = .ok (.slice (some ⟨g, 0, none⟩) (n + 1) c1) w1 ∧
      w1.ownsRow B 9 1 (.slice (some ⟨g, 0, none⟩) (n + 1) c1) (n + 1) ((xs ++ [x]).map encStr) ∧ Chg w w1 (fun k => B ≤ k) := by
  obtain ⟨i0, hi, hz0, hz1, hz2⟩ := info_parts infoS
  have hc0 : Chg w (w.alloc (.cells #[.string (str x)] 9)) NoB := (Chg.refl _ _).alloc _
  have hx : RdRow (w.alloc (.cells #[.string (str x)] 9)) (fun _ => True) 1 1 (.slice (some ⟨w.heap.size, 0, none⟩) 1 1) [.string (str x)] :=
    ⟨rfl, _, _, rfl, Nat.le_refl _, fun _ => ⟨w.heap.size, 0, rfl, trivial, by simp, fun j hj => by
      have hj' : j < 1 := hj
      rw [Nat.zero_add]
      match j, hj' with
      | 0, _ => simp⟩⟩
  obtain ⟨v1, w7, r1, o1, g1, t1⟩ := run_append_rd (P := Tryz.prog) _ B (fun _ => True) 45 45 9 i0 _ 1 16 Tryz.underlying45 hi hz0 hz1 hz2 rfl (by decide) _ _ n 1 (xs.map encStr) _ (h.alloc _) hx (by simp [Value.oneCell']) (by unfold maxLen; omega) (by omega) (by simp; omega)
  obtain ⟨g, c1, rfl⟩ := ownsRow_succ o1
  refine ⟨g, c1, w7, r1, ?_, (hc0.no).grown g1 (fun k e hk => (h.lt k e).1)⟩
  have : (xs ++ [x]).map encStr = xs.map encStr ++ [.string (str x)] := by simp [encStr, str]
  rw [this]
  exact o1
theorem row_at {w : World} {B g n c : Nat} {xs : List (List UInt8)} (h : w.ownsRow B 9 1 (.slice (some ⟨g, 0, none⟩) n c) n (xs.map encStr)) (j : Nat) (hj : j < n) (x : List UInt8) (hx : xs[j]? = some x) : w.cell? ⟨g, j, none⟩ = some (.string (str x)) ∧ w.frozen? ⟨g, j, none⟩ = false := by
  refine ⟨?_, h.frozenAt j⟩
  rw [h.cellAt j (by omega), List.getElem?_map, hx]
  rfl
theorem row_swap {w : World} {B g n c : Nat} {pre post : List (List UInt8)} {x y : List UInt8} (h : w.ownsRow B 9 1 (.slice (some ⟨g, 0, none⟩) n c) n ((pre ++ [y] ++ x :: post).map encStr)) :
    ((w.setCell ⟨g, pre.length + 1, none⟩ (.string (str y))).setCell ⟨g, pre.length, none⟩ (.string (str x))).ownsRow B 9 1 (.slice (some ⟨g, 0, none⟩) n c) n ((pre ++ x :: y :: post).map encStr) ∧
    (w.setCell ⟨g, pre.length + 1, none⟩ (.string (str y))).cell? ⟨g, pre.length, none⟩ = some (.string (str y)) ∧ (w.setCell ⟨g, pre.length + 1, none⟩ (.string (str y))).frozen? ⟨g, pre.length, none⟩ = false := by
  have h1 := (h.stored (pre.length + 1) (.string (str y))).1
  have h2 := (h1.stored pre.length (.string (str x))).1
  have hn : n = pre.length + 1 + (post.length + 1) := by have := h.1; simp at this; omega
  refine ⟨?_, ?_, h1.frozenAt _⟩
  · have e : (((pre ++ [y] ++ x :: post).map encStr).set (pre.length + 1) (.string (str y))).set pre.length (.string (str x)) = (pre ++ x :: y :: post).map encStr := by
      simp only [List.append_assoc, List.cons_append, List.nil_append, List.map_append, List.map_cons]
      rw [List.set_append_right _ _ (by simp), List.set_append_right _ _ (by simp)]
      simp [encStr, str]
    rw [e] at h2
    exact h2
  · rw [h1.cellAt _ (by omega)]
    simp [encStr, str]

set_option maxRecDepth 100000 in
set_option maxHeartbeats 1000000 in
theorem refNames_calls (p : Nat) (v : Value) (m : Vars) (w : World) (hc : w.cell? ⟨p, 0, none⟩ = some v) (hp : p < w.heap.size) (hr : RdRow w (fun _ => True) 2 m.length v (varsC m)) (hm : m.length ≤ 256) :
    Calls Tryz.prog 14 #[.pointer (some ⟨p, 0, none⟩)] w fun e w' => ∃ v, e = .returned v ∧ w'.ownsRow w.heap.size 9 1 v m.length ((namesV m).map encStr) ∧ Chg w w' NoB := by
  have HR := Lib.hid hr
  have HCP := Lib.hid hc
  obtain ⟨A, c, rfl, hA⟩ : ∃ A c, v = .slice A m.length c ∧ (m.length = 0 ∨ ∃ bb off, A = some ⟨bb, off, none⟩) := by
    rcases hr.where_ with ⟨h0, A, c, rfl⟩ | ⟨_, bb, off, c, rfl⟩
    · exact ⟨A, c, rfl, .inl h0⟩
    · exact ⟨_, c, rfl, .inr ⟨bb, off, rfl⟩⟩
  clear hr hc
  go_enter Tryz.func14, Tryz.ntmps14
  go_wp2
  go_loopw [3, 4] (fun o i wr => ∃ (k : Nat) (xs : List (List UInt8)) (A1 : Option Addr) (c1 : Nat), i = .int .i64 k ∧ k ≤ m.length ∧ o = .slice A1 k c1 ∧ Hid (wr.ownsRow w.heap.size 9 1 (.slice A1 k c1) k (xs.map encStr)) ∧ Hid (xs.Pairwise (fun a b => leB a b = true)) ∧ Hid (xs.Perm ((m.take k).map (·.1))) ∧ Hid (Chg w wr NoB)) (fun _ i _ => m.length - (intOf i).toNat)
  case atStart => exact ⟨0, [], none, 0, rfl, Nat.zero_le _, rfl, World.ownsRow_nil _ _ _ _, List.Pairwise.nil, List.Perm.nil, Chg.refl _ _⟩
  case round =>
    obtain ⟨k, xs, A1, c1, rfl, hk, rfl, HO, HS, HP, HC⟩ := hrel
    have hpc : wr.cell? ⟨p, 0, none⟩ = some (.slice A m.length c) := (HC.out.cell (p := ⟨p, 0, none⟩) hp (fun f => f)).trans HCP.out
    by_cases hlt : k < m.length
    · obtain ⟨bb, off, rfl⟩ : ∃ bb off, A = some ⟨bb, off, none⟩ := by
        rcases hA with h0 | h
        · omega
        · exact h
      obtain ⟨_, hbb, hcells⟩ := (HR.out.chg HC.out (fun _ _ _ f => f)).at_ (by omega)
      have hc0 : wr.cell? ⟨bb, off + k * 2, none⟩ = some (.string (str m[k].1)) := (hcells _ (by omega)).trans (varsC_get m k hlt).1
      clear hcells hbb
      have hxl : xs.length = k := by have := HO.out.1; simpa using this
      obtain ⟨g, c2, w1, r1, o1, hc1⟩ := strs_push m[k].1 HO.out HC.out.size (by omega)
      have R1 := Lib.hid (AppRun.mk r1)
      have HI : Hid (Ins xs m[k].1 [] ((m.take (k + 1)).map (·.1))) := by
        have := Ins.begin HS.out HP.out m[k].1
        rw [List.take_succ_eq_append_getElem hlt, List.map_append]
        exact this
      have HO1 := Lib.hid o1
      have HC1 : Hid (Chg w w1 NoB) := HC.out.trans hc1 (fun j hj hB => by omega)
      have hpc1 : w1.cell? ⟨p, 0, none⟩ = some (.slice (some ⟨bb, off, none⟩) m.length c) := (HC1.out.cell (p := ⟨p, 0, none⟩) hp (fun f => f)).trans HCP.out
      clear r1 o1 hc1
      go_wp2_with (at_builtin; refine wpList_append_eq rfl _ _ 45 rfl R1.out rfl rfl rfl ?_)
      have HPC1 := Lib.hid hpc1
      clear hpc1 hpc hc0 R1
      go_loopw [5] (fun i w2 => ∃ (pre : List (List UInt8)) (x : List UInt8) (post : List (List UInt8)), i = .int .i64 pre.length ∧ Hid (Ins pre x post ((m.take (k + 1)).map (·.1))) ∧ Hid (w2.ownsRow w.heap.size 9 1 (.slice (some ⟨g, 0, none⟩) (k + 1) c2) (k + 1) ((pre ++ x :: post).map encStr)) ∧ Hid (Chg w w2 NoB)) (fun i _ => (intOf i).toNat)
      case atStart => exact ⟨xs, m[k].1, [], by simp [hxl], HI, HO1, HC1⟩
      case round =>
        obtain ⟨pre, x, post, rfl, HI2, HO2, HC2⟩ := hrel
        have hln : pre.length + 1 + post.length = k + 1 := by have := HO2.out.1; simp at this; omega
        obtain rfl | ⟨pre', y, rfl⟩ : pre = [] ∨ ∃ pre' y, pre = pre' ++ [y] := by
          rcases List.eq_nil_or_concat pre with h | ⟨a, b, h⟩
          · exact .inl h
          · exact .inr ⟨a, b, by rw [h]; simp⟩
        · have hpz : ((([] : List (List UInt8)).length : Nat) : Int) = 0 := rfl
          rw [hpz]
          clear hpz hln
          go_wp2
          go_quiet (fail)
          go_wp2
          go_roundw
          case rel => exact ⟨k + 1, x :: post, some ⟨g, 0, none⟩, c2, by go_num, hlt, rfl, HO2, HI2.out.done_zero, HI2.out.perm, HC2.out.drewN _⟩
          case measure => simp only [intOf]; omega
        · have hln' : ((pre' ++ [y]).length : Nat) = pre'.length + 1 := by simp
          rw [hln'] at hln
          rw [hln']
          have HI2' := HI2
          have hcx := row_at HO2.out (pre'.length + 1) (by omega) x (by simp)
          have hcy := row_at HO2.out pre'.length (by omega) y (by simp)
          have hsw := row_swap HO2.out
          obtain ⟨hcx, hfx⟩ := hcx
          obtain ⟨hcy, hfy⟩ := hcy
          obtain ⟨hos, hcy2, hfy2⟩ := hsw
          have HOS := Lib.hid hos
          have HXS : Hid ((str x).toList = x) := str_toList x
          have HYS : Hid ((str y).toList = y) := str_toList y
          have HLN := Lib.hid hln'
          have HCS : Hid (Chg w ((wr.setCell ⟨g, pre'.length + 1, none⟩ (.string (str y))).setCell ⟨g, pre'.length, none⟩ (.string (str x))) NoB) := (HC2.out.setCell (fun h => by have := (HO2.out.lt g rfl).1; simp at h; omega) _).setCell (fun h => by have := (HO2.out.lt g rfl).1; simp at h; omega) _
          clear hos hln'
          generalize hsx : str x = sx at *
          generalize hsy : str y = sy at *
          clear hsx hsy
          have hj9 : pre'.length < 1000000 := by omega
          generalize hj : pre'.length = j at *
          have HJ := Lib.hid hj
          clear hj
          cases hb : Op.bytesLess sx.toList sy.toList
          · have HB : Hid (Op.bytesLess x y = false) := by show Op.bytesLess x y = false; rw [← HXS.out, ← HYS.out]; exact hb
            have hw1 : IntKind.i64.wrap (((j + 1 : Nat) : Int) - 1) = (j : Int) := by
              rw [IntWalk.i64_in _ (by omega)]; omega
            go_wp2
            go_quiet (fail)
            go_wp2
            go_roundw
            case rel => exact ⟨k + 1, pre' ++ [y] ++ x :: post, some ⟨g, 0, none⟩, c2, by go_num, hlt, rfl, HO2, HI2.out.done HB.out, HI2.out.perm, HC2.out.drewN _⟩
            case measure => simp only [intOf]; omega
          · have HB : Hid (Op.bytesLess x y = true) := by show Op.bytesLess x y = true; rw [← HXS.out, ← HYS.out]; exact hb
            have hw1 : IntKind.i64.wrap (((j + 1 : Nat) : Int) - 1) = (j : Int) := by
              rw [IntWalk.i64_in _ (by omega)]; omega
            go_wp2
            go_quiet (fail)
            go_wp2
            go_roundw
            case rel => exact ⟨pre', x, y :: post, by rw [HJ.out], HI2.out.swap HB.out, HOS, HCS.out.drewN _⟩
            case measure => simp only [intOf]; omega
    · obtain rfl : k = m.length := by omega
      have HF : Hid (xs = namesV m) := namesV_of_sorted (by have := HP.out; rwa [List.take_length] at this) HS.out
      go_wp2
      go_ret
      exact ⟨_, rfl, by rw [← HF.out]; exact HO.out, HC.out⟩
#print axioms refNames_calls
end Go.Proofs.YtbilkpioddjlfaaGreatDoor
