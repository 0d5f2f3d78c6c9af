/- A strings.Builder that the call has made: WriteString, Len, with the blocks that they touch. Conditions: what it then holds takes at most 2^47 bytes. -/
import Derived.Test.YtbilkpioddjlfaaGreatDoorBase
import Derived.Test.YtbilkpioddjlfaaGreatDoorProg
import Derived.Lib.AppendStr
import Derived.Maps.AppendAt
import Derived.Lib.Builder
import Derived.Lib.ConvBytes
namespace Go.Proofs.YtbilkpioddjlfaaGreatDoor
open Go.RowKit

/-- Where append([]byte, s...) lays its row. -/
theorem append_string_loc {P : Program} (w : World) (t u ty e : TypeId) (i : TypeInfo) (ht : P.underlying t = some (.slice e)) (hu : P.underlying u = some .string) (hi : P.info? e = some i) (hz : i.zero = some (.int .u8 0))
    (hsize : i.size = 1) (hby : i.bytes = 1) (v : Value) (n : Nat) (xs : List Value) (hown : w.ownsRow 0 e 1 v n xs) (s : ByteArray) (hbytes : n + s.size ≤ 140737488355328)
    (v' : Value) (w' : World) (hr : (Builtin.append_ #[t, u] ty #[v, .string s]).run P w = .ok v' w') : v'.ownBlock = v.ownBlock ∨ v'.ownBlock = some w.heap.size := by
  have hxl : xs.length = n := by simpa using hown.1
  rcases hown.2 with ⟨rfl, rfl⟩ | ⟨g, cap, cur, rfl, hbg, hg, hnc, hcm, hcs, htake⟩
  · by_cases hm : s.size = 0
    · have hf := Lib.run_firstCells_string (P := P) w 1 s
      rw [hm] at hf
      simp [Builtin.append_, run_underlying ht, run_underlying hu, sizeOf, typeInfo, hi, hsize, Builtin.lenOf, hm, hf] at hr
      left; rw [← hr.1]
    · rw [run_append_nil_string (P := P) w t u ty e i (.int .u8 0) ht hu hi hz s (by omega) (by omega) (by rw [hby]; omega)] at hr
      injection hr with h1 h2
      subst h1
      right; rfl
  · by_cases hroom : n + s.size ≤ cap
    · rw [Lib.run_append_room_string (P := P) w t u ty e i ht hu hi hsize g n cap cur hg s hroom (by omega)] at hr
      injection hr with h1 h2
      subst h1
      left; rfl
    · have holds : ∀ j u, xs[j]? = some u → w.cell? ((⟨g, 0, none⟩ : Addr).add j) = some u := World.ownsRow.cells (g := g) hown rfl
      rw [Lib.run_append_grow_string (P := P) w t u ty e i (.int .u8 0) ht hu hi hz ⟨g, 0, none⟩ n cap xs (by rw [hsize]; simpa using hxl) holds s (by omega) (by omega) (by rw [hby]; exact growslice_fits (by omega) (by omega))] at hr
      injection hr with h1 h2
      subst h1
      right; rfl

section
variable {P : Program} (w : World)
theorem wpList_append_string_at {ops : Array Oper} {rest : List Oper} {o : Oper} {a : Act} {Q : Exit → Act → World → Prop} (hgd : o.guard = none) (sl x : Operand) (t u : TypeId)
    (ho : o.op = .call { callee := .builtin .append, args := #[sl, x], argTypes := #[t, u] })
    (e : TypeId) (i : TypeInfo) (ht : P.underlying t = some (.slice e)) (hu : P.underlying u = some .string) (hi : P.info? e = some i) (hz : i.zero = some (.int .u8 0))
    (hsize : i.size = 1) (hby : i.bytes = 1)
    (v : Value) (n : Nat) (xs : List Value) (hs : a.eval sl = v) (hown : w.ownsRow 0 e 1 v n xs) (s : ByteArray) (hx : a.eval x = .string s)
    (hbytes : n + s.size ≤ 140737488355328)
    (h : ∀ v' w', w'.ownsRow 0 e 1 v' (n + s.size) (xs ++ Lib.strCells s) → w.grownBy w' v.ownBlock → (v'.ownBlock = v.ownBlock ∨ v'.ownBlock = some w.heap.size) → wpList P ops Q rest (a.put o.dst v') w') : wpList P ops Q (o :: rest) a w := by
  refine wpList_plain hgd fun K hK => ?_
  obtain ⟨v', w', hr, h2, h3, h4⟩ := Lib.run_append_own_string (P := P) w 0 t u o.type e i ht hu hi hz hsize hby v n xs hown s (by unfold maxLen; omega) hbytes (Nat.zero_le _)
  have h5 := append_string_loc w t u o.type e i ht hu hi hz hsize hby v n xs hown s hbytes v' w' hr
  unfold Oper.wp execOp
  simp only [ho, resolve, invoke, builtin, Sem.run_bind, Sem.run_pure, Result.andThen_ok, List.map_toArray, List.map_cons, List.map_nil, hs, hx, hr]
  exact hK _ _ (h v' w' h2 h3 h5)
end

/-- Bytes as cells. -/
def bcells (l : List UInt8) : List Value := l.map fun b => .int .u8 b.toNat
theorem bcells_append (l m : List UInt8) : bcells (l ++ m) = bcells l ++ bcells m := by simp [bcells]
theorem bcells_str (s : ByteArray) : Lib.strCells s = bcells s.data.toList := by simp [Lib.strCells, bcells]
theorem bcells_length (l : List UInt8) : (bcells l).length = l.length := by simp [bcells]

/-- A Builder in block b that holds l; its blocks are in F. -/
def BldAt (w : World) (F : Nat → Prop) (b : Nat) (l : List UInt8) : Prop :=
  F b ∧ ∃ p v, (p = .pointer none ∨ p = .pointer (some ⟨b, 0, none⟩)) ∧ w.heap[b]? = some (.cells #[p, v] 62 (0, 0)) ∧ w.ownsRow 0 5 1 v l.length (bcells l) ∧ ∀ g, v.ownBlock = some g → F g ∧ g ≠ b

namespace BldAt
variable {w w' : World} {F G : Nat → Prop} {b : Nat} {l : List UInt8}
theorem mono (h : BldAt w F b l) (hs : ∀ k, F k → G k) : BldAt w G b l := by
  obtain ⟨h1, p, v, h2, h3, h4, h5⟩ := h
  exact ⟨hs _ h1, p, v, h2, h3, h4, fun g hg => ⟨hs _ (h5 g hg).1, (h5 g hg).2⟩⟩
theorem lt (h : BldAt w F b l) : b < w.heap.size := by
  obtain ⟨h1, p, v, h2, h3, h4, h5⟩ := h
  exact (Array.getElem?_eq_some_iff.1 h3).1
theorem bound (h : BldAt w F b l) : BldAt w (fun k => F k ∧ k < w.heap.size) b l := by
  have hlt := h.lt
  obtain ⟨h1, p, v, h2, h3, h4, h5⟩ := h
  refine ⟨⟨h1, hlt⟩, p, v, h2, h3, h4, fun g hg => ⟨⟨(h5 g hg).1, ?_⟩, (h5 g hg).2⟩⟩
  rcases h4.2 with ⟨rfl, _⟩ | ⟨g', cap, cur, rfl, _, hh, _⟩
  · simp [Value.ownBlock] at hg
  · simp only [Value.ownBlock, Option.some.injEq] at hg
    subst hg
    exact (Array.getElem?_eq_some_iff.1 hh).1
theorem move (h : BldAt w F b l) (hm : ∀ k, F k → k < w.heap.size → w'.heap[k]? = w.heap[k]?) : BldAt w' F b l := by
  have hb := h.bound
  obtain ⟨h1, p, v, h2, h3, h4, h5⟩ := hb
  refine ⟨h1.1, p, v, h2, (hm _ h1.1 h1.2).trans h3, ?_, fun g hg => ⟨(h5 g hg).1.1, (h5 g hg).2⟩⟩
  obtain ⟨e1, e2⟩ := h4
  refine ⟨e1, ?_⟩
  rcases e2 with e2 | ⟨g, cap, cur, rfl, hg, hh, r⟩
  · exact .inl e2
  · exact .inr ⟨g, cap, cur, rfl, hg, (hm g (h5 g rfl).1.1 (h5 g rfl).1.2).trans hh, r⟩
theorem chg {S : Nat → Prop} (h : BldAt w F b l) (hc : Chg w w' S) (hn : ∀ k, F k → k < w.heap.size → ¬ S k) : BldAt w' F b l := h.move (fun k hk hlt => hc.block k hlt (hn k hk hlt))
theorem made (w : World) (T : Nat → Prop) (hT : T w.heap.size) : BldAt (w.alloc (.cells #[.pointer none, .slice none 0 0] 62)) T w.heap.size [] := by
  refine ⟨hT, .pointer none, .slice none 0 0, .inl rfl, ?_, World.ownsRow_nil _ _ _ _, fun g hg => by simp [Value.ownBlock] at hg⟩
  show (w.heap.push _)[w.heap.size]? = _
  rw [Array.getElem?_push, if_pos rfl]
/-- As the library's own words have it. -/
theorem toLib {B : Nat} (h : BldAt w F b l) (hB : ∀ k, F k → B ≤ k) : Lib.IsBuilder 62 5 B b (Lib.byteCells l) w := by
  obtain ⟨h1, p, v, h2, h3, h4, h5⟩ := h
  have e : Lib.byteCells l = bcells l := by simp [Lib.byteCells, bcells]
  have ho : w.ownsRow B 5 1 v l.length (bcells l) := by
    obtain ⟨e1, e2⟩ := h4
    refine ⟨e1, ?_⟩
    rcases e2 with e2 | ⟨g, cap, cur, rfl, hg, r⟩
    · exact .inl e2
    · exact .inr ⟨g, cap, cur, rfl, hB g (h5 g rfl).1, r⟩
  have hw : Lib.BuilderAt 62 5 B b p (Lib.byteCells l) w := ⟨hB b h1, v, h3, by rw [e, bcells_length]; exact ho, fun hg => (h5 b hg).2 rfl⟩
  rcases h2 with rfl | rfl
  · exact .inl hw
  · exact .inr hw
end BldAt

theorem sizeBld : (Tryz.prog.info? 62).map (·.size) = some 2 := by kernel_rfl
theorem infoU8 : (Tryz.prog.info? 5).map (fun i => (i.zero, i.size, i.bytes)) = some (some (.int .u8 0), 1, 1) := by kernel_rfl
theorem liesBld : liesAt Tryz.prog Tryz.prog.depth 62 (2 / Tryz.prog.cellsOf 62) 0 62 1 = true := by kernel_rfl

set_option maxRecDepth 100000 in
theorem copyCheck_calls (b : Nat) (p v : Value) (w : World) (hp : p = .pointer none ∨ p = .pointer (some ⟨b, 0, none⟩)) (hb : w.heap[b]? = some (.cells #[p, v] 62 (0, 0))) :
    Calls Tryz.prog 27 #[.pointer (some ⟨b, 0, none⟩)] w fun e w' => e = .returned (.tuple #[]) ∧ w'.heap[b]? = some (.cells #[.pointer (some ⟨b, 0, none⟩), v] 62 (0, 0)) ∧ Chg w w' (fun k => k = b) := by
  obtain ⟨j, hj, hjs⟩ := Option.map_eq_some_iff.1 sizeBld
  have h0 : w.cell? ⟨b, 0, none⟩ = some p := by rw [Lib.cell_of_heap hb]; rfl
  have hf : w.frozen? ⟨b, 0, none⟩ = false := Lib.frozen_of_heap hb 0
  have hsh : w.shape? b = some (62, 2) := by simp [World.shape?, hb]
  have HB := Lib.hid hb
  clear hb
  rcases hp with rfl | rfl
  · go_enter Tryz.func27, Tryz.ntmps27
    go_wp2
    rw [Lib.run_to_unsafe w ⟨b, 0, none⟩ Tryz.underlying59 Tryz.underlying85 hj (by rw [hjs]; decide) hsh (Nat.zero_lt_succ 1)]
    simp only [Result.andThen]
    rw [Oper.upon_value]
    go_wp2
    rw [run_callFunc_extern Tryz.func41 (by kernel_rfl) (by kernel_rfl) (by kernel_rfl) (e := Extern.AbiNoEscape.same) (by kernel_rfl)]
    rw [Lib.run_noEscape]
    simp only [Result.andThen]
    rw [Oper.upon_value]
    go_wp2
    rw [Lib.run_from_unsafe w ⟨b, 0, none⟩ Tryz.underlying85 Tryz.underlying59 hj hsh liesBld]
    simp only [Result.andThen]
    rw [Oper.upon_value]
    go_wp2
    go_end0
    refine ⟨rfl, ?_, (Chg.refl w (fun k => k = b)).setCell (p := ⟨b, 0, none⟩) (fun _ => rfl) _⟩
    rw [World.setCell, Array.getElem?_modify, if_pos rfl, HB.out]
    rfl
  · go_enter Tryz.func27, Tryz.ntmps27
    go_wp2
    rw [Lib.run_neq_ptr_same w _ Tryz.underlying59 hj]
    go_wp2
    go_end0
    exact ⟨rfl, HB.out, Chg.refl _ _⟩

/-- Behind a write. -/
theorem BldAt.put {w w1 w2 : World} {F : Nat → Prop} {b n : Nat} {l m : List UInt8} {q v v' : Value} (hF : F b) (hb : w1.heap[b]? = some (.cells #[.pointer (some ⟨b, 0, none⟩), v] 62 (0, 0))) (hc1 : Chg w w1 (fun k => k = b)) (hv : ∀ g, v.ownBlock = some g → F g ∧ g ≠ b) (hbw : b < w.heap.size)
    (hown : w2.ownsRow 0 5 1 v' n (bcells l)) (hn : n = l.length) (hg : w1.grownBy w2 v.ownBlock) (hat : v'.ownBlock = v.ownBlock ∨ v'.ownBlock = some w1.heap.size) :
    BldAt (w2.setCell ⟨b, 1, none⟩ v') (fun k => F k ∨ w.heap.size ≤ k) b l ∧ Chg w (w2.setCell ⟨b, 1, none⟩ v') F := by
  have hb1 : b < w1.heap.size := Nat.lt_of_lt_of_le hbw hc1.size
  have hne : ∀ g, v'.ownBlock = some g → (F g ∨ w.heap.size ≤ g) ∧ g ≠ b := by
    intro g h
    rcases hat with e | e
    · rw [e] at h; exact ⟨.inl (hv g h).1, (hv g h).2⟩
    · rw [e] at h
      injection h with h
      subst h
      exact ⟨.inr hc1.size, by omega⟩
  have hb2 : w2.heap[b]? = some (.cells #[.pointer (some ⟨b, 0, none⟩), v] 62 (0, 0)) := (hg.block b hb1 (fun e => (hv b e.symm).2 rfl)).trans hb
  refine ⟨⟨.inl hF, .pointer (some ⟨b, 0, none⟩), v', .inr rfl, ?_, ?_, hne⟩, ?_⟩
  · rw [World.setCell, Array.getElem?_modify, if_pos rfl, hb2]
    rfl
  · subst hn
    obtain ⟨e1, e2⟩ := hown
    refine ⟨e1, ?_⟩
    rcases e2 with e2 | ⟨g, cap, cur, rfl, hg0, hh, r⟩
    · exact .inl e2
    · exact .inr ⟨g, cap, cur, rfl, hg0, (Below.heap_setCell _ _ _ _ (hne g rfl).2).trans hh, r⟩
  · exact ((hc1.mono (fun k _ e => by subst e; exact hF)).grown hg (fun k hk _ => (hv k hk).1)).setCell (p := ⟨b, 1, none⟩) (fun _ => hF) _

theorem slice_form {w : World} {base n size : Nat} {e : TypeId} {v : Value} {xs : List Value} (h : w.ownsRow base e size v n xs) : ∃ ao n' cap, v = .slice ao n' cap := by
  rcases h.2 with ⟨hv, _⟩ | ⟨g, cap, cur, hv, _⟩
  · exact ⟨_, _, _, hv⟩
  · exact ⟨_, _, _, hv⟩

set_option maxRecDepth 100000 in
theorem writeString_calls (F : Nat → Prop) (b : Nat) (l : List UInt8) (s : ByteArray) (w : World) (h : BldAt w F b l) (hlen : l.length + s.size ≤ 140737488355328) :
    Calls Tryz.prog 19 #[.pointer (some ⟨b, 0, none⟩), .string s] w fun e w' => e = .returned (.tuple #[.int .i64 s.size, .nilIface]) ∧ BldAt w' (fun k => F k ∨ w.heap.size ≤ k) b (l ++ s.data.toList) ∧ Chg w w' F := by
  obtain ⟨i0, hi, hz0, hz1, hz2⟩ := info_parts infoU8
  have hlt := h.lt
  obtain ⟨hF, p, v, hp, hb, hown, hv⟩ := h
  have HB := Lib.hid hb
  clear hb
  have hl : (bcells l).length = l.length := bcells_length l
  go_enter Tryz.func19, Tryz.ntmps19
  go_wp2_with (go_at_call 27; refine (copyCheck_calls b p v _ hp HB.out).mono ?_)
  rintro e w1 ⟨rfl, hb1, hc1⟩
  have hown1 : w1.ownsRow 0 5 1 v l.length (bcells l) := by
    obtain ⟨e1, e2⟩ := hown
    refine ⟨e1, ?_⟩
    rcases e2 with e2 | ⟨g, cap, cur, rfl, hg0, hh, r⟩
    · exact .inl e2
    · exact .inr ⟨g, cap, cur, rfl, hg0, (hc1.block g (Array.getElem?_eq_some_iff.1 hh).1 (hv g rfl).2).trans hh, r⟩
  have c0 : w1.cell? ⟨b, 0, none⟩ = some (.pointer (some ⟨b, 0, none⟩)) := by rw [Lib.cell_of_heap hb1]; rfl
  have c1 : w1.cell? ⟨b, 1, none⟩ = some v := by rw [Lib.cell_of_heap hb1]; rfl
  go_wp2_with (at_builtin; refine wpList_append_string_at _ rfl _ _ 60 9 rfl 5 i0 Tryz.underlying60 Tryz.underlying9 hi hz0 hz1 hz2 _ _ _ rfl hown1 s rfl (by omega) ?_)
  intro v' w2 hown' hgrow hat
  have hform := slice_form hown'
  have hb2 : w2.heap[b]? = some (.cells #[.pointer (some ⟨b, 0, none⟩), v] 62 (0, 0)) := (hgrow.block b (Nat.lt_of_lt_of_le hlt hc1.size) (fun e => (hv b e.symm).2 rfl)).trans hb1
  have d0 : w2.cell? ⟨b, 0, none⟩ = some (.pointer (some ⟨b, 0, none⟩)) := by rw [Lib.cell_of_heap hb2]; rfl
  have d1 : w2.cell? ⟨b, 1, none⟩ = some v := by rw [Lib.cell_of_heap hb2]; rfl
  have f1 : w2.frozen? ⟨b, 1, none⟩ = false := Lib.frozen_of_heap hb2 1
  have hput := BldAt.put (l := l ++ s.data.toList) (m := []) (q := v) hF hb1 hc1 hv hlt (n := l.length + s.size) (by rw [bcells_append, ← bcells_str]; exact hown') (by simp) hgrow hat
  have HP := Lib.hid hput
  clear hput hb2 hb1 hown' hgrow hat hown1 hown hc1 hv
  obtain ⟨ao, n', cap, rfl⟩ := hform
  go_wp2
  go_ret2
  exact ⟨rfl, HP.out⟩

set_option maxRecDepth 100000 in
theorem len_calls (F : Nat → Prop) (b : Nat) (l : List UInt8) (w : World) (h : BldAt w F b l) :
    Calls Tryz.prog 20 #[.pointer (some ⟨b, 0, none⟩)] w fun e w' => e = .returned (.int .i64 l.length) ∧ w = w' := by
  obtain ⟨hF, p, v, hp, hb, hown, hv⟩ := h
  have c1 : w.cell? ⟨b, 1, none⟩ = some v := by rw [Lib.cell_of_heap hb]; rfl
  obtain ⟨ao, cap, rfl⟩ : ∃ ao cap, v = .slice ao l.length cap := by
    rcases hown.2 with ⟨hv, h0⟩ | ⟨g, cap, cur, hv, _⟩
    · exact ⟨none, 0, by rw [hv, h0]⟩
    · exact ⟨_, _, hv⟩
  clear hown hv hb hp
  generalize l.length = n at *
  go_enter Tryz.func20, Tryz.ntmps20
  go_wp2
  go_ret
  exact ⟨rfl, rfl⟩
#print axioms writeString_calls
#print axioms len_calls
end Go.Proofs.YtbilkpioddjlfaaGreatDoor
