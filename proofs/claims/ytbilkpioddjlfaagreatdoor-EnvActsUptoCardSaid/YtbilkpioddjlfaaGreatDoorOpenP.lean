/- A law's argument that is a slice of acts, opened with the parts of their words; how long a part's text may be under the second form's bound. No condition. -/
import Derived.Test.YtbilkpioddjlfaaGreatDoorOpenA
import Derived.Test.YtbilkpioddjlfaaGreatDoorBulk
import Derived.Test.YtbilkpioddjlfaaGreatDoorActsW
namespace Go.Proofs.YtbilkpioddjlfaaGreatDoor
open Go Go.RowKit Go.ChangeShapes Go.WideShapes Go.Deep Go.Joins

theorem bulk_agg {H : Type} {d : DataW H} {l : List (DataW H)} (h : d ∈ l) : Rows.uptoBulk d ≤ Rows.uptoBulk (.agg l) := by
  have := bulk_mem h
  simp only [Rows.uptoBulk]
  omega
theorem bulk_slice {H : Type} {d : DataW H} {l sp : List (DataW H)} (h : d ∈ l) : Rows.uptoBulk d ≤ Rows.uptoBulk (.slice l sp) := by
  have := bulk_mem h
  simp only [Rows.uptoBulk]
  omega
theorem bulk_part {H : Type} (b : Bool) (s : List UInt8) : s.length ≤ Rows.uptoBulk (.agg [.lit (.bool b), .lit (.string s)] : DataW H) := by
  simp only [Rows.uptoBulk, Rows.uptoBulkAll]
  omega

section
variable {H : Type} {enc : TypeId × Value → H} {w : World} {base : Nat} {spare : Nat → Bool} {held : Bool}
set_option maxRecDepth 100000 in
theorem elem_actP {n : Nat} {cs : List Value} {x : DataW H × List MemPlace} (h : DataW.trod enc Tryz.prog w base spare held n 35 cs = some x) :
    ∃ a : ActV, cs = actC a ∧ ∃ ps : List PartV, a.pn = ps.length ∧ RdRow w (fun _ => True) 2 ps.length (.slice a.pa a.pn a.pc) (partsC ps) ∧ ∀ p ∈ ps, p.2.size ≤ Rows.uptoBulk x.1 := by
  obtain ⟨a, hcs, -, -, -⟩ := elem_act h
  refine ⟨a, hcs, ?_⟩
  obtain ⟨xs, k, _, hx, hl, hxl, hf⟩ := DataW.trod_struct Tryz.underlying35 h
  subst hcs
  obtain ⟨y, hy⟩ : ∃ y, xs[3]? = some y := ⟨xs[3]'(by rw [hxl]; decide), List.getElem?_eq_getElem _⟩
  have h3 : DataW.trod enc Tryz.prog w base spare held k 33 (((actC a).drop 3).take (Tryz.prog.cellsOf 33)) = some y := (hf 3 _ rfl).trans hy
  rw [cells_word] at h3
  have h3' : DataW.trod enc Tryz.prog w base spare held k 33 [.int .i64 a.ats, .int .i64 a.kd, .slice a.pa a.pn a.pc] = some y := h3
  obtain ⟨zs, k2, _, hy2, hl2, hzl, hg⟩ := DataW.trod_struct Tryz.underlying33 h3'
  obtain ⟨z, hz⟩ : ∃ z, zs[2]? = some z := ⟨zs[2]'(by rw [hzl]; decide), List.getElem?_eq_getElem _⟩
  have g2 : DataW.trod enc Tryz.prog w base spare held k2 31 (([.int .i64 a.ats, .int .i64 a.kd, .slice a.pa a.pn a.pc].drop 2).take (Tryz.prog.cellsOf 31)) = some z := (hg 2 _ rfl).trans hz
  rw [cells_parts] at g2
  have g2' : DataW.trod enc Tryz.prog w base spare held k2 31 [.slice a.pa a.pn a.pc] = some z := g2
  obtain ⟨ps, r1, r2, r3⟩ := open_rowS (d := z.1) (p := z.2) (v := .slice a.pa a.pn a.pc) (f := partC) (sz := 2) (G := fun a dx => a.2.size ≤ maxLen ∧ dx = .agg [.lit (.bool a.1), .lit (.string a.2.data.toList)]) (fun _ => rfl) (by decide) Tryz.underlying31 cells_part ⟨_, _, _, rfl⟩ ⟨k2, by simpa [Value.cells] using g2'⟩ (fun _ _ _ hx => elem_part hx)
  refine ⟨ps, ?_, r1, fun p hp => ?_⟩
  · obtain ⟨_, A, c, e, _⟩ := r1
    injection e
  · obtain ⟨dx, els, sp, e, hm, _, hdx⟩ := r3 p hp
    have b0 := bulk_part (H := H) p.1 p.2.data.toList
    have b1 := bulk_slice (sp := sp) hm
    rw [hdx] at b1
    rw [← e] at b1
    have m2 : z.1 ∈ zs.map (·.1) := List.mem_map.2 ⟨z, List.mem_of_getElem? hz, rfl⟩
    have b2 := bulk_agg m2
    have m3 : y.1 ∈ xs.map (·.1) := List.mem_map.2 ⟨y, List.mem_of_getElem? hy, rfl⟩
    have b3 := bulk_agg m3
    have e2 : y.1 = .agg (zs.map (·.1)) := by rw [hy2]
    have e3 : x.1 = .agg (xs.map (·.1)) := by rw [hx]
    rw [← e2] at b2
    rw [← e3] at b3
    have h2 : p.2.data.toList.length = p.2.size := Array.length_toList
    omega
set_option maxRecDepth 100000 in
/-- []Act, with the parts. -/
theorem open_actsP {r : Reach} {b0 : Nat} {v : Value} {d : DataW H} {p : List MemPlace} (hv : Value.okWide Tryz.prog w r b0 22 v) (h : DataW.Trod enc Tryz.prog w base spare held 22 v d p) {ds : List (DataW H)} (hk : Rows.uptoSmall H ds = true) (hd : d ∈ ds) :
    ∃ l : List ActV, RdRow w (fun _ => True) 6 l.length v (actsC l) ∧ l.length ≤ maxLen ∧ ∀ a ∈ l, PartsOk w a := by
  obtain ⟨l, h1, h2, h3⟩ := open_row (f := actC) (sz := 6) (fun _ => rfl) (by decide) (G := fun a dx => ∃ ps : List PartV, a.pn = ps.length ∧ RdRow w (fun _ => True) 2 ps.length (.slice a.pa a.pn a.pc) (partsC ps) ∧ ∀ p ∈ ps, p.2.size ≤ Rows.uptoBulk dx) Tryz.underlying22 cells_act hv h (fun n cs x hx => elem_actP hx)
  refine ⟨l, h1, h2, fun a ha => ?_⟩
  obtain ⟨dx, els, sp, e, hm, ps, hn, hr, hs⟩ := h3 a ha
  refine ⟨ps, hn, hr, fun p hp => ?_⟩
  have b0 : Rows.uptoBulkAll ds ≤ 1048576 := of_decide_eq_true hk
  have b1 := bulk_mem hd
  have b2 := bulk_slice (sp := sp) hm
  rw [← e] at b2
  have := hs p hp
  omega
#print axioms open_actsP
end
end Go.Proofs.YtbilkpioddjlfaaGreatDoor
