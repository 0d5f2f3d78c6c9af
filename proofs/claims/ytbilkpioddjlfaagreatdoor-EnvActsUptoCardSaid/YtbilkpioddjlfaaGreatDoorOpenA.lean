/- A law's argument that is a slice of structs, opened: acts, parts. No condition. -/
import Derived.Test.YtbilkpioddjlfaaGreatDoorOpen
import Derived.Test.YtbilkpioddjlfaaGreatDoorActs
namespace Go.Proofs.YtbilkpioddjlfaaGreatDoor
open Go Go.RowKit Go.ChangeShapes Go.WideShapes Go.Deep Go.Joins

theorem pick_all {α : Type} {P : Nat → α → Prop} : ∀ (n : Nat), (∀ i, i < n → ∃ a, P i a) → ∃ l : List α, l.length = n ∧ ∀ (i : Nat) (h : i < l.length), P i l[i]
  | 0, _ => ⟨[], rfl, fun i h => absurd h (by simp)⟩
  | n + 1, h => by
    obtain ⟨l, hl, hp⟩ := pick_all n (fun i hi => h i (by omega))
    obtain ⟨a, ha⟩ := h n (by omega)
    refine ⟨l ++ [a], by simp [hl], fun i hi => ?_⟩
    by_cases hin : i < l.length
    · rw [List.getElem_append_left hin]; exact hp i hin
    · have : i = l.length := by simp at hi; omega
      subst this
      rw [List.getElem_append_right (Nat.le_refl _)]
      simpa [hl] using ha
theorem flat_length {α : Type} {f : α → List Value} {sz : Nat} (hf : ∀ a, (f a).length = sz) (l : List α) : (l.flatMap f).length = l.length * sz := by
  induction l with
  | nil => simp
  | cons a l ih => rw [List.flatMap_cons, List.length_append, hf, ih, List.length_cons, Nat.succ_mul]; omega
theorem flat_get {α : Type} {f : α → List Value} {sz : Nat} (hf : ∀ a, (f a).length = sz) : ∀ (l : List α) (i j : Nat) (h : i < l.length), j < sz → (l.flatMap f)[i * sz + j]? = (f l[i])[j]?
  | [], _, _, h, _ => absurd h (by simp)
  | a :: l, 0, j, _, hj => by
    rw [List.flatMap_cons, Nat.zero_mul, Nat.zero_add, List.getElem?_append_left (by rw [hf]; exact hj)]; rfl
  | a :: l, i + 1, j, h, hj => by
    rw [List.flatMap_cons, List.getElem?_append_right (by rw [hf, Nat.succ_mul]; omega), hf]
    have e : (i + 1) * sz + j - sz = i * sz + j := by rw [Nat.succ_mul]; omega
    rw [e]
    exact flat_get hf l i j (by simpa using h) hj

section
variable {H : Type} {enc : TypeId × Value → H} {w : World} {base : Nat} {spare : Nat → Bool} {held : Bool}
set_option maxRecDepth 100000 in
theorem open_rowS {α : Type} {f : α → List Value} {sz : Nat} (hf : ∀ a, (f a).length = sz) (hsz : 0 < sz) {G : α → DataW H → Prop} {t e : TypeId} {v : Value} {d : DataW H} {p : List MemPlace}
    (ht : Tryz.prog.underlying t = some (.slice e)) (hC : Tryz.prog.cellsOf e = sz) (hv : ∃ A n c, v = .slice A n c) (h : DataW.Trod enc Tryz.prog w base spare held t v d p)
    (hel : ∀ (n : Nat) (cs : List Value) (x : DataW H × List MemPlace), DataW.trod enc Tryz.prog w base spare held n e cs = some x → ∃ a, cs = f a ∧ G a x.1) :
    ∃ l : List α, RdRow w (fun _ => True) sz l.length v (l.flatMap f) ∧ l.length ≤ maxLen ∧ ∀ a ∈ l, ∃ dx els sp, d = .slice els sp ∧ dx ∈ els ∧ G a dx := by
  obtain ⟨ao, ln, cp, rfl⟩ := hv
  obtain ⟨fuel, hfu⟩ := h
  rcases open_slice ht hfu with ⟨hcs, _⟩ | ⟨a, len, cap, m, n, D, Pl, hcs, hb, hl, hm, hmm, hx, hi⟩
  · have e1 : ln = 0 := by simp [Value.cells] at hcs; exact hcs.2.1
    subst e1
    exact ⟨[], RdRow.nil _ _ _ _ _, Nat.zero_le _, fun a ha => by simp at ha⟩
  · have e1 : ao = some a ∧ ln = len ∧ cp = cap := by simpa [Value.cells] using hcs
    obtain ⟨rfl, rfl, rfl⟩ := e1
    have hlm : ln ≤ m := by rw [hmm]; split <;> omega
    have hall : ∀ i, i < ln → ∃ x : α, G x (D i) ∧ ∀ j, j < sz → w.cell? (a.add (i * sz + j)) = (f x)[j]? := fun i hil => by
      obtain ⟨cs', hc, htr⟩ := hi i (by omega)
      obtain ⟨x, rfl, hg⟩ := hel _ _ _ htr
      rw [hC] at hc
      obtain ⟨_, _, hat⟩ := World.cells?_some hc
      exact ⟨x, hg, fun j hj => by rw [← add_add]; exact hat j hj⟩
    obtain ⟨l, hll, hp⟩ := pick_all ln hall
    refine ⟨l, ⟨flat_length hf l, some a, cp, by rw [hll], by omega, fun hpos => ?_⟩, by omega, fun x hx' => ?_⟩
    · have h0 := (hp 0 hpos).2 0 hsz
      have h00 : w.cell? a = (f (l[0]'hpos))[0]? := by
        have e0 : a.add (0 * sz + 0) = a := by simp [Addr.add]
        rw [e0] at h0; exact h0
      have hsome : ∃ u, w.cell? a = some u := by
        rw [h00, List.getElem?_eq_getElem (by rw [hf]; exact hsz)]; exact ⟨_, rfl⟩
      obtain ⟨u, hu⟩ := hsome
      obtain ⟨ab, ao, sp⟩ := a
      have hs : sp = none := by
        cases sp with
        | none => rfl
        | some s =>
          simp [World.cell?] at hu
          split at hu <;> cases hu
      subst hs
      refine ⟨ab, ao, rfl, trivial, World.block_lt_of_cell? _ _ hu, fun j hj => ?_⟩
      have hq : j / sz < l.length := by rw [Nat.div_lt_iff_lt_mul hsz]; omega
      have hm2 : j % sz < sz := Nat.mod_lt _ hsz
      have e2 : j / sz * sz + j % sz = j := by rw [Nat.mul_comm]; exact Nat.div_add_mod _ _
      have h1 := (hp _ hq).2 _ hm2
      rw [← flat_get hf l _ _ hq hm2, e2] at h1
      have e3 : (⟨ab, ao, none⟩ : Addr).add j = ⟨ab, ao + j, none⟩ := by
        unfold Addr.add
        by_cases h0 : j = 0 <;> simp [h0]
      rw [e3] at h1
      exact h1
    · obtain ⟨i, hi', rfl⟩ := List.mem_iff_getElem.1 hx'
      exact ⟨D i, _, _, (Prod.ext_iff.1 hx).1, List.mem_map.2 ⟨i, List.mem_range.2 (by omega), rfl⟩, (hp i hi').1⟩

set_option maxRecDepth 100000 in
theorem open_row {α : Type} {f : α → List Value} {sz : Nat} (hf : ∀ a, (f a).length = sz) (hsz : 0 < sz) {G : α → DataW H → Prop} {r : Reach} {b0 : Nat} {t e : TypeId} {v : Value} {d : DataW H} {p : List MemPlace}
    (ht : Tryz.prog.underlying t = some (.slice e)) (hC : Tryz.prog.cellsOf e = sz) (hv : Value.okWide Tryz.prog w r b0 t v) (h : DataW.Trod enc Tryz.prog w base spare held t v d p)
    (hel : ∀ (n : Nat) (cs : List Value) (x : DataW H × List MemPlace), DataW.trod enc Tryz.prog w base spare held n e cs = some x → ∃ a, cs = f a ∧ G a x.1) :
    ∃ l : List α, RdRow w (fun _ => True) sz l.length v (l.flatMap f) ∧ l.length ≤ maxLen ∧ ∀ a ∈ l, ∃ dx els sp, d = .slice els sp ∧ dx ∈ els ∧ G a dx :=
  open_rowS hf hsz ht hC (okWide_slice ht hv) h hel

theorem field_at {t : TypeId} {fs : Array Field} {n : Nat} {cs : List Value} {x : DataW H × List MemPlace} (ht : Tryz.prog.underlying t = some (.struct fs)) (h : DataW.trod enc Tryz.prog w base spare held n t cs = some x) :
    cs.length = Tryz.prog.cellsOf t ∧ ∀ (i : Nat) (f : Field) (u : TypeId) (o c : Nat), fs[i]? = some f → f.type = u → f.offset = o → Tryz.prog.cellsOf u = c → ∃ k y, DataW.trod enc Tryz.prog w base spare held k u ((cs.drop o).take c) = some y := by
  obtain ⟨xs, k, _, _, hl, hxl, hf⟩ := DataW.trod_struct ht h
  refine ⟨hl, fun i f u o c hi hu ho hc => ?_⟩
  subst hu; subst ho; subst hc
  have hil : i < xs.length := by rw [hxl]; exact (Array.getElem?_eq_some_iff.1 hi).1
  exact ⟨k, xs[i], (hf i f hi).trans (List.getElem?_eq_getElem hil)⟩

theorem cells_act : Tryz.prog.cellsOf 35 = 6 := by kernel_rfl
theorem cells_word : Tryz.prog.cellsOf 33 = 3 := by kernel_rfl
theorem cells_int : Tryz.prog.cellsOf 3 = 1 := by kernel_rfl
theorem cells_str : Tryz.prog.cellsOf 9 = 1 := by kernel_rfl
theorem cells_bool : Tryz.prog.cellsOf 4 = 1 := by kernel_rfl
theorem cells_part : Tryz.prog.cellsOf 52 = 2 := by kernel_rfl
theorem cells_parts : Tryz.prog.cellsOf 31 = 1 := by kernel_rfl

set_option maxRecDepth 100000 in
theorem elem_part {n : Nat} {cs : List Value} {x : DataW H × List MemPlace} (h : DataW.trod enc Tryz.prog w base spare held n 52 cs = some x) : ∃ a : PartV, cs = partC a ∧ a.2.size ≤ maxLen ∧ x.1 = .agg [.lit (.bool a.1), .lit (.string a.2.data.toList)] := by
  obtain ⟨xs, k, _, hx, hl, hxl, hf⟩ := DataW.trod_struct Tryz.underlying52 h
  rw [cells_part] at hl
  match cs, hl, xs, hxl with
  | [c0, c1], _, [y0, y1], _ =>
    have h0 := hf 0 _ rfl
    have h1 := hf 1 _ rfl
    have h0' : DataW.trod enc Tryz.prog w base spare held k 4 ([c0, c1].take (Tryz.prog.cellsOf 4)) = some y0 := h0
    have h1' : DataW.trod enc Tryz.prog w base spare held k 9 ([c1].take (Tryz.prog.cellsOf 9)) = some y1 := h1
    rw [cells_bool] at h0'
    rw [cells_str] at h1'
    simp only [List.take] at h0' h1'
    obtain ⟨b, hb, e0⟩ := DataW.trod_bool Tryz.underlying4 h0'
    obtain ⟨s, hs, e1, hsz⟩ := DataW.trod_string Tryz.underlying9 h1'
    cases hb; cases hs
    subst hx e0 e1
    exact ⟨(b, s), rfl, hsz, rfl⟩
set_option maxRecDepth 100000 in
theorem elem_act {n : Nat} {cs : List Value} {x : DataW H × List MemPlace} (h : DataW.trod enc Tryz.prog w base spare held n 35 cs = some x) :
    ∃ a : ActV, cs = actC a ∧ a.name.size ≤ maxLen ∧ a.value.size ≤ maxLen ∧ ∃ n' y, DataW.trod enc Tryz.prog w base spare held n' 31 [.slice a.pa a.pn a.pc] = some y := by
  obtain ⟨hl, hf⟩ := field_at Tryz.underlying35 h
  rw [cells_act] at hl
  match cs, hl with
  | [c0, c1, c2, c3, c4, c5], _ =>
    obtain ⟨k0, y0, h0⟩ := hf 0 _ 3 0 1 rfl rfl rfl cells_int
    obtain ⟨k1, y1, h1⟩ := hf 1 _ 9 1 1 rfl rfl rfl cells_str
    obtain ⟨k2, y2, h2⟩ := hf 2 _ 9 2 1 rfl rfl rfl cells_str
    obtain ⟨k3, y3, h3⟩ := hf 3 _ 33 3 3 rfl rfl rfl cells_word
    simp only [List.drop, List.take] at h0 h1 h2 h3
    obtain ⟨-, hg⟩ := field_at Tryz.underlying33 h3
    obtain ⟨j0, z0, g0⟩ := hg 0 _ 3 0 1 rfl rfl rfl cells_int
    obtain ⟨j1, z1, g1⟩ := hg 1 _ 3 1 1 rfl rfl rfl cells_int
    obtain ⟨j2, z2, g2⟩ := hg 2 _ 31 2 1 rfl rfl rfl cells_parts
    simp only [List.drop, List.take] at g0 g1 g2
    obtain ⟨i0, e0, -⟩ := DataW.trod_int Tryz.underlying3 h0
    obtain ⟨s1, e1, -, z1'⟩ := DataW.trod_string Tryz.underlying9 h1
    obtain ⟨s2, e2, -, z2'⟩ := DataW.trod_string Tryz.underlying9 h2
    obtain ⟨i3, e3, -⟩ := DataW.trod_int Tryz.underlying3 g0
    obtain ⟨i4, e4, -⟩ := DataW.trod_int Tryz.underlying3 g1
    obtain ⟨A, m, c, e5⟩ := slice_form' Tryz.underlying31 g2
    cases e0; cases e1; cases e2; cases e3; cases e4; cases e5
    exact ⟨⟨i0, s1, s2, i3, i4, A, m, c⟩, rfl, z1', z2', j2, z2, g2⟩
set_option maxRecDepth 100000 in
/-- []Act. -/
theorem open_acts {r : Reach} {b0 : Nat} {v : Value} {d : DataW H} {p : List MemPlace} (hv : Value.okWide Tryz.prog w r b0 22 v) (h : DataW.Trod enc Tryz.prog w base spare held 22 v d p) :
    ∃ l : List ActV, RdRow w (fun _ => True) 6 l.length v (actsC l) ∧ l.length ≤ maxLen := by
  obtain ⟨l, h1, h2, _⟩ := open_row (f := actC) (sz := 6) (fun _ => rfl) (by decide) (G := fun _ _ => True) Tryz.underlying22 cells_act hv h (fun n cs x hx => by obtain ⟨a, ha, _⟩ := elem_act hx; exact ⟨a, ha, trivial⟩)
  exact ⟨l, h1, h2⟩
set_option maxRecDepth 100000 in
/-- []api.Part. -/
theorem open_parts {r : Reach} {b0 : Nat} {v : Value} {d : DataW H} {p : List MemPlace} (hv : Value.okWide Tryz.prog w r b0 31 v) (h : DataW.Trod enc Tryz.prog w base spare held 31 v d p) :
    ∃ l : List PartV, RdRow w (fun _ => True) 2 l.length v (partsC l) ∧ l.length ≤ maxLen ∧ ∀ x ∈ l, ∃ dx els sp, d = .slice els sp ∧ dx ∈ els ∧ x.2.size ≤ maxLen ∧ dx = .agg [.lit (.bool x.1), .lit (.string x.2.data.toList)] :=
  open_row (f := partC) (sz := 2) (fun _ => rfl) (by decide) Tryz.underlying31 cells_part hv h (fun _ _ _ hx => elem_part hx)
#print axioms open_acts
#print axioms open_parts
end
end Go.Proofs.YtbilkpioddjlfaaGreatDoor
