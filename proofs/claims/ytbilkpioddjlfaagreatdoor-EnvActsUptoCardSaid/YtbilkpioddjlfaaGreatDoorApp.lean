/- append of a slice that is read onto one of the call's own. No condition but room. -/
import Derived.Test.YtbilkpioddjlfaaGreatDoorEnvM
import Derived.Maps.AppendAt
namespace Go.Proofs.YtbilkpioddjlfaaGreatDoor
open Go.RowKit

theorem run_append_zero {P : Program} (w : World) (t ty e : TypeId) (i : TypeInfo) (ht : P.underlying t = some (.slice e)) (hi : P.info? e = some i) (A B : Option Addr) (n c d : Nat) (hn : n ≤ c) :
    (Builtin.append_ #[t, t] ty #[.slice A n c, .slice B 0 d]).run P w = .ok (.slice A n c) w := by
  cases A <;> cases B <;> simp [Builtin.append_, run_underlying ht, sizeOf, typeInfo, hi, Builtin.lenOf, Builtin.firstCells, loadCells, loadCellsFrom, hn, storeCells]

theorem run_append_rd {P : Program} (w : World) (base : Nat) (F : Nat → Prop) (t ty e : TypeId) (i : TypeInfo) (z : Value) (size bytes : Nat) (ht : P.underlying t = some (.slice e)) (hi : P.info? e = some i) (hz : i.zero = some z)
    (hsize : i.size = size) (hby : i.bytes = bytes) (hzs : z.cells.size = size) (hsz : 0 < size) (v x : Value) (n m : Nat) (xs ys : List Value) (hown : w.ownsRow base e size v n xs) (hx : RdRow w F size m x ys) (h1 : ∀ u ∈ ys, u.oneCell' = true)
    (h63 : n + m ≤ maxLen) (hbytes : (n + m) * bytes ≤ 140737488355328) (hbase : base ≤ w.heap.size) :
    ∃ v' w', (Builtin.append_ #[t, t] ty #[v, x]).run P w = .ok v' w' ∧ w'.ownsRow base e size v' (n + m) (xs ++ ys) ∧ w.grownBy w' v.ownBlock ∧ (v'.ownBlock = v.ownBlock ∨ v'.ownBlock = some w.heap.size) := by
  rcases hx.opened with ⟨rfl, rfl, A, c, rfl⟩ | ⟨hm, b, off, c, rfl, hmc, _, hlt, hcell⟩
  · obtain ⟨A', c', rfl, hnc⟩ : ∃ A' c', v = .slice A' n c' ∧ n ≤ c' := by
      rcases hown.2 with ⟨rfl, rfl⟩ | ⟨g, cap, cur, rfl, _, _, hn, _⟩
      · exact ⟨none, 0, rfl, Nat.le_refl _⟩
      · exact ⟨_, cap, rfl, hn⟩
    refine ⟨_, w, run_append_zero w t ty e i ht hi _ _ _ _ _ hnc, by simpa using hown, ⟨rfl, rfl, rfl, Nat.le_refl _, fun _ _ _ => rfl⟩, .inl rfl⟩
  · have hadd : ∀ j, (⟨b, off, none⟩ : Addr).add j = ⟨b, off + j, none⟩ := fun j => by
      unfold Addr.add
      by_cases h0 : j = 0 <;> simp [h0]
    obtain ⟨v', w', r1, r2, r3, _, r5⟩ := run_append_own_at (P := P) w base t ty e i z size bytes ht hi hz hsize hby hzs hsz v n xs hown ⟨b, off, none⟩ m c ys hx.1 (fun j u hu => by
      have hj : j < m * size := by rw [← hx.1]; exact (List.getElem?_eq_some_iff.1 hu).1
      rw [hadd, hcell j hj]; exact hu) h1 h63 hbytes hbase
    exact ⟨v', w', r1, r2, r3, r5⟩
/-- A run of append, told in a structure that Lean does not unfold. -/
structure AppRun (P : Program) (t ty : TypeId) (sv xv : Value) (w : World) (v : Value) (w' : World) : Prop where
  run : (Builtin.append_ #[t, t] ty #[sv, xv]).run P w = .ok v w'
theorem wpList_append_eq {P : Program} {ops : Array Oper} {rest : List Oper} {o : Oper} {a : Act} {Q : Exit → Act → World → Prop} {w w' : World} {v sv xv : Value} {ty : TypeId} (hgd : o.guard = none) (s x : Operand) (t : TypeId)
    (hop : o.op = Op.call { callee := Callee.builtin Builtin.append, args := #[s, x], argTypes := #[t, t] }) (hr0 : AppRun P t ty sv xv w v w') (ht : o.type = ty) (hs : a.eval s = sv) (hx : a.eval x = xv)
    (hK : wpList P ops Q rest (a.put o.dst v) w') : wpList P ops Q (o :: rest) a w := by
  refine wpList_plain hgd fun K' hK' => ?_
  have hr := hr0.run
  subst ht
  unfold Oper.wp execOp
  simp only [hop, resolve, invoke, builtin, Sem.run_bind, Sem.run_pure, Result.andThen_ok, List.map_toArray, List.map_cons, List.map_nil, hs, hx, hr]
  exact hK' _ _ hK
#print axioms run_append_rd
end Go.Proofs.YtbilkpioddjlfaaGreatDoor
