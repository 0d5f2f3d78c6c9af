/- What a call may have changed (Chg), and what holds in every world that has the same blocks (Rests): plain lemmas on worlds. No condition. -/
import Derived.WalkKit
import Derived.WalkSpells
import Derived.WalkLawsBesides
import Derived.Maps.OwnSet
import Derived.Maps.StringElems
import Derived.Lib.Hide
namespace Go.Proofs.YtbilkpioddjlfaaGreatDoor
open Go.RowKit

/-- w' is w but for the blocks of S, and new ones. -/
structure Chg (w w' : World) (S : Nat → Prop) : Prop where
  os : w'.os = w.os
  tape : w'.tape = w.tape
  output : w'.output = w.output
  size : w.heap.size ≤ w'.heap.size
  block : ∀ k, k < w.heap.size → ¬ S k → w'.heap[k]? = w.heap[k]?

def NoB : Nat → Prop := fun _ => False

namespace Chg
variable {a b c w w' : World} {S T : Nat → Prop}
theorem refl (w : World) (S : Nat → Prop) : Chg w w S := ⟨rfl, rfl, rfl, Nat.le_refl _, fun _ _ _ => rfl⟩
theorem mono (h : Chg a b S) (hs : ∀ k, k < a.heap.size → S k → T k) : Chg a b T := ⟨h.os, h.tape, h.output, h.size, fun k hk hn => h.block k hk (fun s => hn (hs k hk s))⟩
theorem trans (h : Chg a b S) (k : Chg b c T) (hs : ∀ k, k < a.heap.size → T k → S k) : Chg a c S :=
  ⟨k.os.trans h.os, k.tape.trans h.tape, k.output.trans h.output, Nat.le_trans h.size k.size, fun i hi hn => (k.block i (Nat.lt_of_lt_of_le hi h.size) (fun t => hn (hs i hi t))).trans (h.block i hi hn)⟩
theorem alloc (h : Chg a w S) (o : Obj) : Chg a (w.alloc o) S :=
  h.trans (T := S) ⟨rfl, rfl, rfl, by simp, fun k hk _ => Below.heap_alloc _ _ _ hk⟩ (fun _ _ s => s)
theorem drew (h : Chg a w S) : Chg a w.drew S := ⟨h.os, h.tape, h.output, h.size, h.block⟩
theorem drewN (h : Chg a w S) (n : Nat) : Chg a (w.drewN n) S := ⟨h.os, h.tape, h.output, h.size, h.block⟩
theorem setCell (h : Chg a w S) {p : Addr} (hp : p.block < a.heap.size → S p.block) (u : Value) : Chg a (w.setCell p u) S :=
  ⟨h.os, h.tape, h.output, by simpa [World.setCell] using h.size, fun k hk hn => (Below.heap_setCell _ _ _ _ (fun e => hn (by subst e; exact hp hk))).trans (h.block k hk hn)⟩
theorem grown (h : Chg a w S) {row : Option Nat} (hg : w.grownBy w' row) (hr : ∀ k, row = some k → k < a.heap.size → S k) : Chg a w' S :=
  ⟨hg.os.trans h.os, hg.tape.trans h.tape, hg.output.trans h.output, Nat.le_trans h.size hg.size, fun k hk hn => (hg.block k (Nat.lt_of_lt_of_le hk h.size) (fun e => hn (hr k e.symm hk))).trans (h.block k hk hn)⟩
theorem ofGrown {row : Option Nat} (hg : w.grownBy w' row) : Chg w w' (fun k => row = some k) := (refl w _).grown hg (fun _ e _ => e)
theorem ofBelow (h : Below w.heap.size w w') : Chg w w' NoB := ⟨h.os, h.tape, h.output, h.size, fun k hk _ => h.block k hk⟩
theorem toBelow {B : Nat} (h : Chg w w' S) (hB : B ≤ w.heap.size) (hs : ∀ k, k < B → ¬ S k) : Below B w w' := ⟨h.os, h.tape, h.output, h.size, fun k hk => h.block k (by omega) (hs k hk)⟩
theorem below (h : Chg w w' NoB) : Below w.heap.size w w' := h.toBelow (Nat.le_refl _) (fun _ _ e => e)
theorem cell (h : Chg w w' S) {p : Addr} (hp : p.block < w.heap.size) (hn : ¬ S p.block) : w'.cell? p = w.cell? p := World.cell?_of_block (w := w) (h.block p.block hp hn)
theorem frozen (h : Chg w w' S) {p : Addr} (hp : p.block < w.heap.size) (hn : ¬ S p.block) : w'.frozen? p = w.frozen? p := World.frozen?_of_block (w := w) (h.block p.block hp hn)
theorem no (h : Chg w w' NoB) : Chg w w' S := h.mono (fun _ _ f => f.elim)
end Chg

/-- A contract whose frame is told from an elder world on. -/
theorem calls_since {P : Program} {f : FuncId} {args : Array Value} {w0 w : World} {Q : Ending → Prop} {S : Nat → Prop} (h : Calls P f args w fun e w' => Q e ∧ Chg w w' S) (hc : Chg w0 w S) : Calls P f args w fun e w' => Q e ∧ Chg w0 w' S :=
  h.mono fun _ _ ⟨hq, hc'⟩ => ⟨hq, hc.trans hc' (fun _ _ s => s)⟩

/-- A slice that is read: its cells, and the block they lie in. -/
def RdRow (w : World) (F : Nat → Prop) (sz n : Nat) (v : Value) (cs : List Value) : Prop :=
  cs.length = n * sz ∧ ∃ A c, v = .slice A n c ∧ n ≤ c ∧ (0 < n → ∃ b off, A = some ⟨b, off, none⟩ ∧ F b ∧ b < w.heap.size ∧ ∀ j, j < n * sz → w.cell? ⟨b, off + j, none⟩ = cs[j]?)
namespace RdRow
variable {w w' : World} {F G : Nat → Prop} {sz n : Nat} {v : Value} {cs : List Value}
theorem mono (h : RdRow w F sz n v cs) (hs : ∀ k, F k → k < w.heap.size → G k) : RdRow w G sz n v cs := by
  obtain ⟨h0, A, c, rfl, h1, h2⟩ := h
  refine ⟨h0, A, c, rfl, h1, fun hn => ?_⟩
  obtain ⟨b, off, e, hF, hlt, hc⟩ := h2 hn
  exact ⟨b, off, e, hs b hF hlt, hlt, hc⟩
theorem move (h : RdRow w F sz n v cs) (hm : ∀ k, F k → k < w.heap.size → w'.heap[k]? = w.heap[k]?) : RdRow w' F sz n v cs := by
  obtain ⟨h0, A, c, rfl, h1, h2⟩ := h
  refine ⟨h0, A, c, rfl, h1, fun hn => ?_⟩
  obtain ⟨b, off, e, hF, hlt, hc⟩ := h2 hn
  have hb := hm b hF hlt
  refine ⟨b, off, e, hF, ?_, fun j hj => (World.cell?_of_block (w := w) hb).trans (hc j hj)⟩
  rw [Array.getElem?_eq_getElem hlt] at hb
  exact (Array.getElem?_eq_some_iff.1 hb).1
theorem chg {S : Nat → Prop} (h : RdRow w F sz n v cs) (hc : Chg w w' S) (hn : ∀ k, F k → k < w.heap.size → ¬ S k) : RdRow w' F sz n v cs := h.move (fun k hk hlt => hc.block k hlt (hn k hk hlt))
theorem bound (h : RdRow w F sz n v cs) : RdRow w (fun k => F k ∧ k < w.heap.size) sz n v cs := by
  obtain ⟨h0, A, c, rfl, h1, h2⟩ := h
  refine ⟨h0, A, c, rfl, h1, fun hn => ?_⟩
  obtain ⟨b, off, e, hF, hlt, hc⟩ := h2 hn
  exact ⟨b, off, e, ⟨hF, hlt⟩, hlt, hc⟩
/-- Opened: nothing in it, or where it lies. -/
theorem opened (h : RdRow w F sz n v cs) : (n = 0 ∧ cs = [] ∧ ∃ A c, v = .slice A 0 c) ∨ (0 < n ∧ ∃ b off c, v = .slice (some ⟨b, off, none⟩) n c ∧ n ≤ c ∧ F b ∧ b < w.heap.size ∧ ∀ j, j < n * sz → w.cell? ⟨b, off + j, none⟩ = cs[j]?) := by
  obtain ⟨h0, A, c, rfl, h1, h2⟩ := h
  rcases Nat.eq_zero_or_pos n with rfl | hn
  · exact .inl ⟨rfl, List.eq_nil_of_length_eq_zero (by simpa using h0), A, c, rfl⟩
  · obtain ⟨b, off, rfl, hF, hlt, hc⟩ := h2 hn
    exact .inr ⟨hn, b, off, c, rfl, h1, hF, hlt, hc⟩
/-- .. at a known address. -/
theorem at_ {bb off c : Nat} (h : RdRow w F sz n (.slice (some ⟨bb, off, none⟩) n c) cs) (hn : 0 < n) : F bb ∧ bb < w.heap.size ∧ ∀ j, j < n * sz → w.cell? ⟨bb, off + j, none⟩ = cs[j]? := by
  obtain ⟨h0, A, c', e, h1, h2⟩ := h
  obtain ⟨b, off', e', hF, hlt, hc⟩ := h2 hn
  subst e'
  injection e with e1 e2 e3
  injection e1 with e1
  injection e1 with e4 e5
  subst e4; subst e5
  exact ⟨hF, hlt, hc⟩
/-- Where it lies: nowhere, or at a known address. -/
theorem where_ (h : RdRow w F sz n v cs) : (n = 0 ∧ ∃ A c, v = .slice A n c) ∨ (0 < n ∧ ∃ bb off c, v = .slice (some ⟨bb, off, none⟩) n c) := by
  rcases h.opened with ⟨rfl, _, A, c, rfl⟩ | ⟨hn, b, off, c, rfl, _⟩
  · exact .inl ⟨rfl, A, c, rfl⟩
  · exact .inr ⟨hn, b, off, c, rfl⟩
theorem nil (w : World) (F : Nat → Prop) (sz : Nat) (A : Option Addr) (c : Nat) : RdRow w F sz 0 (.slice A 0 c) [] := ⟨by simp, A, c, rfl, Nat.zero_le _, fun h => absurd h (by omega)⟩
/-- What the call owns is read so. -/
theorem ofOwn {base e : Nat} (h : w.ownsRow base e sz v n cs) (hsz : 0 < sz) (hF : ∀ g, v.ownBlock = some g → F g) : RdRow w F sz n v cs := by
  obtain ⟨h1, h2⟩ := h
  rcases h2 with ⟨rfl, rfl⟩ | ⟨g, cap, cur, rfl, hg, hh, hn, hm, hs, ht⟩
  · obtain rfl : cs = [] := List.eq_nil_of_length_eq_zero (by simpa using h1)
    exact nil _ _ _ _ _
  · refine ⟨h1, _, _, rfl, hn, fun _ => ⟨g, 0, rfl, hF g rfl, (Array.getElem?_eq_some_iff.1 hh).1, fun j hj => ?_⟩⟩
    rw [Nat.zero_add, ← ht, List.getElem?_take_of_lt hj]
    simp [World.cell?, hh]
end RdRow
/-- A text, as Go has it. -/
def str (l : List UInt8) : ByteArray := ⟨l.toArray⟩
theorem str_data (s : ByteArray) : str s.data.toList = s := by simp [str]
theorem data_str (l : List UInt8) : (str l).data.toList = l := by simp [str]
theorem str_size (l : List UInt8) : (str l).size = l.length := by simp [str, ByteArray.size]
#print axioms Chg.trans
#print axioms RdRow.ofOwn
end Go.Proofs.YtbilkpioddjlfaaGreatDoor
