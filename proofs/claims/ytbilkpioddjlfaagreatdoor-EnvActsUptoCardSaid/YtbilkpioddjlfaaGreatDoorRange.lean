/- A range over an iterator that writes memory of its own between two rounds (it sorts, it ranges over another iterator): its contract (SeqC), and the law of the loop. By the kit's wpIn_rangeFunc. No condition. -/
import Derived.Test.YtbilkpioddjlfaaGreatDoorBase
import Derived.RangeFuncNested
import Derived.RangeFuncBound
import Derived.RangeFuncCalls
import Derived.RangeFuncLeaves
import Derived.RangeFuncBox
import Derived.RangeFuncWrites
import Derived.Shelf.Abstract
namespace Go.Proofs.YtbilkpioddjlfaaGreatDoor
open Go.RowKit

/-- The iterator's own blocks are those from its start on and below M; they are its alone; the rounds write others. -/
def SeqC {α : Type} (F : Fence) (n : Nat) (P : Program) (g : Nat) (lb : Array Value) (encs : α → Array Value) (S Sp : List α → Prop) (N : Nat) (w : World) : Prop :=
  ∀ (l : Nat) (J Jx : Nat → List α → World → Prop) (W : World), Below w.heap.size w W →
    (∀ M pre W1 W2, J M pre W1 → Chg W1 W2 (fun k => W.heap.size ≤ k ∧ k < M) → J M pre W2) →
    (∀ M pre W1 W2, Jx M pre W1 → Chg W1 W2 (fun k => W.heap.size ≤ k ∧ k < M) → Jx M pre W2) →
    (∀ M pre x W1, J M pre W1 → pre.length < N → YieldAt F (n - 1) P l (encs x) W1 fun e W' =>
      Chg W1 W' (fun k => ¬ (W.heap.size ≤ k ∧ k < M)) ∧ ((e = .returned (.bool true) ∧ J M (pre ++ [x]) W') ∨ (e = .returned (.bool false) ∧ Jx M (pre ++ [x]) W'))) →
    (∀ M W', Chg W W' NoB → W'.heap.size = M → J M [] W') →
    CallsIn F n P g (#[.func (.yield l) #[] #[]] ++ lb) W fun e W' => (∃ v, e = .returned v) ∧ ∃ M, (∃ xs, S xs ∧ J M xs W') ∨ (∃ pre, Sp pre ∧ Jx M pre W')

theorem Chg.putObj {a w : World} {S : Nat → Prop} (h : Chg a w S) (l : Nat) (o : Obj) (hl : l < a.heap.size → S l) : Chg a (w.putObj l o) S :=
  h.grown (grownBy_putObj' w l o) (fun k e hk => by cases e; exact hl hk)

/-- How a round's body may be left. -/
def postC {α : Type} (I : Nat → List α → World → Prop) (Ix : Code → Nat → List α → World → Prop) (B M : Nat) (xs : List α) (W : World) : Exit → Act → World → Prop
  | .normal, _, W' => Chg W W' (fun k => ¬ (B ≤ k ∧ k < M)) ∧ I M xs W'
  | .ret, _, W' => Chg W W' (fun k => ¬ (B ≤ k ∧ k < M)) ∧ Ix .ret M xs W'
  | .exit id, _, W' => Chg W W' (fun k => ¬ (B ≤ k ∧ k < M)) ∧ Ix (.exit id) M xs W'
  | .goto t, _, W' => Chg W W' (fun k => ¬ (B ≤ k ∧ k < M)) ∧ Ix (.goto t) M xs W'
  | .panic _, _, _ => False
  | .outgrown, _, _ => False

variable {F : Fence} {n : Nat} {P : Program}
theorem wpIn_rangeFunc_chg {α : Type} {g : Operand} {ps : Array Tmp} {assign body : Code} {Q : Exit → Act → World → Prop} {a : Act} {w : World}
    (hro : F.round = none) (h1 : 1 ≤ n) {gf : Nat} {lb : Array Value} (hg : a.eval g = .func (.func gf) #[] lb) (hFg : F.fn gf) (eg : ∀ args w, (callFunc gf args).run P w = .ok (.enter gf args) w)
    {encs : α → Array Value} {S Sp : List α → Prop} {N : Nat} (hseq : SeqC F (n - 1) P gf lb encs S Sp N w) (hps : ∀ x, (encs x).size = ps.size)
    (I : Nat → List α → World → Prop) (Ix : Code → Nat → List α → World → Prop)
    (hI : ∀ M pre W1 W2, I M pre W1 → Chg W1 W2 (fun k => w.heap.size ≤ k ∧ k < M) → I M pre W2)
    (hIx : ∀ c M pre W1 W2, Ix c M pre W1 → Chg W1 W2 (fun k => w.heap.size ≤ k ∧ k < M) → Ix c M pre W2)
    (h0 : ∀ M W', Chg w W' NoB → W'.heap.size = M → I M [] W') (a₁ : α → Act)
    (hassign : ∀ (l : Nat) (x : α) (W : World) (K : Act → World → Prop), K (a₁ x) W →
      assign.wpIn (F.inRound l) (n - 1 - 1) P (Exit.then K (fun _ _ _ => False)) { tmps := (ps.zip (encs x)).foldl (fun t (p, v) => t.setIfInBounds p v) a.tmps, defers := [] } W)
    (hbody : ∀ (l M : Nat) (pre : List α) (x : α) (W : World), w.heap.size + 2 ≤ M → M ≤ W.heap.size → I M pre W → pre.length < N → body.wpIn (F.inRound l) (n - 1 - 1) P (postC I Ix w.heap.size M (pre ++ [x]) W) (a₁ x) W)
    (hdone : ∀ (M : Nat) (xs : List α) (W : World), S xs → w.heap.size + 2 ≤ M → I M xs W → W.heap[w.heap.size]? = some (.deferred (some [])) → Q .normal { a with defers := { target := .collected w.heap.size, args := #[] } :: a.defers } W)
    (hstop : ∀ (c : Code) (M : Nat) (pre : List α) (W : World), Sp pre → w.heap.size + 2 ≤ M → Ix c M pre W → W.heap[w.heap.size]? = some (.deferred (some [])) → c.wpIn F n P Q { a with defers := { target := .collected w.heap.size, args := #[] } :: a.defers } W) :
    (Code.rangeFunc g ps assign body).wpIn F n P Q a w := by
  refine wpIn_rangeFunc ?_
  intro fn hfn
  rw [hro]
  obtain ⟨rec, hrec⟩ : ∃ rec : LoopState → Option Code → Loop, rec = fun st pe => { state := st, pending := pe, fn, tmps := a.tmps, params := ps, assign, body, defers := w.heap.size } := ⟨_, rfl⟩
  obtain ⟨W1, hW1⟩ : ∃ W1, (w.alloc (.deferred (some []))).alloc (.loop (rec .ready none)) = W1 := ⟨_, rfl⟩
  have hL1 : W1.heap[w.heap.size + 1]? = some (.loop (rec .ready none)) := by
    rw [← hW1]; have := World.alloc_heap_new (w.alloc (.deferred (some []))) (.loop (rec .ready none)); rwa [World.size_alloc] at this
  have hK1 : W1.heap[w.heap.size]? = some (.deferred (some [])) := by
    rw [← hW1]; exact (Below.heap_alloc _ _ _ (by simp)).trans (World.alloc_heap_new w _)
  have hs1 : W1.heap.size = w.heap.size + 2 := by rw [← hW1]; simp
  have hc1 : Chg w W1 NoB := by rw [← hW1]; exact ((Chg.refl w NoB).alloc _).alloc _
  refine ⟨w.heap.size + 1, [{ target := .collected w.heap.size, args := #[] }], W1, { target := .fn (.func gf) lb, args := #[.func (.yield (w.heap.size + 1)) #[] #[]] }, W1, gf,
    #[.func (.yield (w.heap.size + 1)) #[] #[]] ++ lb, W1, ?_, ?_, ?_, ?_, fun _ => h1, ?_⟩
  · rw [← hW1, hrec]; exact run_enterLoop_outer _ _ _ _ _
  · simp only [resolve, hg]
    simp [go_sem]
  · intro f' hf'; simp [Target.leads] at hf'; subst hf'; exact hFg
  · simp [invoke, go_sem, eg]
  · refine (hseq (w.heap.size + 1)
      (fun M pre W => (w.heap.size + 2 ≤ M ∧ M ≤ W.heap.size) ∧ I M pre W ∧ W.heap[w.heap.size + 1]? = some (.loop (rec .ready none)) ∧ W.heap[w.heap.size]? = some (.deferred (some [])))
      (fun M pre W => w.heap.size + 2 ≤ M ∧ ∃ c, Ix c M pre W ∧ W.heap[w.heap.size + 1]? = some (.loop (rec .done (some c))) ∧ W.heap[w.heap.size]? = some (.deferred (some [])))
      W1 hc1.below
      (fun M pre A B hs hc => by
        obtain ⟨hM, hi, hl, hk⟩ := hs
        rw [hs1] at hc
        exact ⟨⟨hM.1, Nat.le_trans hM.2 hc.size⟩, hI _ _ _ _ hi (hc.mono (fun k _ h => ⟨by omega, h.2⟩)), (hc.block _ (Array.getElem?_eq_some_iff.1 hl).1 (by omega)).trans hl, (hc.block _ (Array.getElem?_eq_some_iff.1 hk).1 (by omega)).trans hk⟩)
      (fun M pre A B hs hc => by
        obtain ⟨hM, c, hi, hl, hk⟩ := hs
        rw [hs1] at hc
        exact ⟨hM, c, hIx _ _ _ _ _ hi (hc.mono (fun k _ h => ⟨by omega, h.2⟩)), (hc.block _ (Array.getElem?_eq_some_iff.1 hl).1 (by omega)).trans hl, (hc.block _ (Array.getElem?_eq_some_iff.1 hk).1 (by omega)).trans hk⟩)
      ?_ ?_).mono ?_
    · -- one round
      rintro M pre x W ⟨⟨hM1, hM2⟩, hi, hl, hk⟩ hlen
      rw [hs1]
      have hlt : w.heap.size + 1 < W.heap.size := (Array.getElem?_eq_some_iff.1 hl).1
      have hy := run_yield (P := P) (args := encs x) hl (by rw [hrec]; exact hps x)
      rw [hrec] at hy
      refine ⟨fn, _, assign, body, hy, roundIn_of_wpIn hfn (hassign _ x W _ ⟨_, run_beginRound hl (by rw [hrec]), ?_⟩)⟩
      have hl2 : (W.putObj (w.heap.size + 1) (.loop { rec .ready none with state := .busy })).heap[w.heap.size + 1]? = some (.loop { rec .ready none with state := .busy }) := World.putObj_heap_same hlt
      have hk2 : (W.putObj (w.heap.size + 1) (.loop { rec .ready none with state := .busy })).heap[w.heap.size]? = some (.deferred (some [])) := (World.putObj_heap_other (by omega)).trans hk
      have hs2 : W.heap.size ≤ (W.putObj (w.heap.size + 1) (.loop { rec .ready none with state := .busy })).heap.size := by simp
      have hi2 := hI M pre _ _ hi ((Chg.refl W _).putObj (w.heap.size + 1) (.loop { rec .ready none with state := .busy }) (fun _ => ⟨by omega, by omega⟩))
      refine wpIn_mono (hbody _ M pre x _ hM1 (Nat.le_trans hM2 hs2) hi2 hlen) ?_
      have fin : ∀ (jump : Option Code) (W3 : World), Chg (W.putObj (w.heap.size + 1) (.loop { rec .ready none with state := .busy })) W3 (fun k => ¬ (w.heap.size ≤ k ∧ k < M)) →
          (Instr.endRound (w.heap.size + 1) jump).run P W3 = .ok (.bool jump.isNone) (W3.putObj (w.heap.size + 1) (.loop (rec (if jump.isNone then .ready else .done) jump))) ∧
          Chg W (W3.putObj (w.heap.size + 1) (.loop (rec (if jump.isNone then .ready else .done) jump))) (fun k => ¬ (w.heap.size + 2 ≤ k ∧ k < M)) ∧
          Chg W3 (W3.putObj (w.heap.size + 1) (.loop (rec (if jump.isNone then .ready else .done) jump))) (fun k => w.heap.size ≤ k ∧ k < M) ∧
          (W3.putObj (w.heap.size + 1) (.loop (rec (if jump.isNone then .ready else .done) jump))).heap[w.heap.size + 1]? = some (.loop (rec (if jump.isNone then .ready else .done) jump)) ∧
          (W3.putObj (w.heap.size + 1) (.loop (rec (if jump.isNone then .ready else .done) jump))).heap[w.heap.size]? = some (.deferred (some [])) := fun jump W3 hk3 => by
        have hl3 := (hk3.block (w.heap.size + 1) (by omega) (by omega)).trans hl2
        have := run_endRound (P := P) jump hl3
        rw [hrec] at this ⊢
        refine ⟨this, ?_, (Chg.refl W3 _).putObj _ _ (fun _ => ⟨by omega, by omega⟩), World.putObj_heap_same (Array.getElem?_eq_some_iff.1 hl3).1, (World.putObj_heap_other (by omega)).trans ((hk3.block _ (by omega) (by omega)).trans hk2)⟩
        exact (((Chg.refl W (fun k => ¬ (w.heap.size + 2 ≤ k ∧ k < M))).putObj _ _ (fun _ => by omega)).trans hk3 (fun k _ h h' => h ⟨by omega, h'.2⟩)).putObj _ _ (fun _ => by omega)
      rintro e a3 W3 hp
      cases e with
      | normal =>
        obtain ⟨hk3, hi3⟩ := hp
        obtain ⟨hr, hc, hc', hl4, hk4⟩ := fin none W3 hk3
        exact ⟨_, _, hr, hc, .inl ⟨rfl, ⟨hM1, Nat.le_trans hM2 (Nat.le_trans hs2 (Nat.le_trans hk3.size hc'.size))⟩, hI _ _ _ _ hi3 hc', hl4, hk4⟩⟩
      | ret =>
        obtain ⟨hk3, hi3⟩ := hp
        obtain ⟨hr, hc, hc', hl4, hk4⟩ := fin (some .ret) W3 hk3
        exact ⟨_, _, hr, hc, .inr ⟨rfl, hM1, .ret, hIx _ _ _ _ _ hi3 hc', hl4, hk4⟩⟩
      | exit id =>
        obtain ⟨hk3, hi3⟩ := hp
        obtain ⟨hr, hc, hc', hl4, hk4⟩ := fin (some (.exit id)) W3 hk3
        exact ⟨_, _, hr, hc, .inr ⟨rfl, hM1, .exit id, hIx _ _ _ _ _ hi3 hc', hl4, hk4⟩⟩
      | goto t =>
        obtain ⟨hk3, hi3⟩ := hp
        obtain ⟨hr, hc, hc', hl4, hk4⟩ := fin (some (.goto t)) W3 hk3
        exact ⟨_, _, hr, hc, .inr ⟨rfl, hM1, .goto t, hIx _ _ _ _ _ hi3 hc', hl4, hk4⟩⟩
      | panic ch => exact hp.elim
      | outgrown => exact hp.elim
    · rintro M W' hc hM
      refine ⟨⟨by rw [← hM, ← hs1]; exact hc.size, by omega⟩, h0 _ _ (hc1.trans hc (fun _ _ h => h)) hM, (hc.block _ (by omega) (fun f => f)).trans hL1, (hc.block _ (by omega) (fun f => f)).trans hK1⟩
    · rintro e W2 ⟨⟨v, rfl⟩, M, (⟨xs, hS, ⟨hM, _⟩, hi, hl, hk⟩ | ⟨pre, hSp, hM, c, hi, hl, hk⟩)⟩
      · exact ⟨none, _, by have := run_endLoop (P := P) hl (by rw [hrec]; simp); rw [hrec] at this; exact this, hdone M xs _ hS hM (hI _ _ _ _ hi ((Chg.refl W2 _).putObj _ _ (fun _ => ⟨by omega, by omega⟩))) ((World.putObj_heap_other (by omega)).trans hk)⟩
      · exact ⟨some c, _, by have := run_endLoop (P := P) hl (by rw [hrec]; simp); rw [hrec] at this; exact this, hstop c M pre _ hSp hM (hIx _ _ _ _ _ hi ((Chg.refl W2 _).putObj _ _ (fun _ => ⟨by omega, by omega⟩))) ((World.putObj_heap_other (by omega)).trans hk)⟩
#print axioms wpIn_rangeFunc_chg
end Go.Proofs.YtbilkpioddjlfaaGreatDoor
