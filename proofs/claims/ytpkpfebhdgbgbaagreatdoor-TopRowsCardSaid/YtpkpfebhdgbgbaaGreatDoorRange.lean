/- A range over a function that runs to its end, whose iterator keeps a state in blocks of its own: one law for the loop, one shape for the iterator's contract. Condition: no round leaves the loop. -/
import Derived.Test.YtpkpfebhdgbgbaaGreatDoorOpenPkts
import Derived.RangeFuncNested
import Derived.RangeFuncBound
import Derived.RangeFuncCalls
import Derived.RangeFuncLeaves
namespace Go.Proofs.YtpkpfebhdgbgbaaGreatDoor
open Go.RowKit
set_option linter.unusedVariables false

def PutKeeps (own : List Nat) (W W' : World) : Prop := ∀ k, k ∈ own → W'.heap[k]? = W.heap[k]?

/-- The iterator gives just xs, in order; 'own' are the blocks that hold its state. -/
def SeqFull {α : Type} (P : Program) (gf : FuncId) (lb : Array Value) (encs : α → Array Value) (xs : List α) (own : List Nat) (w0 : World) : Prop :=
  ∀ (l : Nat) (J : List α → World → Prop) (W : World), Same [] w0 W → (∀ pre A B, J pre A → Same own A B → J pre B) →
    (∀ pre x W, J pre W → (pre ++ [x]) <+: xs → YieldAt Fence.wide 0 P l (encs x) W fun e W' => e = .returned (.bool true) ∧ J (pre ++ [x]) W' ∧ PutKeeps own W W') →
    J [] W → CallsIn Fence.wide 0 P gf (#[.func (.yield l) #[] #[]] ++ lb) W fun e W' => (∃ v, e = .returned v) ∧ J xs W'

def roundEnd {α : Type} (own : List Nat) (D : Nat) (I : List α → World → Prop) (pre : List α) (W : World) : Exit → Act → World → Prop
  | .normal, _, W' => I pre W' ∧ PutKeeps (D :: (D + 1) :: own) W W'
  | _, _, _ => False

theorem same_putObj (W : World) (l : Nat) (o : Obj) (S : List Nat) (hl : l ∈ S) : Same S W (W.putObj l o) :=
  ⟨rfl, rfl, rfl, by simp, fun k _ hk => World.putObj_heap_other (fun e => hk (e ▸ hl))⟩

theorem wp_rangeFull {α : Type} {P : Program} {g : Operand} {ps : Array Tmp} {assign body : Code} {Q : Exit → Act → World → Prop} {a : Act} {w : World}
    {D : Nat} (hDw : w.heap.size = D) {gf : Nat} {lb : Array Value} (hg : a.eval g = .func (.func gf) #[] lb) (eg : ∀ args w, (callFunc gf args).run P w = .ok (.enter gf args) w)
    {encs : α → Array Value} {xs : List α} {own : List Nat} (hseq : SeqFull P gf lb encs xs own w) (hps : ∀ x, (encs x).size = ps.size) (hown : ∀ k, k ∈ own → k < w.heap.size)
    (I : List α → World → Prop) (hI : ∀ pre A B, I pre A → Same (D :: (D + 1) :: own) A B → I pre B)
    (h0 : ∀ W, Same [] w W → D + 2 ≤ W.heap.size → I [] W)
    (hround : ∀ (l : Nat) (pre : List α) (x : α) (W : World), I pre W → (pre ++ [x]) <+: xs →
      assign.wpIn (Fence.wide.inRound l) 0 P (Exit.then (fun a' W' => W' = W ∧ ∀ W2, I pre W2 → D + 2 ≤ W2.heap.size → body.wpIn (Fence.wide.inRound l) 0 P (roundEnd own D I (pre ++ [x]) W2) a' W2) (fun _ _ _ => False))
        { tmps := (ps.zip (encs x)).foldl (fun t (p, v) => t.setIfInBounds p v) a.tmps, defers := [] } W)
    (hdone : ∀ W, I xs W → W.heap[D]? = some (.deferred (some [])) → Q .normal { a with defers := { target := .collected D, args := #[] } :: a.defers } W) :
    (Code.rangeFunc g ps assign body).wpIn Fence.wide 0 P Q a w := by
  subst hDw
  refine wpIn_rangeFunc ?_
  intro fn hfn
  rw [show Fence.wide.round = none from rfl]
  obtain ⟨rec, hrec⟩ : ∃ rec : LoopState → Option Code → Loop, rec = fun st pe => { state := st, pending := pe, fn, tmps := a.tmps, params := ps, assign, body, defers := w.heap.size } := ⟨_, rfl⟩
  obtain ⟨W1, hW1⟩ : ∃ W1, (w.alloc (.deferred (some []))).alloc (.loop (rec .ready none)) = W1 := ⟨_, rfl⟩
  have hL1 : W1.heap[w.heap.size + 1]? = some (.loop (rec .ready none)) := by
    rw [← hW1]; have := World.alloc_heap_new (w.alloc (.deferred (some []))) (.loop (rec .ready none)); rwa [World.size_alloc] at this
  have hK1 : W1.heap[w.heap.size]? = some (.deferred (some [])) := by
    rw [← hW1]; exact (Below.heap_alloc _ _ _ (by simp)).trans (World.alloc_heap_new w _)
  have hs1 : Same [] w W1 := by rw [← hW1]; exact ((Same.refl _ w).alloc _).alloc _
  have hz1 : w.heap.size + 2 ≤ W1.heap.size := by rw [← hW1]; simp
  refine ⟨w.heap.size + 1, [{ target := .collected w.heap.size, args := #[] }], W1, { target := .fn (.func gf) lb, args := #[.func (.yield (w.heap.size + 1)) #[] #[]] }, W1, gf,
    #[.func (.yield (w.heap.size + 1)) #[] #[]] ++ lb, W1, ?_, ?_, ?_, ?_, fun h => by simp [Fence.wide] at h, ?_⟩
  · rw [← hW1, hrec]; exact run_enterLoop_outer _ _ _ _ _
  · simp only [resolve, hg]
    simp [go_sem]
  · intro f' hf'; trivial
  · simp [invoke, go_sem, eg]
  · have key := hseq (w.heap.size + 1)
      (fun pre W => I pre W ∧ w.heap.size + 2 ≤ W.heap.size ∧ W.heap[w.heap.size + 1]? = some (.loop (rec .ready none)) ∧ W.heap[w.heap.size]? = some (.deferred (some [])))
      W1 hs1 (fun pre A B hj hs => ⟨hI pre A B hj.1 (hs.mono (fun x hx _ => by simp [hx])), Nat.le_trans hj.2.1 hs.size,
        hs.heap hj.2.2.1 (fun hm => by have := hown _ hm; omega), hs.heap hj.2.2.2 (fun hm => by have := hown _ hm; omega)⟩) ?_ ⟨h0 W1 hs1 hz1, hz1, hL1, hK1⟩
    · refine key.mono ?_
      rintro e W2 ⟨⟨v, rfl⟩, hi, hz, hl, hk⟩
      refine ⟨none, _, by have := run_endLoop (P := P) hl (by rw [hrec]; simp); rw [hrec] at this; exact this, hdone _ (hI _ _ _ hi (same_putObj _ _ _ _ (by simp))) ((World.putObj_heap_other (by omega)).trans hk)⟩
    · rintro pre x W ⟨hi, hz, hl, hk⟩ hpre
      have hlt : w.heap.size + 1 < W.heap.size := heap_lt hl
      have hy := run_yield (P := P) (args := encs x) hl (by rw [hrec]; exact hps x)
      rw [hrec] at hy
      refine ⟨fn, _, assign, body, hy, roundIn_of_wpIn trivial (wpIn_mono (hround _ pre x W hi hpre) ?_)⟩
      rintro e a1 Wa hp
      cases e with
      | ret => exact hp.elim
      | exit id => exact hp.elim
      | goto t => exact hp.elim
      | panic ch => exact hp.elim
      | outgrown => exact hp.elim
      | normal =>
      obtain ⟨rfl, hb⟩ := hp
      refine ⟨_, run_beginRound hl (by rw [hrec]), ?_⟩
      have hs2 : Same (w.heap.size :: (w.heap.size + 1) :: own) Wa (Wa.putObj (w.heap.size + 1) (.loop { rec .ready none with state := .busy })) := same_putObj _ _ _ _ (by simp)
      refine wpIn_mono (hb _ (hI _ _ _ hi hs2) (by simpa using hz)) ?_
      rintro e a3 W3 hp
      cases e with
      | normal =>
        obtain ⟨hi3, hkeep⟩ := hp
        have hl3 : W3.heap[w.heap.size + 1]? = some (.loop { rec .ready none with state := .busy }) := (hkeep _ (by simp)).trans (World.putObj_heap_same hlt)
        have hk3 : W3.heap[w.heap.size]? = some (.deferred (some [])) := ((hkeep _ (by simp)).trans (World.putObj_heap_other (by omega))).trans hk
        have hr := run_endRound (P := P) none hl3
        rw [hrec] at hr hl3
        have hlt3 := heap_lt hl3
        refine ⟨_, _, hr, rfl, ⟨hI _ _ _ hi3 (same_putObj _ _ _ _ (by simp)), by simp; omega, by rw [hrec]; exact World.putObj_heap_same hlt3, (World.putObj_heap_other (by omega)).trans hk3⟩, ?_⟩
        intro k hkm
        have hne : k ≠ w.heap.size + 1 := by have := hown k hkm; omega
        exact (World.putObj_heap_other hne).trans ((hkeep k (by simp [hkm])).trans (World.putObj_heap_other hne))
      | ret => exact hp.elim
      | exit id => exact hp.elim
      | goto t => exact hp.elim
      | panic ch => exact hp.elim
      | outgrown => exact hp.elim

end Go.Proofs.YtpkpfebhdgbgbaaGreatDoor
