/- Plain facts on worlds (what a call leaves as it was), used by all walks of this seat. No condition. -/
import Derived.WalkKit
import Derived.WalkSpells
import Derived.WalkLawsBesides
import Derived.Lib.Hide
import Derived.Laws.BytesArg
namespace Go.Proofs.Ytabglpkoklajlaa
open Go.RowKit

/-- From w to w' no block but those of S has turned; new blocks may lie behind. -/
structure Same (S : List Nat) (w w' : World) : Prop where
  os : w'.os = w.os
  tape : w'.tape = w.tape
  output : w'.output = w.output
  size : w.heap.size ≤ w'.heap.size
  block : ∀ k, k < w.heap.size → k ∉ S → w'.heap[k]? = w.heap[k]?

theorem Same.refl (S : List Nat) (w : World) : Same S w w := ⟨rfl, rfl, rfl, Nat.le_refl _, fun _ _ _ => rfl⟩
theorem Same.trans {S T : List Nat} {a b c : World} (h : Same S a b) (k : Same T b c) (hT : ∀ x, x ∈ T → x < a.heap.size → x ∈ S) : Same S a c :=
  ⟨k.os.trans h.os, k.tape.trans h.tape, k.output.trans h.output, Nat.le_trans h.size k.size,
   fun i hi hS => (k.block i (Nat.lt_of_lt_of_le hi h.size) (fun hm => hS (hT i hm hi))).trans (h.block i hi hS)⟩
theorem Same.mono {S T : List Nat} {a b : World} (h : Same S a b) (hT : ∀ x, x ∈ S → x < a.heap.size → x ∈ T) : Same T a b :=
  ⟨h.os, h.tape, h.output, h.size, fun i hi hS => h.block i hi (fun hm => hS (hT i hm hi))⟩
theorem Same.trans_nil {S : List Nat} {a b c : World} (h : Same S a b) (k : Same [] b c) : Same S a c := h.trans k (fun x hx => by simp at hx)
theorem Same.drew {S : List Nat} {a b : World} (h : Same S a b) : Same S a b.drew := ⟨h.os, h.tape, h.output, h.size, h.block⟩
theorem Same.alloc {S : List Nat} {a b : World} (h : Same S a b) (o : Obj) : Same S a (b.alloc o) :=
  h.trans_nil ⟨rfl, rfl, rfl, by simp, fun k hk _ => Below.heap_alloc _ _ _ hk⟩
theorem Same.setCell {S : List Nat} {a b : World} (h : Same S a b) {p : Addr} (hp : p.block < a.heap.size → p.block ∈ S) (u : Value) : Same S a (b.setCell p u) :=
  h.trans (T := [p.block]) ⟨rfl, rfl, rfl, by simp [World.setCell], fun k _ hS => Below.heap_setCell _ _ _ _ (fun e => hS (by simp [e]))⟩
    (fun x hx hlt => by simp at hx; subst hx; exact hp hlt)
theorem Same.grown {S : List Nat} {a b c : World} {row : Option Nat} (h : Same S a b) (hg : b.grownBy c row) (hr : ∀ k, row = some k → k < a.heap.size → k ∈ S) : Same S a c :=
  h.trans (T := row.toList) ⟨hg.os, hg.tape, hg.output, hg.size, fun k hk hS => hg.block k hk (fun e => hS (by simp [← e]))⟩
    (fun x hx hlt => by simp at hx; exact hr x hx hlt)
theorem Same.below {S : List Nat} {a b : World} (h : Same S a b) {B : Nat} (hB : B ≤ a.heap.size) (hS : ∀ x, x ∈ S → B ≤ x) : Below B a b :=
  ⟨h.os, h.tape, h.output, h.size, fun k hk => h.block k (by omega) (fun hm => by have := hS k hm; omega)⟩
theorem Same.below_nil {a b : World} (h : Same [] a b) : Below a.heap.size a b := h.below (Nat.le_refl _) (fun x hx => by simp at hx)
theorem Same.of_below {a b : World} (h : Below a.heap.size a b) : Same [] a b := ⟨h.os, h.tape, h.output, h.size, fun k hk _ => h.block k hk⟩
theorem Same.heap {S : List Nat} {a b : World} (h : Same S a b) {k : Nat} {o : Obj} (ho : a.heap[k]? = some o) (hS : k ∉ S) : b.heap[k]? = some o :=
  (h.block k (Array.getElem?_eq_some_iff.1 ho).1 hS).trans ho
theorem Same.cell {S : List Nat} {a b : World} (h : Same S a b) {p : Addr} {v : Value} (hp : a.cell? p = some v) (hS : p.block ∉ S) : b.cell? p = some v :=
  (World.cell?_of_block (h.block p.block (World.block_lt_of_cell? a p hp) hS)).trans hp
theorem Same.frozen {S : List Nat} {a b : World} (h : Same S a b) {p : Addr} (hp : p.block < a.heap.size) (hS : p.block ∉ S) : b.frozen? p = a.frozen? p :=
  World.frozen?_of_block (h.block p.block hp hS)

theorem heap_lt {w : World} {k : Nat} {o : Obj} (h : w.heap[k]? = some o) : k < w.heap.size := (Array.getElem?_eq_some_iff.1 h).1
theorem cell_of {w : World} {b : Nat} {c : Array Value} {e : TypeId} {f : Nat × Nat} (h : w.heap[b]? = some (.cells c e f)) (i : Nat) : w.cell? ⟨b, i, none⟩ = c[i]? := by simp [World.cell?, h]
theorem free_of {w : World} {b : Nat} {c : Array Value} {e : TypeId} (h : w.heap[b]? = some (.cells c e (0, 0))) (i : Nat) : w.frozen? ⟨b, i, none⟩ = false := by simp [World.frozen?, h]
theorem set_same {w : World} {b i : Nat} {c : Array Value} {e : TypeId} {f : Nat × Nat} (h : w.heap[b]? = some (.cells c e f)) (u : Value) :
    (w.setCell ⟨b, i, none⟩ u).heap[b]? = some (.cells (c.setIfInBounds i u) e f) := by simp [World.setCell, Array.getElem?_modify, h]
theorem set_other {w : World} {b i k : Nat} (u : Value) (h : k ≠ b) : (w.setCell ⟨b, i, none⟩ u).heap[k]? = w.heap[k]? := Below.heap_setCell _ _ _ _ h
theorem size_set (w : World) (p : Addr) (u : Value) : (w.setCell p u).heap.size = w.heap.size := by simp [World.setCell]
theorem drew_heap (w : World) : w.drew.heap = w.heap := rfl

def u8s (l : List Nat) : List Value := l.map fun (n : Nat) => Value.int .u8 (n : Int)
def strOf (l : List Nat) : ByteArray := ⟨(l.map UInt8.ofNat).toArray⟩
theorem size_strOf (l : List Nat) : (strOf l).size = l.length := by simp [strOf, ByteArray.size]

/-- 'string(b)' of a row of bytes that the program has made itself. -/
theorem own_string {P : Program} {w : World} {base src dst e n : Nat} {v : Value} {l : List Nat} (hs : P.underlying src = some (.slice e)) (he : P.underlying e = some (.int .u8)) (hd : P.underlying dst = some .string)
    (h : w.ownsRow base e 1 v n (u8s l)) : (convert src dst v).run P w = .ok (.string (strOf l)) w := by
  have hlen : l.length = n := by simpa [u8s] using h.1
  rcases h.2 with ⟨rfl, h0⟩ | ⟨g, cap, cur, rfl, _, hg, hnc, hcm, hcs, ht⟩
  · have : l = [] := List.eq_nil_of_length_eq_zero (by omega)
    subst this
    exact run_convert_bytes_nil w src e hs he 0 0 dst hd
  · rw [run_convert_bytes_arg w src e hs he g 0 n cap (l.map fun (n : Nat) => (n : Int)) (by simp [hlen]) (fun i hi => ?_) dst hd]
    · simp [strOfNums, strOf, Function.comp_def]
    · rw [cell_of hg, Nat.zero_add, ← Array.getElem?_toList]
      have h1 := congrArg (fun z => z[i]?) ht
      simp only [List.getElem?_take] at h1
      rw [if_pos (by omega)] at h1
      rw [h1]
      simp [u8s, List.getD_eq_getElem?_getD, List.getElem?_map, List.getElem?_eq_getElem (show i < l.length by omega)]

theorem row_new (w : World) (c : Array Value) (e n : Nat) (h : c.size = n) (hm : n ≤ maxLen) :
    (w.alloc (.cells c e)).ownsRow 0 e 1 (.slice (some ⟨w.heap.size, 0, none⟩) n n) n c.toList :=
  ⟨by simp [h], .inr ⟨w.heap.size, n, c, rfl, Nat.zero_le _, heap_alloc_new w _, Nat.le_refl _, hm, by simp [h], by rw [List.take_of_length_le (by simp [h])]⟩⟩

/-- What a call answers, and that nothing that lay has turned. -/
def Ret (v : Value) (w : World) (e : Ending) (w' : World) : Prop := e = .returned v ∧ Same [] w w'
theorem Ret.mk {v : Value} {w w' : World} {e : Ending} (h : e = .returned v) (h' : Same [] w w') : Ret v w e w' := ⟨h, h'⟩

end Go.Proofs.Ytabglpkoklajlaa
