/- Slices of bytes that a call has made itself, and strings made of them. No condition. -/
import Derived.Test.YtdkjcocpkgojaaaDoorHPs1
import Derived.Test.YtdkjcocpkgojaaaDoorSlices
namespace Go.Proofs.YtdkjcocpkgojaaaDoor
open Go.RowKit
set_option linter.unusedSimpArgs false
set_option linter.unusedVariables false

def u8l (l : List UInt8) : List Value := l.map u8v
theorem u8l_length (l : List UInt8) : (u8l l).length = l.length := by simp [u8l]
theorem u8l_app (a b : List UInt8) : u8l (a ++ b) = u8l a ++ u8l b := by simp [u8l]
theorem u8l_nums (l : List UInt8) : u8l l = u8s (l.map UInt8.toNat) := by simp [u8l, u8s, u8v, Function.comp_def]
theorem strOf_nums (l : List UInt8) : strOf (l.map UInt8.toNat) = bs l := by
  unfold strOf bs
  rw [List.map_map]
  congr 1
  have : (UInt8.ofNat ∘ UInt8.toNat) = id := by funext a; simp
  rw [this, List.map_id]
/-- A slice of bytes of the call's own: from block B on. -/
def OwnB (B : Nat) (w : World) (v : Value) (l : List UInt8) : Prop := w.ownsRow B 5 1 v l.length (u8l l)
theorem OwnB.nil (B : Nat) (w : World) : OwnB B w (.slice none 0 0) [] := World.ownsRow_nil _ _ _ _
theorem OwnB.str {B : Nat} {w : World} {v : Value} {l : List UInt8} (h : OwnB B w v l) : (convert 38 9 v).run Tryd.prog w = .ok (.string (bs l)) w := by
  unfold OwnB at h
  rw [u8l_nums] at h
  have := own_string (P := Tryd.prog) (src := 38) (dst := 9) Tryd.underlying38 Tryd.underlying5 Tryd.underlying9 h
  rwa [strOf_nums] at this
/-- An append has been carried out. -/
theorem OwnB.grow {B : Nat} {w wr w2 : World} {v v' : Value} {l m : List UInt8} (ho : OwnB B wr v l) (hB : w.heap.size ≤ B) (hs : Same [] w wr)
    (hown : w2.ownsRow B 5 1 v' (l.length + m.length) (u8l l ++ u8l m)) (hg : wr.grownBy w2 v.ownBlock) : OwnB B w2 v' (l ++ m) ∧ Same [] w w2 := by
  refine ⟨?_, hs.trans (Same.of_grown hg) fun x hx hlt => ?_⟩
  · unfold OwnB; rw [List.length_append, u8l_app]; exact hown
  · have := (World.ownsRow.lt ho x (by simpa using hx)).1
    omega
theorem OwnB.alloc {B : Nat} {w : World} {v : Value} {l : List UInt8} (h : OwnB B w v l) (o : Obj) : OwnB B (w.alloc o) v l := World.ownsRow.alloc h o
theorem OwnB.drew {B : Nat} {w : World} {v : Value} {l : List UInt8} (h : OwnB B w v l) : OwnB B w.drew v l := h
theorem OwnB.lt {B : Nat} {w : World} {v : Value} {l : List UInt8} (h : OwnB B w v l) : ∀ k, v.ownBlock = some k → B ≤ k ∧ k < w.heap.size := World.ownsRow.lt h
theorem OwnB.same {B : Nat} {A C : World} {v : Value} {l : List UInt8} {S : List Nat} (h : OwnB B A v l) (hs : Same S A C) (hb : ∀ k, v.ownBlock = some k → k ∉ S) : OwnB B C v l := own_same h hs hb
theorem reads_one (wr : World) (x : UInt8) : Reads (wr.alloc (.cells #[.int .u8 (x.toNat : Int)] 5)) 1 (.slice (some ⟨wr.heap.size, 0, none⟩) 1 1) 1 (u8l [x]) :=
  Reads.of_own (row_new wr #[.int .u8 (x.toNat : Int)] 5 1 rfl (by decide))
theorem one_u8l (l : List UInt8) : ∀ u ∈ u8l l, u.oneCell' = true := by
  intro u hu
  simp only [u8l, List.mem_map] at hu
  obtain ⟨a, _, rfl⟩ := hu
  rfl
/-- Where its cells are. -/
structure CellsB (B : Nat) (w : World) (v : Value) (l : List UInt8) (g cap : Nat) (cur : Array Value) : Prop where
  val : v = .slice (some ⟨g, 0, none⟩) l.length cap
  base : B ≤ g
  heap : w.heap[g]? = some (.cells cur 5 (0, 0))
  len : l.length ≤ cap
  max : cap ≤ maxLen
  size : cur.size = cap
  take : cur.toList.take l.length = u8l l
theorem OwnB.cells {B : Nat} {w : World} {v : Value} {l : List UInt8} (h : OwnB B w v l) (hl : 0 < l.length) : ∃ g cap cur, CellsB B w v l g cap cur := by
  rcases h.2 with ⟨_, h0⟩ | ⟨g, cap, cur, rfl, hb, hg, hnc, hcm, hcs, ht⟩
  · omega
  · exact ⟨g, cap, cur, rfl, hb, hg, hnc, hcm, by omega, by simpa using ht⟩
theorem CellsB.own {B : Nat} {w : World} {v : Value} {l : List UInt8} {g cap : Nat} {cur : Array Value} (h : CellsB B w v l g cap cur) : OwnB B w v l :=
  ⟨by simp [u8l], .inr ⟨g, cap, cur, h.val, h.base, h.heap, h.len, h.max, by simp [h.size], by simpa using h.take⟩⟩
theorem CellsB.cell {B : Nat} {w : World} {v : Value} {l : List UInt8} {g cap : Nat} {cur : Array Value} (h : CellsB B w v l g cap cur) (i : Nat) (hi : i < l.length) :
    w.cell? ⟨g, i, none⟩ = some (.int .u8 ((cf l i).toNat : Int)) := by
  have h1 := congrArg (fun z => z[i]?) h.take
  simp only [List.getElem?_take] at h1
  rw [if_pos hi] at h1
  rw [cell_of h.heap, ← Array.getElem?_toList, h1]
  simp [u8l, u8v, hi, cf_lt hi]
theorem CellsB.set {B : Nat} {w : World} {v : Value} {l : List UInt8} {g cap : Nat} {cur : Array Value} (h : CellsB B w v l g cap cur) (i : Nat) (hi : i < l.length) (x : UInt8) :
    OwnB B (w.setCell ⟨g, i, none⟩ (.int .u8 (x.toNat : Int))) v (l.set i x) := by
  refine CellsB.own (g := g) (cap := cap) (cur := cur.setIfInBounds i (.int .u8 (x.toNat : Int))) ⟨?_, h.base, set_same h.heap _, ?_, h.max, by simp [h.size], ?_⟩
  · rw [List.length_set]; exact h.val
  · rw [List.length_set]; exact h.len
  · rw [List.length_set, Array.toList_setIfInBounds, List.take_set, h.take]
    simp [u8l, u8v]
theorem CellsB.drewN {B : Nat} {w : World} {v : Value} {l : List UInt8} {g cap : Nat} {cur : Array Value} (h : CellsB B w v l g cap cur) (n : Nat) : CellsB B (w.drewN n) v l g cap cur :=
  ⟨h.val, h.base, h.heap, h.len, h.max, h.size, h.take⟩
theorem Same.drewN {S : List Nat} {a b : World} (h : Same S a b) (n : Nat) : Same S a (b.drewN n) := ⟨h.os, h.tape, h.output, h.size, h.block⟩
theorem FieldAt.drew {w : World} {g : Nat} (h : FieldAt w g) : FieldAt w.drew g := h
theorem FieldAt.drewN {w : World} {g : Nat} (h : FieldAt w g) (n : Nat) : FieldAt (w.drewN n) g := h
theorem cf_set {l : List UInt8} {i : Nat} {x : UInt8} (hi : i < l.length) (j : Nat) : cf (l.set i x) j = if j = i then x else cf l j := by
  by_cases h : j = i
  · subst h; rw [if_pos rfl, cf_lt (by simpa using hi)]; simp
  · rw [if_neg h]
    by_cases hj : j < l.length
    · rw [cf_lt (by simpa using hj), cf_lt hj, List.getElem_set_ne (by omega)]
    · rw [cf_ge (by simpa using Nat.le_of_not_lt hj), cf_ge (by omega)]
theorem ext_cf {a b : List UInt8} (hl : a.length = b.length) (h : cf a = cf b) : a = b :=
  List.ext_getElem hl fun i h1 h2 => by have := congrFun h i; rwa [cf_lt h1, cf_lt h2] at this
theorem ofF_succ (n : Nat) (f : Nat → UInt8) : ofF (n + 1) f = ofF n f ++ [f n] := by unfold ofF; rw [List.range_succ, List.map_append]; rfl
theorem Tryd.infoB : (Tryd.prog.info? 5).map (fun i => (i.zero, i.size, i.bytes)) = some (some (.int .u8 0), 1, 1) := by kernel_rfl
def addS (a b : ByteArray) : ByteArray := bs (trimL (addL (lb a) (lb b)))
def mulS (a b : ByteArray) : ByteArray := bs (trimL (prodL (lb a) (lb b)))
theorem mulS_size (a b : ByteArray) : (mulS a b).size ≤ a.size + b.size := by
  unfold mulS; rw [size_bs, ← lb_length, ← lb_length, ← prodL_length]; exact trim_length _
theorem addS_size (a b : ByteArray) : (addS a b).size ≤ max a.size b.size := by
  unfold addS; rw [size_bs, ← lb_length, ← lb_length, ← addL_length]; exact trim_length _
end Go.Proofs.YtdkjcocpkgojaaaDoor
