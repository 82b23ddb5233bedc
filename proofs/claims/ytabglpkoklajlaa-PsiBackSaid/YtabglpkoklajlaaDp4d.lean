/- The table of one program under way (DecodePmt): its streams' row in the heap, and a stream more. -/
import Derived.Test.YtabglpkoklajlaaDp3
import Derived.Test.YtabglpkoklajlaaDp4p
import Derived.Test.YtabglpkoklajlaaEp2
namespace Go.Proofs.Ytabglpkoklajlaa
open Go.RowKit
set_option linter.unusedSimpArgs false
set_option linter.unusedVariables false

theorem Try.infoSt : (Try.prog.info? 52).map (fun i => (i.zero, i.size, i.bytes)) = some (some (.agg #[.int .i64 0, .int .i64 0, .string ⟨#[]⟩]), 3, 32) := by kernel_rfl
theorem stZ_cells : (Value.agg #[.int .i64 0, .int .i64 0, .string ⟨#[]⟩]).cells.size = 3 := by kernel_rfl
def stV (q : StrT) : List Value := [.int .i64 q.kind, .int .i64 q.pid, .string q.info]
def stL (l : List StrT) : List Value := l.flatMap stV
theorem stL_snoc (l : List StrT) (q : StrT) : stL (l ++ [q]) = stL l ++ stV q := by simp [stL]
theorem one_stV (q : StrT) : ∀ u ∈ stV q, u.oneCell' = true := by
  intro u hu
  simp only [stV, List.mem_cons, List.not_mem_nil, or_false] at hu
  rcases hu with rfl | rfl | rfl <;> rfl
theorem reads_st (w : World) (x y : Int) (z : ByteArray) : Reads (w.alloc (.cells #[.int .i64 x, .int .i64 y, .string z] 52)) 3 (.slice (some ⟨w.heap.size, 0, none⟩) 1 1) 1 (stV ⟨x, y, z⟩) :=
  Reads.of_own (base := 0) (e := 52) ⟨rfl, .inr ⟨w.heap.size, 1, _, rfl, Nat.zero_le _, heap_alloc_new w _, Nat.le_refl _, by decide, rfl, rfl⟩⟩
theorem strs_of_own {w : World} {B : Nat} {v : Value} {l : List StrT} (h : w.ownsRow B 52 3 v l.length (stL l)) : StrsV w v l := by
  have hget : ∀ (l : List StrT) (i : Nat) (h : i < l.length), (stL l)[i * 3]? = some (.int .i64 l[i].kind) ∧ (stL l)[i * 3 + 1]? = some (.int .i64 l[i].pid) ∧ (stL l)[i * 3 + 2]? = some (.string l[i].info) := by
    intro l
    induction l with
    | nil => intro i h; exact absurd h (Nat.not_lt_zero _)
    | cons p l ih =>
      intro i h
      cases i with
      | zero => exact ⟨rfl, rfl, rfl⟩
      | succ i =>
        have hi := ih i (by simpa using h)
        have e1 : (i + 1) * 3 = i * 3 + 3 := by omega
        rw [e1]
        exact hi
  rcases h.2 with ⟨rfl, h0⟩ | ⟨g, cap, cur, rfl, _, hg, hnc, hcm, hcs, ht⟩
  · have : l = [] := List.eq_nil_of_length_eq_zero h0
    subst this
    exact ⟨none, 0, rfl, Nat.le_refl _, fun i hi => absurd hi (Nat.not_lt_zero _)⟩
  · refine ⟨_, cap, rfl, hnc, fun i hi => ⟨_, rfl, rfl, ?_, ?_, ?_⟩⟩
    · have h1 := congrArg (fun z => z[i * 3]?) ht
      simp only [List.getElem?_take] at h1
      rw [if_pos (by omega), (hget l i hi).1] at h1
      rw [cell_of hg, ← Array.getElem?_toList, Nat.zero_add, h1]
    · have h1 := congrArg (fun z => z[i * 3 + 1]?) ht
      simp only [List.getElem?_take] at h1
      rw [if_pos (by omega), (hget l i hi).2.1] at h1
      rw [cell_of hg, ← Array.getElem?_toList, Nat.zero_add, h1]
    · have h1 := congrArg (fun z => z[i * 3 + 2]?) ht
      simp only [List.getElem?_take] at h1
      rw [if_pos (by omega), (hget l i hi).2.2] at h1
      rw [cell_of hg, ← Array.getElem?_toList, Nat.zero_add, h1]
def pmtC (st ve cl : Int) (info : ByteArray) (sl : Value) : Array Value := #[.int .i64 st, .int .i64 ve, .int .i64 cl, .string info, sl]
/-- The table under way. -/
structure PmtW (w w' : World) (R X N : Nat) (st ve cl : Int) (info : ByteArray) (sl : Value) (l : List StrT) : Prop where
  same : Same [] w w'
  res : w'.heap[R]? = some (.cells #[.int .i64 0, .int .i64 0, .int .i64 0, .string ⟨#[]⟩, .slice none 0 0] 29 (0, 0))
  head : w'.heap[X]? = some (.cells (pmtC st ve cl info sl) 29 (0, 0))
  row : w'.ownsRow N 52 3 sl l.length (stL l)
  ne : R < X ∧ X < N ∧ w.heap.size ≤ R
  base : N ≤ w'.heap.size
theorem PmtW.push {w w1 w2 w7 : World} {R X N : Nat} {st ve cl : Int} {info : ByteArray} {sl v7 : Value} {l : List StrT} {p : StrT} (h : PmtW w w2 R X N st ve cl info sl l) (hs : Same [] w2 w1)
    (hown : w7.ownsRow N 52 3 v7 (l.length + 1) (stL l ++ stV p)) (hg : w1.grownBy w7 sl.ownBlock) : PmtW w (w7.setCell ⟨X, 4, none⟩ v7) R X N st ve cl info v7 (l ++ [p]) := by
  obtain ⟨n1, n2, n3⟩ := h.ne
  have hb : ∀ x ∈ sl.ownBlock.toList, N ≤ x := fun x hx => (World.ownsRow.lt h.row x (by simpa using hx)).1
  have hs7 : Same sl.ownBlock.toList w2 w7 := (hs.mono (T := sl.ownBlock.toList) (fun x hx => by simp at hx)).trans (Same.of_grown hg) (fun x hx _ => hx)
  have hX : X ∉ sl.ownBlock.toList := fun hm => by have := hb X hm; omega
  have hR : R ∉ sl.ownBlock.toList := fun hm => by have := hb R hm; omega
  have hset : Same [X] w7 (w7.setCell ⟨X, 4, none⟩ v7) := (Same.refl [X] w7).setCell (fun _ => by simp) _
  refine { same := ?_, res := ?_, head := ?_, row := ?_, ne := h.ne, base := ?_ }
  · refine (h.same.trans hs7 (fun x hx hlt => by have := hb x hx; omega)).trans hset (fun x hx hlt => by rw [List.mem_singleton] at hx; omega)
  · exact hset.heap (hs7.heap h.res hR) (by simp; omega)
  · exact (set_same (hs7.heap h.head hX) _).trans rfl
  · rw [List.length_append, List.length_singleton, stL_snoc]
    exact own_same (S := [X]) hown hset (fun k hk => by have := (World.ownsRow.lt hown k hk).1; simp; omega)
  · have := h.base; have := hs7.size; have := hset.size; omega
theorem pmt_cells {w : World} {b : Nat} {y0 y1 y2 y3 y4 : Value} (h : w.heap[b]? = some (.cells #[y0, y1, y2, y3, y4] 29 (0, 0))) :
    w.cell? ⟨b, 0, none⟩ = some y0 ∧ w.cell? ⟨b, 1, none⟩ = some y1 ∧ w.cell? ⟨b, 2, none⟩ = some y2 ∧ w.cell? ⟨b, 3, none⟩ = some y3 ∧ w.cell? ⟨b, 4, none⟩ = some y4 ∧ ∀ i, w.frozen? ⟨b, i, none⟩ = false := by
  refine ⟨?_, ?_, ?_, ?_, ?_, fun i => free_of h i⟩ <;> exact (cell_of h _).trans rfl
theorem pmt_chain {w v : World} {B : Nat} {y0 y1 y2 y3 y4 : Value} (hr : v.heap[B]? = some (.cells #[y0, y1, y2, y3, y4] 29 (0, 0))) (hs : Same [] w v) (hB : w.heap.size ≤ B) (z0 z1 z2 z3 z4 : Value) :
    (((((v.setCell ⟨B, 0, none⟩ z0).setCell ⟨B, 1, none⟩ z1).setCell ⟨B, 2, none⟩ z2).setCell ⟨B, 3, none⟩ z3).setCell ⟨B, 4, none⟩ z4).heap[B]? = some (.cells #[z0, z1, z2, z3, z4] 29 (0, 0)) ∧
    Same [] w (((((v.setCell ⟨B, 0, none⟩ z0).setCell ⟨B, 1, none⟩ z1).setCell ⟨B, 2, none⟩ z2).setCell ⟨B, 3, none⟩ z3).setCell ⟨B, 4, none⟩ z4) ∧
    Same [B] v (((((v.setCell ⟨B, 0, none⟩ z0).setCell ⟨B, 1, none⟩ z1).setCell ⟨B, 2, none⟩ z2).setCell ⟨B, 3, none⟩ z3).setCell ⟨B, 4, none⟩ z4) := by
  refine ⟨?_, ((((hs.setCell (fun h => ?_) z0).setCell (fun h => ?_) z1).setCell (fun h => ?_) z2).setCell (fun h => ?_) z3).setCell (fun h => ?_) z4, (((((Same.refl [B] v).setCell (fun _ => by simp) z0).setCell (fun _ => by simp) z1).setCell (fun _ => by simp) z2).setCell (fun _ => by simp) z3).setCell (fun _ => by simp) z4⟩
  · exact (set_same (i := 4) (set_same (i := 3) (set_same (i := 2) (set_same (i := 1) (set_same (i := 0) hr z0) z1) z2) z3) z4).trans rfl
  all_goals exact absurd h (by simp; omega)
/-- What stands ahead of the streams: Clock, Info, is it whole, what is behind it. -/
def headCl (b : ByteArray) : Int := if 4 ≤ b.size then ((pairN b % 8192 : Nat) : Int) else 0
def headInfo (b : ByteArray) : ByteArray := if 4 ≤ b.size then infoS (b.extract 2 b.size) else ⟨#[]⟩
def headOk (b : ByteArray) : Bool := if 4 ≤ b.size then infoOk (b.extract 2 b.size) else false
def headRest (b : ByteArray) : ByteArray := if 4 ≤ b.size then infoR (b.extract 2 b.size) else b
def pmtFin (b : ByteArray) : PSt := finP (headRest b) (headOk b)
def pmtWell (b : ByteArray) : Prop := (pmtFin b).2.1 = true ∧ (pmtFin b).1.size = 0
def pmtEnc (t : ByteArray) : ByteArray × Int := encPmt (numFrom (openS t) 24 16 : Nat) (numFrom (openS t) 42 5 : Nat) (headCl (bodyS (openS t))) (headInfo (bodyS (openS t))) (pmtFin (bodyS (openS t))).2.2
/-- What DecodePmt answers. -/
def DecPmt (t : ByteArray) (w : World) (e : Ending) (w' : World) : Prop := Same [] w w' ∧
  ((openedE t 2 = 0 ∧ ∃ v, e = .returned (.tuple #[.agg #[.int .i64 (numFrom (openS t) 24 16 : Nat), .int .i64 (numFrom (openS t) 42 5 : Nat), .int .i64 (headCl (bodyS (openS t))), .string (headInfo (bodyS (openS t))), v], .int .i64 0]) ∧ pmtWell (bodyS (openS t)) ∧
      StrsV w' v (pmtFin (bodyS (openS t))).2.2 ∧ pmtEnc t = (t, 0)) ∨
   ∃ er : Int, er ≠ 0 ∧ e = .returned (.tuple #[.agg #[.int .i64 0, .int .i64 0, .int .i64 0, .string ⟨#[]⟩, .slice none 0 0], .int .i64 er]) ∧ (openedE t 2 = 0 → pmtWell (bodyS (openS t)) → pmtEnc t ≠ (t, 0)))
end Go.Proofs.Ytabglpkoklajlaa
