/- The streams of a program's table, parted off its bytes, in plain Lean (for DecodePmt): a state, a step, and the state behind k steps. The table of one program under way (DecodePmt): its streams' row in the heap, and a stream more. Plain parts of the law PsiOne: a byte turned makes other bytes' sum; what the tables' Decode answers, in short. No condition but that bytes are not too many. -/
import Derived.Test.YtpkpfebhdgbgbaaGreatDoorTSDp2
import Derived.Test.YtpkpfebhdgbgbaaGreatDoorTSTw
import Derived.Test.YtpkpfebhdgbgbaaGreatDoorTSDp3
import Derived.Test.YtpkpfebhdgbgbaaGreatDoorTSEp2
namespace Go.Proofs.YtpkpfebhdgbgbaaGreatDoor.S
open Go.RowKit
set_option linter.unusedSimpArgs false
set_option linter.unusedVariables false

/-- What is left of the bytes, whether all went well, the streams so far. -/
abbrev PSt := ByteArray × Bool × List StrT
def goOn (s : PSt) : Bool := s.2.1 && decide (5 ≤ s.1.size)
def oneStr (b : ByteArray) : StrT := ⟨(byteOf b 0 : Nat), ((pairN (b.extract 1 b.size) % 8192 : Nat) : Int), infoS (b.extract 3 b.size)⟩
def nextP (s : PSt) : PSt := (infoR (s.1.extract 3 s.1.size), infoOk (s.1.extract 3 s.1.size), s.2.2 ++ [oneStr s.1])
def stP (s : PSt) : Nat → PSt
  | 0 => s
  | k + 1 => if goOn (stP s k) = true then nextP (stP s k) else stP s k
theorem size_infoR (s : ByteArray) : (infoR s).size ≤ s.size - 2 := by
  unfold infoR
  split
  · rw [ByteArray.size_extract]; omega
  · exact Nat.zero_le _
theorem size_infoS (s : ByteArray) : (infoS s).size ≤ s.size := by
  unfold infoS
  split
  · rw [ByteArray.size_extract]; omega
  · exact Nat.zero_le _
theorem goOn_true {s : PSt} (h : goOn s = true) : s.2.1 = true ∧ 5 ≤ s.1.size := by
  obtain ⟨b, ok, l⟩ := s
  have h1 : (ok && decide (5 ≤ b.size)) = true := h
  obtain ⟨n, hn⟩ : ∃ n, n = b.size := ⟨_, rfl⟩
  rw [← hn] at h1
  show ok = true ∧ 5 ≤ b.size
  rw [← hn]
  simpa using h1
theorem rest_size (b : ByteArray) (h : 5 ≤ b.size) : (infoR (b.extract 3 b.size)).size + 5 ≤ b.size := by
  have h1 := size_infoR (b.extract 3 b.size)
  have h2 : (b.extract 3 b.size).size = b.size - 3 := by rw [ByteArray.size_extract, Nat.min_self]
  rw [h2] at h1
  generalize (infoR (b.extract 3 b.size)).size = m at *
  omega
theorem stP_next {s : PSt} {k : Nat} (h : goOn (stP s k) = true) : stP s (k + 1) = nextP (stP s k) := if_pos h
theorem stP_stop {s : PSt} {k : Nat} (h : goOn (stP s k) = false) (j : Nat) : stP s (k + j) = stP s k := by
  induction j with
  | zero => rfl
  | succ j ih =>
    show (if goOn (stP s (k + j)) = true then nextP (stP s (k + j)) else stP s (k + j)) = _
    rw [ih, h]
    rfl
/-- The streams of a body behind its first Info: what is left, whether all is well, the streams. -/
def finP (b : ByteArray) (ok : Bool) : PSt := stP (b, ok, []) b.size
theorem finP_eq {b : ByteArray} {ok : Bool} {k : Nat} (h : goOn (stP (b, ok, []) k) = false) (hk : 5 * k ≤ b.size) : finP b ok = stP (b, ok, []) k := by
  have h1 := stP_stop h (b.size - k)
  rw [show k + (b.size - k) = b.size by omega] at h1
  exact h1
end Go.Proofs.YtpkpfebhdgbgbaaGreatDoor.S
namespace Go.Proofs.YtpkpfebhdgbgbaaGreatDoor.S
open Go.RowKit
set_option linter.unusedSimpArgs false
set_option linter.unusedVariables false

theorem Tryz.infoSt : (Tryz.prog.info? 53).map (fun i => (i.zero, i.size, i.bytes)) = some (some (.agg #[.int .i64 0, .int .i64 0, .string ⟨#[]⟩]), 3, 32) := by kernel_rfl
theorem stZ_cells : (Value.agg #[.int .i64 0, .int .i64 0, .string ⟨#[]⟩]).cells.size = 3 := by kernel_rfl
def stV (q : StrT) : List Value := [.int .i64 q.kind, .int .i64 q.pid, .string q.info]
def stL (l : List StrT) : List Value := l.flatMap stV
theorem stL_snoc (l : List StrT) (q : StrT) : stL (l ++ [q]) = stL l ++ stV q := by simp [stL]
theorem one_stV (q : StrT) : ∀ u ∈ stV q, u.oneCell' = true := by
  intro u hu
  simp only [stV, List.mem_cons, List.not_mem_nil, or_false] at hu
  rcases hu with rfl | rfl | rfl <;> rfl
theorem reads_st (w : World) (x y : Int) (z : ByteArray) : Reads (w.alloc (.cells #[.int .i64 x, .int .i64 y, .string z] 53)) 3 (.slice (some ⟨w.heap.size, 0, none⟩) 1 1) 1 (stV ⟨x, y, z⟩) :=
  Reads.of_own (base := 0) (e := 53) ⟨rfl, .inr ⟨w.heap.size, 1, _, rfl, Nat.zero_le _, heap_alloc_new w _, Nat.le_refl _, by decide, rfl, rfl⟩⟩
theorem strs_of_own {w : World} {B : Nat} {v : Value} {l : List StrT} (h : w.ownsRow B 53 3 v l.length (stL l)) : StrsV w v l := by
  have hget : ∀ (l : List StrT) (i : Nat) (h : i < l.length), (stL l)[i * 3]? = some (.int .i64 l[i].kind) ∧ (stL l)[i * 3 + 1]? = some (.int .i64 l[i].pid) ∧ (stL l)[i * 3 + 2]? = some (.string l[i].info) := by
    intro l
    induction l with
    | nil => intro i h; exact absurd h (Nat.not_lt_zero _)
    | cons p l ih =>
      intro i h
      cases i with
      | zero => exact ⟨rfl, rfl, rfl⟩
      | succ i =>
        have hi := ih i (by simpa using h)
        have e1 : (i + 1) * 3 = i * 3 + 3 := by omega
        rw [e1]
        exact hi
  rcases h.2 with ⟨rfl, h0⟩ | ⟨g, cap, cur, rfl, _, hg, hnc, hcm, hcs, ht⟩
  · have : l = [] := List.eq_nil_of_length_eq_zero h0
    subst this
    exact ⟨none, 0, rfl, Nat.le_refl _, fun i hi => absurd hi (Nat.not_lt_zero _)⟩
  · refine ⟨_, cap, rfl, hnc, fun i hi => ⟨_, rfl, rfl, ?_, ?_, ?_⟩⟩
    · have h1 := congrArg (fun z => z[i * 3]?) ht
      simp only [List.getElem?_take] at h1
      rw [if_pos (by omega), (hget l i hi).1] at h1
      rw [cell_of hg, ← Array.getElem?_toList, Nat.zero_add, h1]
    · have h1 := congrArg (fun z => z[i * 3 + 1]?) ht
      simp only [List.getElem?_take] at h1
      rw [if_pos (by omega), (hget l i hi).2.1] at h1
      rw [cell_of hg, ← Array.getElem?_toList, Nat.zero_add, h1]
    · have h1 := congrArg (fun z => z[i * 3 + 2]?) ht
      simp only [List.getElem?_take] at h1
      rw [if_pos (by omega), (hget l i hi).2.2] at h1
      rw [cell_of hg, ← Array.getElem?_toList, Nat.zero_add, h1]
def pmtC (st ve cl : Int) (info : ByteArray) (sl : Value) : Array Value := #[.int .i64 st, .int .i64 ve, .int .i64 cl, .string info, sl]
/-- The table under way. -/
structure PmtW (w w' : World) (R X N : Nat) (st ve cl : Int) (info : ByteArray) (sl : Value) (l : List StrT) : Prop where
  same : Same [] w w'
  res : w'.heap[R]? = some (.cells #[.int .i64 0, .int .i64 0, .int .i64 0, .string ⟨#[]⟩, .slice none 0 0] 56 (0, 0))
  head : w'.heap[X]? = some (.cells (pmtC st ve cl info sl) 56 (0, 0))
  row : w'.ownsRow N 53 3 sl l.length (stL l)
  ne : R < X ∧ X < N ∧ w.heap.size ≤ R
  base : N ≤ w'.heap.size
theorem PmtW.push {w w1 w2 w7 : World} {R X N : Nat} {st ve cl : Int} {info : ByteArray} {sl v7 : Value} {l : List StrT} {p : StrT} (h : PmtW w w2 R X N st ve cl info sl l) (hs : Same [] w2 w1)
    (hown : w7.ownsRow N 53 3 v7 (l.length + 1) (stL l ++ stV p)) (hg : w1.grownBy w7 sl.ownBlock) : PmtW w (w7.setCell ⟨X, 4, none⟩ v7) R X N st ve cl info v7 (l ++ [p]) := by
  obtain ⟨n1, n2, n3⟩ := h.ne
  have hb : ∀ x ∈ sl.ownBlock.toList, N ≤ x := fun x hx => (World.ownsRow.lt h.row x (by simpa using hx)).1
  have hs7 : Same sl.ownBlock.toList w2 w7 := (hs.mono (T := sl.ownBlock.toList) (fun x hx => by simp at hx)).trans (Same.of_grown hg) (fun x hx _ => hx)
  have hX : X ∉ sl.ownBlock.toList := fun hm => by have := hb X hm; omega
  have hR : R ∉ sl.ownBlock.toList := fun hm => by have := hb R hm; omega
  have hset : Same [X] w7 (w7.setCell ⟨X, 4, none⟩ v7) := (Same.refl [X] w7).setCell (fun _ => by simp) _
  refine { same := ?_, res := ?_, head := ?_, row := ?_, ne := h.ne, base := ?_ }
  · refine (h.same.trans hs7 (fun x hx hlt => by have := hb x hx; omega)).trans hset (fun x hx hlt => by rw [List.mem_singleton] at hx; omega)
  · exact hset.heap (hs7.heap h.res hR) (by simp; omega)
  · exact (set_same (hs7.heap h.head hX) _).trans rfl
  · rw [List.length_append, List.length_singleton, stL_snoc]
    exact own_same (S := [X]) hown hset (fun k hk => by have := (World.ownsRow.lt hown k hk).1; simp; omega)
  · have := h.base; have := hs7.size; have := hset.size; omega
theorem pmt_cells {w : World} {b : Nat} {y0 y1 y2 y3 y4 : Value} (h : w.heap[b]? = some (.cells #[y0, y1, y2, y3, y4] 56 (0, 0))) :
    w.cell? ⟨b, 0, none⟩ = some y0 ∧ w.cell? ⟨b, 1, none⟩ = some y1 ∧ w.cell? ⟨b, 2, none⟩ = some y2 ∧ w.cell? ⟨b, 3, none⟩ = some y3 ∧ w.cell? ⟨b, 4, none⟩ = some y4 ∧ ∀ i, w.frozen? ⟨b, i, none⟩ = false := by
  refine ⟨?_, ?_, ?_, ?_, ?_, fun i => free_of h i⟩ <;> exact (cell_of h _).trans rfl
theorem pmt_chain {w v : World} {B : Nat} {y0 y1 y2 y3 y4 : Value} (hr : v.heap[B]? = some (.cells #[y0, y1, y2, y3, y4] 56 (0, 0))) (hs : Same [] w v) (hB : w.heap.size ≤ B) (z0 z1 z2 z3 z4 : Value) :
    (((((v.setCell ⟨B, 0, none⟩ z0).setCell ⟨B, 1, none⟩ z1).setCell ⟨B, 2, none⟩ z2).setCell ⟨B, 3, none⟩ z3).setCell ⟨B, 4, none⟩ z4).heap[B]? = some (.cells #[z0, z1, z2, z3, z4] 56 (0, 0)) ∧
    Same [] w (((((v.setCell ⟨B, 0, none⟩ z0).setCell ⟨B, 1, none⟩ z1).setCell ⟨B, 2, none⟩ z2).setCell ⟨B, 3, none⟩ z3).setCell ⟨B, 4, none⟩ z4) ∧
    Same [B] v (((((v.setCell ⟨B, 0, none⟩ z0).setCell ⟨B, 1, none⟩ z1).setCell ⟨B, 2, none⟩ z2).setCell ⟨B, 3, none⟩ z3).setCell ⟨B, 4, none⟩ z4) := by
  refine ⟨?_, ((((hs.setCell (fun h => ?_) z0).setCell (fun h => ?_) z1).setCell (fun h => ?_) z2).setCell (fun h => ?_) z3).setCell (fun h => ?_) z4, (((((Same.refl [B] v).setCell (fun _ => by simp) z0).setCell (fun _ => by simp) z1).setCell (fun _ => by simp) z2).setCell (fun _ => by simp) z3).setCell (fun _ => by simp) z4⟩
  · exact (set_same (i := 4) (set_same (i := 3) (set_same (i := 2) (set_same (i := 1) (set_same (i := 0) hr z0) z1) z2) z3) z4).trans rfl
  all_goals exact absurd h (by simp; omega)
/-- What stands ahead of the streams: Clock, Info, is it whole, what is behind it. -/
def headCl (b : ByteArray) : Int := if 4 ≤ b.size then ((pairN b % 8192 : Nat) : Int) else 0
def headInfo (b : ByteArray) : ByteArray := if 4 ≤ b.size then infoS (b.extract 2 b.size) else ⟨#[]⟩
def headOk (b : ByteArray) : Bool := if 4 ≤ b.size then infoOk (b.extract 2 b.size) else false
def headRest (b : ByteArray) : ByteArray := if 4 ≤ b.size then infoR (b.extract 2 b.size) else b
def pmtFin (b : ByteArray) : PSt := finP (headRest b) (headOk b)
def pmtWell (b : ByteArray) : Prop := (pmtFin b).2.1 = true ∧ (pmtFin b).1.size = 0
def pmtEnc (t : ByteArray) : ByteArray × Int := encPmt (numFrom (openS t) 24 16 : Nat) (numFrom (openS t) 42 5 : Nat) (headCl (bodyS (openS t))) (headInfo (bodyS (openS t))) (pmtFin (bodyS (openS t))).2.2
/-- What DecodePmt answers. -/
def DecPmt (t : ByteArray) (w : World) (e : Ending) (w' : World) : Prop := Same [] w w' ∧
  ((openedE t 2 = 0 ∧ ∃ v, e = .returned (.tuple #[.agg #[.int .i64 (numFrom (openS t) 24 16 : Nat), .int .i64 (numFrom (openS t) 42 5 : Nat), .int .i64 (headCl (bodyS (openS t))), .string (headInfo (bodyS (openS t))), v], .int .i64 0]) ∧ pmtWell (bodyS (openS t)) ∧
      StrsV w' v (pmtFin (bodyS (openS t))).2.2 ∧ pmtEnc t = (t, 0)) ∨
   ∃ er : Int, er ≠ 0 ∧ e = .returned (.tuple #[.agg #[.int .i64 0, .int .i64 0, .int .i64 0, .string ⟨#[]⟩, .slice none 0 0], .int .i64 er]) ∧ (openedE t 2 = 0 → pmtWell (bodyS (openS t)) → pmtEnc t ≠ (t, 0)))
end Go.Proofs.YtpkpfebhdgbgbaaGreatDoor.S
namespace Go.Proofs.YtpkpfebhdgbgbaaGreatDoor.S
open Go.RowKit
set_option linter.unusedSimpArgs false
set_option linter.unusedVariables false

theorem snums (xs : List Int) : (strOfNums xs).size = xs.length := strOfNums_size xs
theorem size_ext (s : ByteArray) (a b : Nat) (h1 : a ≤ b) (h2 : b ≤ s.size) : (s.extract a b).size = b - a := by rw [ByteArray.size_extract]; omega
theorem xor_other (a b : Nat) (hb : b ≠ 0) : a ^^^ b ≠ a := by
  intro h
  have h2 : a ^^^ (a ^^^ b) = a ^^^ a := by rw [h]
  rw [← Nat.xor_assoc, Nat.xor_self, Nat.zero_xor] at h2
  exact hb h2
theorem byteOf_front (s : ByteArray) (k i : Nat) (h : i < k) (hk : k ≤ s.size) : byteOf (s.extract 0 k) i = byteOf s i := by
  have h1 : (s.extract 0 k) ++ (s.extract k s.size) = s := by
    rw [ByteArray.extract_append_extract]
    rw [Nat.min_eq_left (by omega), Nat.max_eq_right hk, ByteArray.extract_zero_size]
  have h2 := byteOf_app_l (s.extract 0 k) (s.extract k s.size) i (by rw [size_ext _ _ _ (by omega) hk]; omega)
  rw [h1] at h2
  exact h2.symm
/-- s, whose byte k is x. -/
def turned (s : ByteArray) (k x : Nat) : ByteArray := s.extract 0 k ++ strOfNums [(x : Int)] ++ s.extract (k + 1) s.size
theorem turned_size (s : ByteArray) (k x : Nat) (h : k < s.size) : (turned s k x).size = s.size := by
  unfold turned
  rw [ByteArray.size_append, ByteArray.size_append, size_ext _ _ _ (by omega) (by omega), size_ext _ _ _ (by omega) (by omega), snums]
  simp; omega
theorem turned_here (s : ByteArray) (k x : Nat) (h : k < s.size) (hx : x < 256) : byteOf (turned s k x) k = x := by
  have e1 : (s.extract 0 k).size = k := by rw [size_ext _ _ _ (by omega) (by omega)]; omega
  have e2 : (strOfNums [(x : Int)]).size = 1 := by rw [snums]; rfl
  unfold turned
  rw [byteOf_app_l _ _ _ (by rw [ByteArray.size_append]; omega)]
  have h3 := byteOf_app_r (s.extract 0 k) (strOfNums [(x : Int)]) 0
  rw [e1, Nat.add_zero] at h3
  rw [h3]
  simp [byteOf, strOfNums]
  omega
theorem turned_else (s : ByteArray) (k x i : Nat) (h : k < s.size) (hne : i ≠ k) : byteOf (turned s k x) i = byteOf s i := by
  have e1 : (s.extract 0 k).size = k := by rw [size_ext _ _ _ (by omega) (by omega)]; omega
  have e2 : (strOfNums [(x : Int)]).size = 1 := by rw [snums]; rfl
  unfold turned
  by_cases hlt : i < k
  · rw [byteOf_app_l _ _ _ (by rw [ByteArray.size_append]; omega), byteOf_app_l _ _ _ (by omega), byteOf_front s k i hlt (by omega)]
  · have h3 := byteOf_app_r (s.extract 0 k ++ strOfNums [(x : Int)]) (s.extract (k + 1) s.size) (i - (k + 1))
    rw [ByteArray.size_append, e1, e2, show k + 1 + (i - (k + 1)) = i by omega, byteOf_ext, show k + 1 + (i - (k + 1)) = i by omega] at h3
    exact h3
theorem turned_sum (s : ByteArray) (k x : Nat) (h : k < s.size) (hx : x < 256) (hne : x ≠ byteOf s k) : sumN (turned s k x) ≠ sumN s :=
  sum_differ (turned s k x) s k (turned_size s k x h) (by rw [turned_size s k x h]; exact h) (by rw [turned_here s k x h hx]; exact hne) (fun i hi => turned_else s k x i h hi)
theorem opened_dec {t : ByteArray} {tab : Int} (h : openedE t tab = 0) : decE t = 0 := by
  unfold openedE at h
  by_cases h1 : decE t = 0
  · exact h1
  · rw [if_pos h1] at h; exact absurd h h1
theorem dec_sum {t : ByteArray} (h : decE t = 0) : sumN t = 0 := by
  have h1 : openE t = 0 := by
    refine Decidable.byContradiction fun h0 => ?_
    unfold decE at h
    split at h
    · rename_i h2; exact h2 h
    · split at h
      · cases h
      · split at h
        · cases h
        · first | exact h0 h | (rw [if_pos h0] at h; exact h0 h)
  refine Decidable.byContradiction fun h0 => ?_
  unfold openE at h1
  split at h1
  · cases h1
  · first | cases h1 | (rw [if_pos h0] at h1; cases h1)
theorem turned_bad {t : ByteArray} {tab tab2 : Int} {k x : Nat} (h : openedE t tab = 0) (hk : k < t.size) (hx : x < 256) (hne : x ≠ byteOf t k) : openedE (turned t k x) tab2 ≠ 0 := fun h2 =>
  turned_sum t k x hk hx hne ((dec_sum (opened_dec h2)).trans (dec_sum (opened_dec h)).symm)
theorem opened_two {t : ByteArray} (h : openedE t 0 = 0) : openedE t 2 ≠ 0 := by
  have hd := opened_dec h
  intro h2
  unfold openedE at h h2
  rw [if_neg (by rw [hd]; exact fun h => h rfl)] at h h2
  split at h
  · cases h
  · rename_i h3
    split at h2
    · cases h2
    · rename_i h4
      have e3 : ((numFrom (openS t) 0 8 : Nat) : Int) = 0 := Decidable.not_not.1 h3
      have e4 : ((numFrom (openS t) 0 8 : Nat) : Int) = 2 := Decidable.not_not.1 h4
      omega
theorem opened_small {t : ByteArray} {tab : Int} (h0 : openedE t tab = 0) : t.size ≤ 1024 := by
  refine Nat.not_lt.1 fun h9 => ?_
  unfold openedE at h0
  split at h0
  · rename_i h8; exact h8 h0
  · split at h0
    · cases h0
    · first | cases h0 | (rw [if_pos h9] at h0; cases h0)
theorem body_small {t : ByteArray} {tab : Int} (h0 : openedE t tab = 0) : (bodyS (openS t)).size ≤ 1024 := by
  have ht := opened_small h0
  have h1 : (openS t).size ≤ t.size := by
    unfold openS; split
    · rw [ByteArray.size_extract]; omega
    · exact Nat.zero_le _
  unfold bodyS; rw [size_strOf]; unfold textFrom; rw [List.length_map, List.length_range]; omega
theorem step_bound (n : Nat) (l : List StrT) (q : StrT) (r m : Nat) (hr : r + 5 ≤ m) (hq : q.info.size ≤ n) (i1 : 5 * l.length + m ≤ n) (i2 : ∀ p ∈ l, p.info.size ≤ n) :
    5 * (l ++ [q]).length + r ≤ n ∧ ∀ p ∈ l ++ [q], p.info.size ≤ n := by
  refine ⟨by rw [List.length_append, List.length_singleton]; omega, fun p hp => ?_⟩
  rcases List.mem_append.1 hp with h | h
  · exact i2 p h
  · rw [List.mem_singleton] at h; rw [h]; exact hq
theorem one_info (bb : ByteArray) : (oneStr bb).info = infoS (bb.extract 3 bb.size) := by unfold oneStr; dsimp only
theorem one_small (bb : ByteArray) : (oneStr bb).info.size ≤ bb.size := by
  rw [one_info]
  have h6 := size_infoS (bb.extract 3 bb.size)
  have h7 : (bb.extract 3 bb.size).size = bb.size - 3 := by rw [ByteArray.size_extract, Nat.min_self]
  rw [h7] at h6
  generalize (infoS (bb.extract 3 bb.size)).size = m at *
  omega
theorem next_one (s : PSt) : (nextP s).1 = infoR (s.1.extract 3 s.1.size) ∧ (nextP s).2.2 = s.2.2 ++ [oneStr s.1] := by
  unfold nextP
  exact ⟨by dsimp only, by dsimp only⟩
theorem stP_bound (b : ByteArray) (ok : Bool) (k : Nat) : 5 * (stP (b, ok, []) k).2.2.length + (stP (b, ok, []) k).1.size ≤ b.size ∧ ∀ q ∈ (stP (b, ok, []) k).2.2, q.info.size ≤ b.size := by
  induction k with
  | zero => exact ⟨by show 5 * 0 + b.size ≤ b.size; omega, fun q hq => nomatch hq⟩
  | succ k ih =>
    by_cases h : goOn (stP (b, ok, []) k) = true
    · rw [stP_next h]
      obtain ⟨ok1, h5⟩ := goOn_true h
      obtain ⟨n1, n2⟩ := next_one (stP (b, ok, []) k)
      rw [n1, n2]
      clear n1 n2 h ok1
      obtain ⟨i1, i2⟩ := ih
      generalize stP (b, ok, []) k = s at *
      have hr := rest_size s.1 h5
      have ho := one_small s.1
      exact step_bound b.size s.2.2 (oneStr s.1) _ _ hr (by omega) i1 i2
    · rw [show stP (b, ok, []) (k + 1) = stP (b, ok, []) k from if_neg h]
      exact ih
theorem head_small (b : ByteArray) : (headRest b).size ≤ b.size ∧ (headInfo b).size ≤ b.size := by
  unfold headRest headInfo
  have h1 := size_infoR (b.extract 2 b.size)
  have h2 := size_infoS (b.extract 2 b.size)
  have h3 : (b.extract 2 b.size).size = b.size - 2 := by rw [ByteArray.size_extract]; omega
  generalize infoR (b.extract 2 b.size) = x at *
  generalize infoS (b.extract 2 b.size) = y at *
  split
  · exact ⟨by omega, by omega⟩
  · exact ⟨Nat.le_refl _, Nat.zero_le _⟩
/-- What DecodePat and DecodePmt answer, in short. -/
def Out1 (t : ByteArray) (w : World) (e : Ending) (w' : World) : Prop := Same [] w w' ∧
  ((openedE t 0 = 0 ∧ ∃ (a b : Int) (v : Value) (l : List (Int × Int)), e = .returned (.tuple #[.agg #[.int .i64 a, .int .i64 b, v], .int .i64 0]) ∧ ProgsV w' v l ∧ l.length ≤ 1000 ∧ encPat a b l = (t, 0)) ∨
   ∃ er : Int, er ≠ 0 ∧ e = .returned (.tuple #[.agg #[.int .i64 0, .int .i64 0, .slice none 0 0], .int .i64 er]))
def Out2 (t : ByteArray) (w : World) (e : Ending) (w' : World) : Prop := Same [] w w' ∧
  ((openedE t 2 = 0 ∧ ∃ (a b c : Int) (i : ByteArray) (v : Value) (l : List StrT), e = .returned (.tuple #[.agg #[.int .i64 a, .int .i64 b, .int .i64 c, .string i, v], .int .i64 0]) ∧ StrsV w' v l ∧ l.length ≤ 1000 ∧ i.size ≤ 5000 ∧ (∀ q ∈ l, q.info.size ≤ 5000) ∧ encPmt a b c i l = (t, 0)) ∨
   ∃ er : Int, er ≠ 0 ∧ e = .returned (.tuple #[.agg #[.int .i64 0, .int .i64 0, .int .i64 0, .string ⟨#[]⟩, .slice none 0 0], .int .i64 er]))
theorem out1_of {t : ByteArray} {w w' : World} {e : Ending} (h : DecPat t w e w') : Out1 t w e w' := by
  obtain ⟨hs, ⟨h0, v, he, _, hp, hq⟩ | ⟨er, h1, h2, _⟩⟩ := h
  · refine ⟨hs, .inl ⟨h0, _, _, v, _, he, hp, ?_, hq⟩⟩
    have := body_small h0
    rw [entsP_length]; omega
  · exact ⟨hs, .inr ⟨er, h1, h2⟩⟩
theorem out2_of {t : ByteArray} {w w' : World} {e : Ending} (h : DecPmt t w e w') : Out2 t w e w' := by
  obtain ⟨hs, ⟨h0, v, he, _, hp, hq⟩ | ⟨er, h1, h2, _⟩⟩ := h
  · have hb := body_small h0
    obtain ⟨g1, g2⟩ := head_small (bodyS (openS t))
    obtain ⟨k1, k2⟩ := stP_bound (headRest (bodyS (openS t))) (headOk (bodyS (openS t))) (headRest (bodyS (openS t))).size
    have k1 : 5 * (pmtFin (bodyS (openS t))).2.2.length + (pmtFin (bodyS (openS t))).1.size ≤ (headRest (bodyS (openS t))).size := k1
    have k2 : ∀ q ∈ (pmtFin (bodyS (openS t))).2.2, q.info.size ≤ (headRest (bodyS (openS t))).size := k2
    refine ⟨hs, .inl ⟨h0, _, _, _, _, v, _, he, hp, ?_, by omega, fun q hq => by have := k2 q hq; omega, hq⟩⟩
    omega
  · exact ⟨hs, .inr ⟨er, h1, h2⟩⟩
theorem out1_bad {t : ByteArray} {w w' : World} {e : Ending} (h : DecPat t w e w') (hb : openedE t 0 ≠ 0) :
    Same [] w w' ∧ ∃ er : Int, er ≠ 0 ∧ e = .returned (.tuple #[.agg #[.int .i64 0, .int .i64 0, .slice none 0 0], .int .i64 er]) := by
  obtain ⟨hs, ⟨h0, _⟩ | ⟨er, h1, h2, _⟩⟩ := h
  · exact absurd h0 hb
  · exact ⟨hs, er, h1, h2⟩
theorem out2_bad {t : ByteArray} {w w' : World} {e : Ending} (h : DecPmt t w e w') (hb : openedE t 2 ≠ 0) :
    Same [] w w' ∧ ∃ er : Int, er ≠ 0 ∧ e = .returned (.tuple #[.agg #[.int .i64 0, .int .i64 0, .int .i64 0, .string ⟨#[]⟩, .slice none 0 0], .int .i64 er]) := by
  obtain ⟨hs, ⟨h0, _⟩ | ⟨er, h1, h2, _⟩⟩ := h
  · exact absurd h0 hb
  · exact ⟨hs, er, h1, h2⟩
end Go.Proofs.YtpkpfebhdgbgbaaGreatDoor.S
