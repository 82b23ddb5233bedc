/- The tables as the document's answer has them (PlainPat, PlainPmt): their rows in the heap. No condition but that rows are not too many. -/
import Derived.Test.YtabglpkoklajlaaDp4d
import Derived.Deep.RegionLaw
import Derived.Deep.RegionHeld3
namespace Go.Proofs.Ytabglpkoklajlaa
open Go.RowKit
set_option linter.unusedSimpArgs false
set_option linter.unusedVariables false

theorem Try.infoRow : (Try.prog.info? 66).map (fun i => (i.zero, i.size, i.bytes)) = some (some (.agg #[.int .i64 0, .int .i64 0, .int .i64 0, .string ⟨#[]⟩]), 4, 40) := by kernel_rfl
theorem rwZ_cells : (Value.agg #[.int .i64 0, .int .i64 0, .int .i64 0, .string ⟨#[]⟩]).cells.size = 4 := by kernel_rfl
/-- A row of a table. -/
structure RowT where
  kind : Int
  pid : Int
  dest : Int
  info : ByteArray
def rwV (q : RowT) : List Value := [.int .i64 q.kind, .int .i64 q.pid, .int .i64 q.dest, .string q.info]
def rwL (l : List RowT) : List Value := l.flatMap rwV
theorem rwL_snoc (l : List RowT) (q : RowT) : rwL (l ++ [q]) = rwL l ++ rwV q := by simp [rwL]
theorem one_rwV (q : RowT) : ∀ u ∈ rwV q, u.oneCell' = true := by
  intro u hu
  simp only [rwV, List.mem_cons, List.not_mem_nil, or_false] at hu
  rcases hu with rfl | rfl | rfl | rfl <;> rfl
theorem reads_rw (w : World) (x y z : Int) (s : ByteArray) : Reads (w.alloc (.cells #[.int .i64 x, .int .i64 y, .int .i64 z, .string s] 66)) 4 (.slice (some ⟨w.heap.size, 0, none⟩) 1 1) 1 (rwV ⟨x, y, z, s⟩) :=
  Reads.of_own (base := 0) (e := 66) ⟨rfl, .inr ⟨w.heap.size, 1, _, rfl, Nat.zero_le _, heap_alloc_new w _, Nat.le_refl _, by decide, rfl, rfl⟩⟩
/-- A slice of rows. -/
def RowsV (w : World) (v : Value) (l : List RowT) : Prop := ∃ ad c, v = .slice ad l.length c ∧ l.length ≤ c ∧ ∀ (k : Nat) (h : k < l.length), ∃ a : Addr, ad = some a ∧ a.spot = none ∧
  w.cell? ⟨a.block, a.off + k * 4, none⟩ = some (.int .i64 l[k].kind) ∧ w.cell? ⟨a.block, a.off + k * 4 + 1, none⟩ = some (.int .i64 l[k].pid) ∧ w.cell? ⟨a.block, a.off + k * 4 + 2, none⟩ = some (.int .i64 l[k].dest) ∧
  w.cell? ⟨a.block, a.off + k * 4 + 3, none⟩ = some (.string l[k].info)
theorem RowsV.same {A C : World} {v : Value} {l : List RowT} (h : RowsV A v l) (hs : Same [] A C) : RowsV C v l := by
  obtain ⟨ad, c, rfl, h1, h3⟩ := h
  exact ⟨ad, c, rfl, h1, fun i hi => by obtain ⟨a, ha, hsp, k0, k1, k2, k3⟩ := h3 i hi; exact ⟨a, ha, hsp, hs.cell k0 (by simp), hs.cell k1 (by simp), hs.cell k2 (by simp), hs.cell k3 (by simp)⟩⟩
theorem rows_of_own {w : World} {B : Nat} {v : Value} {l : List RowT} (h : w.ownsRow B 66 4 v l.length (rwL l)) : RowsV w v l := by
  have hget : ∀ (l : List RowT) (i : Nat) (h : i < l.length), (rwL l)[i * 4]? = some (.int .i64 l[i].kind) ∧ (rwL l)[i * 4 + 1]? = some (.int .i64 l[i].pid) ∧ (rwL l)[i * 4 + 2]? = some (.int .i64 l[i].dest) ∧ (rwL l)[i * 4 + 3]? = some (.string l[i].info) := by
    intro l
    induction l with
    | nil => intro i h; exact absurd h (Nat.not_lt_zero _)
    | cons p l ih =>
      intro i h
      cases i with
      | zero => exact ⟨rfl, rfl, rfl, rfl⟩
      | succ i =>
        have hi := ih i (by simpa using h)
        have e1 : (i + 1) * 4 = i * 4 + 4 := by omega
        rw [e1]
        exact hi
  rcases h.2 with ⟨rfl, h0⟩ | ⟨g, cap, cur, rfl, _, hg, hnc, hcm, hcs, ht⟩
  · have : l = [] := List.eq_nil_of_length_eq_zero h0
    subst this
    exact ⟨none, 0, rfl, Nat.le_refl _, fun i hi => absurd hi (Nat.not_lt_zero _)⟩
  · refine ⟨_, cap, rfl, hnc, fun i hi => ⟨_, rfl, rfl, ?_, ?_, ?_, ?_⟩⟩
    · have h1 := congrArg (fun z => z[i * 4]?) ht
      simp only [List.getElem?_take] at h1
      rw [if_pos (by omega), (hget l i hi).1] at h1
      rw [cell_of hg, ← Array.getElem?_toList, Nat.zero_add, h1]
    · have h1 := congrArg (fun z => z[i * 4 + 1]?) ht
      simp only [List.getElem?_take] at h1
      rw [if_pos (by omega), (hget l i hi).2.1] at h1
      rw [cell_of hg, ← Array.getElem?_toList, Nat.zero_add, h1]
    · have h1 := congrArg (fun z => z[i * 4 + 2]?) ht
      simp only [List.getElem?_take] at h1
      rw [if_pos (by omega), (hget l i hi).2.2.1] at h1
      rw [cell_of hg, ← Array.getElem?_toList, Nat.zero_add, h1]
    · have h1 := congrArg (fun z => z[i * 4 + 3]?) ht
      simp only [List.getElem?_take] at h1
      rw [if_pos (by omega), (hget l i hi).2.2.2] at h1
      rw [cell_of hg, ← Array.getElem?_toList, Nat.zero_add, h1]
def tbC (ex ve cl : Int) (info : ByteArray) (sl : Value) : Array Value := #[.int .i64 ex, .int .i64 ve, .int .i64 cl, .string info, sl]
/-- The table under way: the argument's box Y, the result's cell R, the table X. -/
structure TbW (w w' : World) (Y R X N : Nat) (o : Obj) (ex ve cl : Int) (info : ByteArray) (sl : Value) (l : List RowT) : Prop where
  same : Same [] w w'
  box : w'.heap[Y]? = some o
  res : w'.heap[R]? = some (.cells #[.int .i64 0, .int .i64 0, .int .i64 0, .string ⟨#[]⟩, .slice none 0 0] 42 (0, 0))
  head : w'.heap[X]? = some (.cells (tbC ex ve cl info sl) 42 (0, 0))
  row : w'.ownsRow N 66 4 sl l.length (rwL l)
  ne : Y < R ∧ R < X ∧ X < N ∧ w.heap.size ≤ Y
  base : N ≤ w'.heap.size
theorem TbW.push {w w1 w2 w7 : World} {Y R X N : Nat} {o : Obj} {ex ve cl : Int} {info : ByteArray} {sl v7 : Value} {l : List RowT} {p : RowT} (h : TbW w w2 Y R X N o ex ve cl info sl l) (hs : Same [] w2 w1)
    (hown : w7.ownsRow N 66 4 v7 (l.length + 1) (rwL l ++ rwV p)) (hg : w1.grownBy w7 sl.ownBlock) : TbW w (w7.setCell ⟨X, 4, none⟩ v7) Y R X N o ex ve cl info v7 (l ++ [p]) := by
  obtain ⟨n0, n1, n2, n3⟩ := h.ne
  have hb : ∀ x ∈ sl.ownBlock.toList, N ≤ x := fun x hx => (World.ownsRow.lt h.row x (by simpa using hx)).1
  have hs7 : Same sl.ownBlock.toList w2 w7 := (hs.mono (T := sl.ownBlock.toList) (fun x hx => by simp at hx)).trans (Same.of_grown hg) (fun x hx _ => hx)
  have hX : X ∉ sl.ownBlock.toList := fun hm => by have := hb X hm; omega
  have hR : R ∉ sl.ownBlock.toList := fun hm => by have := hb R hm; omega
  have hY : Y ∉ sl.ownBlock.toList := fun hm => by have := hb Y hm; omega
  have hset : Same [X] w7 (w7.setCell ⟨X, 4, none⟩ v7) := (Same.refl [X] w7).setCell (fun _ => by simp) _
  refine { same := ?_, box := ?_, res := ?_, head := ?_, row := ?_, ne := h.ne, base := ?_ }
  · refine (h.same.trans hs7 (fun x hx hlt => by have := hb x hx; omega)).trans hset (fun x hx hlt => by rw [List.mem_singleton] at hx; omega)
  · exact hset.heap (hs7.heap h.box hY) (by simp; omega)
  · exact hset.heap (hs7.heap h.res hR) (by simp; omega)
  · exact (set_same (hs7.heap h.head hX) _).trans rfl
  · rw [List.length_append, List.length_singleton, rwL_snoc]
    exact own_same (S := [X]) hown hset (fun k hk => by have := (World.ownsRow.lt hown k hk).1; simp; omega)
  · have := h.base; have := hs7.size; have := hset.size; omega
theorem tb_cells {w : World} {b : Nat} {y0 y1 y2 y3 y4 : Value} (h : w.heap[b]? = some (.cells #[y0, y1, y2, y3, y4] 42 (0, 0))) :
    w.cell? ⟨b, 0, none⟩ = some y0 ∧ w.cell? ⟨b, 1, none⟩ = some y1 ∧ w.cell? ⟨b, 2, none⟩ = some y2 ∧ w.cell? ⟨b, 3, none⟩ = some y3 ∧ w.cell? ⟨b, 4, none⟩ = some y4 ∧ ∀ i, w.frozen? ⟨b, i, none⟩ = false := by
  refine ⟨?_, ?_, ?_, ?_, ?_, fun i => free_of h i⟩ <;> exact (cell_of h _).trans rfl
theorem tb_chain {w v : World} {B : Nat} {y0 y1 y2 y3 y4 : Value} (hr : v.heap[B]? = some (.cells #[y0, y1, y2, y3, y4] 42 (0, 0))) (hs : Same [] w v) (hB : w.heap.size ≤ B) (z0 z1 z2 z3 z4 : Value) :
    (((((v.setCell ⟨B, 0, none⟩ z0).setCell ⟨B, 1, none⟩ z1).setCell ⟨B, 2, none⟩ z2).setCell ⟨B, 3, none⟩ z3).setCell ⟨B, 4, none⟩ z4).heap[B]? = some (.cells #[z0, z1, z2, z3, z4] 42 (0, 0)) ∧
    Same [] w (((((v.setCell ⟨B, 0, none⟩ z0).setCell ⟨B, 1, none⟩ z1).setCell ⟨B, 2, none⟩ z2).setCell ⟨B, 3, none⟩ z3).setCell ⟨B, 4, none⟩ z4) ∧
    Same [B] v (((((v.setCell ⟨B, 0, none⟩ z0).setCell ⟨B, 1, none⟩ z1).setCell ⟨B, 2, none⟩ z2).setCell ⟨B, 3, none⟩ z3).setCell ⟨B, 4, none⟩ z4) := by
  refine ⟨?_, ((((hs.setCell (fun h => ?_) z0).setCell (fun h => ?_) z1).setCell (fun h => ?_) z2).setCell (fun h => ?_) z3).setCell (fun h => ?_) z4, (((((Same.refl [B] v).setCell (fun _ => by simp) z0).setCell (fun _ => by simp) z1).setCell (fun _ => by simp) z2).setCell (fun _ => by simp) z3).setCell (fun _ => by simp) z4⟩
  · exact (set_same (i := 4) (set_same (i := 3) (set_same (i := 2) (set_same (i := 1) (set_same (i := 0) hr z0) z1) z2) z3) z4).trans rfl
  all_goals exact absurd h (by simp; omega)
def rowP (p : Int × Int) : RowT := ⟨0, p.1, p.2, ⟨#[]⟩⟩
def rowS (q : StrT) : RowT := ⟨q.kind, q.pid, 0, q.info⟩
/-- A table is answered. -/
def TabPost (w : World) (ex ve cl : Int) (info : ByteArray) (l : List RowT) (e : Ending) (w' : World) : Prop :=
  Same [] w w' ∧ ∃ ad c, e = .returned (.agg #[.int .i64 ex, .int .i64 ve, .int .i64 cl, .string info, .slice ad l.length c]) ∧ RowsV w' (.slice ad l.length c) l
set_option maxRecDepth 100000 in
set_option maxHeartbeats 8000000 in
theorem plainPat_fn (a b : Int) (l : List (Int × Int)) (v : Value) (w : World) (h : ProgsV w v l) (hl : l.length ≤ 1000) :
    Calls Try.prog 14 #[.agg #[.int .i64 a, .int .i64 b, v]] w (TabPost w a b 0 ⟨#[]⟩ (l.map rowP)) := by
  have HV := Lib.hid h
  obtain ⟨vad, vcp, rfl, hlc, _⟩ := h
  have HO := Lib.hid (heap_alloc_new w (.cells #[.int .i64 a, .int .i64 b, .slice vad l.length vcp] 26))
  obtain ⟨i0, hi, hz0, hz1, hz2⟩ := info_parts Try.infoRow
  obtain ⟨rows, hrows⟩ : ∃ rows, rows = l.map rowP := ⟨_, rfl⟩
  have hrl : rows.length = l.length := by rw [hrows, List.length_map]
  have HRW := Lib.hid hrows; have HRL := Lib.hid hrl
  rw [← hrows]
  clear hrows hrl
  go_enter Try.func14, Try.ntmps14
  go_wp2_with fail
  go_loopw [4] (fun i9 wr => ∃ (k : Nat) (sl : Value), k ≤ l.length ∧ i9 = .int .i64 k ∧ TbW w wr w.heap.size (w.heap.size + 1) (w.heap.size + 2) (w.heap.size + 3) (.cells #[.int .i64 a, .int .i64 b, .slice vad l.length vcp] 26 (0, 0)) a b 0 ⟨#[]⟩ sl (rows.take k)) (fun i9 _ => l.length - (intOf i9).toNat)
  case atStart =>
    refine ⟨0, .slice none 0 0, Nat.zero_le _, rfl, ?_⟩
    have g1 := heap_alloc_new (w.alloc (.cells #[.int .i64 a, .int .i64 b, .slice vad l.length vcp] 26)) (.cells #[.int .i64 0, .int .i64 0, .int .i64 0, .string ⟨#[]⟩, .slice none 0 0] 42)
    have g2 := heap_alloc_new ((w.alloc (.cells #[.int .i64 a, .int .i64 b, .slice vad l.length vcp] 26)).alloc (.cells #[.int .i64 0, .int .i64 0, .int .i64 0, .string ⟨#[]⟩, .slice none 0 0] 42)) (.cells #[.int .i64 a, .int .i64 b, .int .i64 0, .string ⟨#[]⟩, .slice none 0 0] 42)
    rw [World.size_alloc] at g1
    rw [World.size_alloc, World.size_alloc] at g2
    exact { same := (((Same.refl [] w).alloc _).alloc _).alloc _, box := (((Same.refl [] _).alloc _).alloc _).heap HO.out (by simp), res := ((Same.refl [] _).alloc _).heap g1 (by simp), head := g2, row := World.ownsRow_nil _ _ _ _, ne := ⟨by omega, by omega, by omega, Nat.le_refl _⟩, base := by rw [World.size_alloc, World.size_alloc, World.size_alloc]; omega }
  case round =>
    obtain ⟨k, sl, hk, rfl, htb⟩ := hrel
    have hkl : (rows.take k).length = k := by rw [List.length_take, HRL.out]; omega
    have hrow := htb.row
    rw [hkl] at hrow
    obtain ⟨sad, scp, rfl⟩ := own_form hrow
    have HTB := Lib.hid htb; have HROW := Lib.hid hrow; have HKL := Lib.hid hkl
    obtain ⟨y0, y1, y2, yf⟩ := pat_cells htb.box
    obtain ⟨x0, x1, x2, x3, x4, xf⟩ := tb_cells htb.head
    have hXl := heap_lt htb.head
    have hnxm : (w.heap.size + 2) ∉ (Value.slice sad k scp).ownBlock.toList := fun hm => by have := (World.ownsRow.lt HROW.out (w.heap.size + 2) (by simpa using hm)).1; omega
    have HNX := Lib.hid hnxm
    clear hrow hkl hnxm
    by_cases hlt : k < l.length
    · have hlt2 : (k : Int) < (l.length : Int) := by omega
      obtain ⟨ad1, c1, he1, _, hc⟩ := HV.out.same htb.same
      injection he1 with e1 e2 e3
      subst e1; subst e3
      obtain ⟨pp, hp, hsp, k0, k1⟩ := hc k hlt
      subst hp
      obtain ⟨g, o, sp⟩ := pp
      simp only at hsp
      subst hsp
      have hst : rows.take (k + 1) = rows.take k ++ [rowP l[k]] := by rw [List.take_succ_eq_append_getElem (by rw [HRL.out]; exact hlt)]; congr 2; simp only [HRW.out, List.getElem_map]
      have HST := Lib.hid hst
      clear hst hc e2 htb
      have m1 : k + 1 ≤ maxLen := by unfold maxLen; omega
      have n9 : (k + 1) * 40 ≤ 140737488355328 := by omega
      generalize l[k] = q at *
      have hw : IntKind.i64.wrap ((k : Int) + 1) = (k : Int) + 1 := IntWalk.i64_in _ (by omega)
      obtain ⟨px, py⟩ := q
      have k0 : wr.cell? ⟨g, o + k * 2, none⟩ = some (.int .i64 px) := k0
      have k1 : wr.cell? ⟨g, o + k * 2 + 1, none⟩ = some (.int .i64 py) := k1
      go_wp2_with fail
      go_region_law (refine step_append_src rfl (.tmp 18) (.tmp 32) 40 rfl (w.heap.size + 3) 66 i0 (.agg #[.int .i64 0, .int .i64 0, .int .i64 0, .string ⟨#[]⟩]) 4 40 Try.underlying40 hi hz0 hz1 hz2 rwZ_cells (by decide) _ k (rwL (rows.take k)) rfl (by exact own_same (S := []) HROW.out (by repeat (first | exact Same.refl _ _ | refine Same.drew ?_ | refine Same.alloc ?_ _)) (fun _ _ h => nomatch h)) _ 1 (rwV ⟨0, px, py, ⟨#[]⟩⟩) rfl (by exact reads_rw _ 0 px py ⟨#[]⟩) (one_rwV _) m1 n9 (by have h1 := HTB.out.base; simp only [World.size_alloc, drew_heap]; omega) ?_; intro v4 w7 hown hgrow hat; obtain ⟨ad7, cp7, rfl⟩ := own_form hown; have hh7 := (Same.of_grown hgrow).heap (Same.heap (S := []) (by repeat (first | exact Same.refl _ _ | refine Same.drew ?_ | refine Same.alloc ?_ _)) HTB.out.head (by simp)) HNX.out; have k4 : w7.cell? ⟨w.heap.size + 2, 4, none⟩ = some (.slice sad k scp) := cell_of hh7 4; have f4 := free_of hh7 4; have HOWN := Lib.hid hown; have HGW := Lib.hid hgrow; have HAT := Lib.hid hat; have HH7 := Lib.hid hh7; clear hown hgrow hat hh7)
      all_goals
        have hpw2 := HTB.out.push (p := ⟨0, px, py, ⟨#[]⟩⟩) (by repeat (first | exact Same.refl _ _ | refine Same.drew ?_ | refine Same.alloc ?_ _)) (by rw [HKL.out]; exact HOWN.out) HGW.out
        have HPW2 := Lib.hid hpw2
        clear hpw2
        go_wp2_with fail
        go_roundw
        case rel => exact ⟨k + 1, .slice ad7 (k + 1) cp7, by omega, by go_num, by rw [HST.out]; exact HPW2.out⟩
        case measure => simp [intOf]; omega
    · obtain rfl : k = l.length := by omega
      have htk : rows.take l.length = rows := by rw [← HRL.out, List.take_length]
      rw [htk] at HROW
      have hch := tb_chain htb.res htb.same (by omega) (.int .i64 a) (.int .i64 b) (.int .i64 0) (.string ⟨#[]⟩) (.slice sad l.length scp)
      obtain ⟨r0, r1, r2, r3, r4, rf⟩ := tb_cells htb.res
      clear htb htk
      go_wp2_with fail
      clear r0 r1 r2 r3 r4 rf
      obtain ⟨hc1, hc2, hc3⟩ := hch
      obtain ⟨k0, k1, k2, k3, k4, _⟩ := tb_cells hc1
      refine bodyPost_ret (v := .agg #[.int .i64 a, .int .i64 b, .int .i64 0, .string ⟨#[]⟩, .slice sad l.length scp]) ?_ rfl ⟨hc2, sad, scp, by rw [HRL.out], ?_⟩
      · simp [results, Try.results14, go_sem, k0, k1, k2, k3, k4]
      · rw [HRL.out]
        have h9 := HROW.out
        have hown := own_same h9 hc3 (fun q hq hm => by have := (World.ownsRow.lt h9 q hq).1; rw [List.mem_singleton] at hm; omega)
        have h10 : RowsV _ (.slice sad l.length scp) rows := rows_of_own (by rw [HRL.out]; exact hown)
        exact h10
set_option maxRecDepth 100000 in
set_option maxHeartbeats 8000000 in
theorem plainPmt_fn (a b c : Int) (i : ByteArray) (l : List StrT) (v : Value) (w : World) (h : StrsV w v l) (hl : l.length ≤ 1000) :
    Calls Try.prog 16 #[.agg #[.int .i64 a, .int .i64 b, .int .i64 c, .string i, v]] w (TabPost w a b c i (l.map rowS)) := by
  have HV := Lib.hid h
  obtain ⟨vad, vcp, rfl, hlc, _⟩ := h
  have HO := Lib.hid (heap_alloc_new w (.cells #[.int .i64 a, .int .i64 b, .int .i64 c, .string i, .slice vad l.length vcp] 29))
  obtain ⟨i0, hi, hz0, hz1, hz2⟩ := info_parts Try.infoRow
  obtain ⟨rows, hrows⟩ : ∃ rows, rows = l.map rowS := ⟨_, rfl⟩
  have hrl : rows.length = l.length := by rw [hrows, List.length_map]
  have HRW := Lib.hid hrows; have HRL := Lib.hid hrl
  rw [← hrows]
  clear hrows hrl
  go_enter Try.func16, Try.ntmps16
  go_wp2_with fail
  go_loopw [4] (fun i9 wr => ∃ (k : Nat) (sl : Value), k ≤ l.length ∧ i9 = .int .i64 k ∧ TbW w wr w.heap.size (w.heap.size + 1) (w.heap.size + 2) (w.heap.size + 3) (.cells #[.int .i64 a, .int .i64 b, .int .i64 c, .string i, .slice vad l.length vcp] 29 (0, 0)) a b c i sl (rows.take k)) (fun i9 _ => l.length - (intOf i9).toNat)
  case atStart =>
    refine ⟨0, .slice none 0 0, Nat.zero_le _, rfl, ?_⟩
    have g1 := heap_alloc_new (w.alloc (.cells #[.int .i64 a, .int .i64 b, .int .i64 c, .string i, .slice vad l.length vcp] 29)) (.cells #[.int .i64 0, .int .i64 0, .int .i64 0, .string ⟨#[]⟩, .slice none 0 0] 42)
    have g2 := heap_alloc_new ((w.alloc (.cells #[.int .i64 a, .int .i64 b, .int .i64 c, .string i, .slice vad l.length vcp] 29)).alloc (.cells #[.int .i64 0, .int .i64 0, .int .i64 0, .string ⟨#[]⟩, .slice none 0 0] 42)) (.cells #[.int .i64 a, .int .i64 b, .int .i64 c, .string i, .slice none 0 0] 42)
    rw [World.size_alloc] at g1
    rw [World.size_alloc, World.size_alloc] at g2
    exact { same := (((Same.refl [] w).alloc _).alloc _).alloc _, box := (((Same.refl [] _).alloc _).alloc _).heap HO.out (by simp), res := ((Same.refl [] _).alloc _).heap g1 (by simp), head := g2, row := World.ownsRow_nil _ _ _ _, ne := ⟨by omega, by omega, by omega, Nat.le_refl _⟩, base := by rw [World.size_alloc, World.size_alloc, World.size_alloc]; omega }
  case round =>
    obtain ⟨k, sl, hk, rfl, htb⟩ := hrel
    have hkl : (rows.take k).length = k := by rw [List.length_take, HRL.out]; omega
    have hrow := htb.row
    rw [hkl] at hrow
    obtain ⟨sad, scp, rfl⟩ := own_form hrow
    have HTB := Lib.hid htb; have HROW := Lib.hid hrow; have HKL := Lib.hid hkl
    obtain ⟨y0, y1, y2, y3, y4, yf⟩ := pmt_cells htb.box
    obtain ⟨x0, x1, x2, x3, x4, xf⟩ := tb_cells htb.head
    have hXl := heap_lt htb.head
    have hnxm : (w.heap.size + 2) ∉ (Value.slice sad k scp).ownBlock.toList := fun hm => by have := (World.ownsRow.lt HROW.out (w.heap.size + 2) (by simpa using hm)).1; omega
    have HNX := Lib.hid hnxm
    clear hrow hkl hnxm
    by_cases hlt : k < l.length
    · have hlt2 : (k : Int) < (l.length : Int) := by omega
      obtain ⟨ad1, c1, he1, _, hc⟩ := HV.out.same htb.same
      injection he1 with e1 e2 e3
      subst e1; subst e3
      obtain ⟨pp, hp, hsp, k0, k1, k2⟩ := hc k hlt
      subst hp
      obtain ⟨g, o, sp⟩ := pp
      simp only at hsp
      subst hsp
      have hst : rows.take (k + 1) = rows.take k ++ [rowS l[k]] := by rw [List.take_succ_eq_append_getElem (by rw [HRL.out]; exact hlt)]; congr 2; simp only [HRW.out, List.getElem_map]
      have HST := Lib.hid hst
      clear hst hc e2 htb
      have m1 : k + 1 ≤ maxLen := by unfold maxLen; omega
      have n9 : (k + 1) * 40 ≤ 140737488355328 := by omega
      generalize l[k] = q at *
      have hw : IntKind.i64.wrap ((k : Int) + 1) = (k : Int) + 1 := IntWalk.i64_in _ (by omega)
      obtain ⟨qk, qp, qi⟩ := q
      have k0 : wr.cell? ⟨g, o + k * 3, none⟩ = some (.int .i64 qk) := k0
      have k1 : wr.cell? ⟨g, o + k * 3 + 1, none⟩ = some (.int .i64 qp) := k1
      have k2 : wr.cell? ⟨g, o + k * 3 + 2, none⟩ = some (.string qi) := k2
      go_wp2_with (at_builtin; refine wpList_append_src rfl (.tmp 28) (.tmp 36) 40 rfl (w.heap.size + 3) 66 i0 (.agg #[.int .i64 0, .int .i64 0, .int .i64 0, .string ⟨#[]⟩]) 4 40 Try.underlying40 hi hz0 hz1 hz2 rwZ_cells (by decide) _ k (rwL (rows.take k)) rfl (by exact own_same (S := []) HROW.out (by repeat (first | exact Same.refl _ _ | refine Same.drew ?_ | refine Same.alloc ?_ _)) (fun _ _ h => nomatch h)) _ 1 (rwV ⟨qk, qp, 0, qi⟩) rfl (by have h8 := reads_rw (wr.alloc (.cells #[.int .i64 qk, .int .i64 qp, .string qi] 52)) qk qp 0 qi; rw [World.size_alloc] at h8; exact h8) (one_rwV _) m1 n9 (by have h1 := HTB.out.base; simp only [World.size_alloc, drew_heap]; omega) ?_; intro v4 w7 hown hgrow hat; obtain ⟨ad7, cp7, rfl⟩ := own_form hown; have hh7 := (Same.of_grown hgrow).heap (Same.heap (S := []) (by repeat (first | exact Same.refl _ _ | refine Same.drew ?_ | refine Same.alloc ?_ _)) HTB.out.head (by simp)) HNX.out; have k4 : w7.cell? ⟨w.heap.size + 2, 4, none⟩ = some (.slice sad k scp) := cell_of hh7 4; have f4 := free_of hh7 4; have HOWN := Lib.hid hown; have HGW := Lib.hid hgrow; have HAT := Lib.hid hat; have HH7 := Lib.hid hh7; clear hown hgrow hat hh7)
      all_goals
        have hpw2 := HTB.out.push (p := ⟨qk, qp, 0, qi⟩) (by repeat (first | exact Same.refl _ _ | refine Same.drew ?_ | refine Same.alloc ?_ _)) (by rw [HKL.out]; exact HOWN.out) HGW.out
        have HPW2 := Lib.hid hpw2
        clear hpw2
        go_wp2_with fail
        go_roundw
        case rel => exact ⟨k + 1, .slice ad7 (k + 1) cp7, by omega, by go_num, by rw [HST.out]; exact HPW2.out⟩
        case measure => simp [intOf]; omega
    · obtain rfl : k = l.length := by omega
      have htk : rows.take l.length = rows := by rw [← HRL.out, List.take_length]
      rw [htk] at HROW
      have hch := tb_chain htb.res htb.same (by omega) (.int .i64 a) (.int .i64 b) (.int .i64 c) (.string i) (.slice sad l.length scp)
      obtain ⟨r0, r1, r2, r3, r4, rf⟩ := tb_cells htb.res
      clear htb htk
      go_wp2_with fail
      clear r0 r1 r2 r3 r4 rf
      obtain ⟨hc1, hc2, hc3⟩ := hch
      obtain ⟨k0, k1, k2, k3, k4, _⟩ := tb_cells hc1
      refine bodyPost_ret (v := .agg #[.int .i64 a, .int .i64 b, .int .i64 c, .string i, .slice sad l.length scp]) ?_ rfl ⟨hc2, sad, scp, by rw [HRL.out], ?_⟩
      · simp [results, Try.results16, go_sem, k0, k1, k2, k3, k4]
      · rw [HRL.out]
        have h9 := HROW.out
        have hown := own_same h9 hc3 (fun q hq hm => by have := (World.ownsRow.lt h9 q hq).1; rw [List.mem_singleton] at hm; omega)
        have h10 : RowsV _ (.slice sad l.length scp) rows := rows_of_own (by rw [HRL.out]; exact hown)
        exact h10
end Go.Proofs.Ytabglpkoklajlaa
