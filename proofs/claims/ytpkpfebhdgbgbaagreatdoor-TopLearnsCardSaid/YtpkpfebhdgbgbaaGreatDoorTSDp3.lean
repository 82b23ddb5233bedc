/- The table of programs of bytes (DecodePat): where it answers no error the table is encoded as these very bytes. Condition: the bytes are fewer than 5000. -/
import Derived.Test.YtpkpfebhdgbgbaaGreatDoorTSDp2
import Derived.Test.YtpkpfebhdgbgbaaGreatDoorJumps
import Derived.Deep.RegionLaw
namespace Go.Proofs.YtpkpfebhdgbgbaaGreatDoor.S
open Go.RowKit
set_option linter.unusedSimpArgs false
set_option linter.unusedVariables false

section
variable {P : Program} {w : World}
/-- append, as one step of a region that draws its order. -/
theorem step_append_src {ops : Array Oper} {o : Oper} {a : Act} {K : Act → World → Prop} {Q : Exit → Act → World → Prop} {E : Prop}
    (hg : o.guard = none) (s x : Operand) (t : TypeId) (hop : o.op = Op.call { callee := Callee.builtin Builtin.append, args := #[s, x], argTypes := #[t, t] })
    (base : Nat) (e : TypeId) (i : TypeInfo) (z : Value) (size bytes : Nat) (ht : P.underlying t = some (.slice e)) (hi : P.info? e = some i) (hz : i.zero = some z)
    (hsize : i.size = size) (hby : i.bytes = bytes) (hzs : z.cells.size = size) (hsz : 0 < size)
    (v : Value) (n : Nat) (xs : List Value) (hs : a.eval s = v) (hown : w.ownsRow base e size v n xs)
    (sv : Value) (m : Nat) (ys : List Value) (hx : a.eval x = sv) (hr : Reads w size sv m ys) (h1 : ∀ u ∈ ys, u.oneCell' = true)
    (h63 : n + m ≤ maxLen) (hbytes : (n + m) * bytes ≤ 140737488355328) (hbase : base ≤ w.heap.size)
    (hK : ∀ v' w', w'.ownsRow base e size v' (n + m) (xs ++ ys) → w.grownBy w' v.ownBlock → (v'.ownBlock = v.ownBlock ∨ v'.ownBlock = some w.heap.size) → K (a.put o.dst v') w') :
    if Region.wanted o (yielded ops a.tmps) = true then Oper.wp P o a w K Q else E := by
  have hw : Region.wanted o (yielded ops a.tmps) = true := by simp [Region.wanted, hg]
  rw [if_pos hw]
  obtain ⟨v', w', hrun, h2, h3, h5⟩ := run_append_src (P := P) base t o.type e i z size bytes ht hi hz hsize hby hzs hsz v n xs hown sv m ys hr h1 h63 hbytes hbase
  unfold Oper.wp
  simp only [execOp, hop, resolve, invoke, builtin, Sem.run_bind, Sem.run_pure, Result.andThen_ok, List.map_toArray, List.map_cons, List.map_nil, hs, hx, hrun]
  exact hK v' w' h2 h3 h5
end

theorem Tryz.infoPr : (Tryz.prog.info? 47).map (fun i => (i.zero, i.size, i.bytes)) = some (some (.agg #[.int .i64 0, .int .i64 0]), 2, 16) := by kernel_rfl
theorem prZ_cells : (Value.agg #[.int .i64 0, .int .i64 0]).cells.size = 2 := by kernel_rfl
def prV (p : Int × Int) : List Value := [.int .i64 p.1, .int .i64 p.2]
def prL (l : List (Int × Int)) : List Value := l.flatMap prV
theorem prL_snoc (l : List (Int × Int)) (p : Int × Int) : prL (l ++ [p]) = prL l ++ prV p := by simp [prL]
theorem prL_length (l : List (Int × Int)) : (prL l).length = l.length * 2 := by
  induction l with
  | nil => rfl
  | cons p l ih => show (prV p ++ prL l).length = _; rw [List.length_append, ih, List.length_cons]; show 2 + _ = _; omega
theorem one_prV (p : Int × Int) : ∀ u ∈ prV p, u.oneCell' = true := by
  intro u hu
  simp only [prV, List.mem_cons, List.not_mem_nil, or_false] at hu
  rcases hu with rfl | rfl <;> rfl
theorem reads_pr (w : World) (x y : Int) : Reads (w.alloc (.cells #[.int .i64 x, .int .i64 y] 47)) 2 (.slice (some ⟨w.heap.size, 0, none⟩) 1 1) 1 (prV (x, y)) :=
  Reads.of_own (base := 0) (e := 47) ⟨rfl, .inr ⟨w.heap.size, 1, _, rfl, Nat.zero_le _, heap_alloc_new w _, Nat.le_refl _, by decide, rfl, rfl⟩⟩
/-- An entry, and the first k of them. -/
def entP (b0 : ByteArray) (i : Nat) : Int × Int := (((byteOf b0 (4 * i) * 256 + byteOf b0 (4 * i + 1) : Nat) : Int), (((byteOf b0 (4 * i + 2) * 256 + byteOf b0 (4 * i + 3)) % 8192 : Nat) : Int))
def entsP (b0 : ByteArray) (k : Nat) : List (Int × Int) := (List.range k).map (entP b0)
theorem entsP_length (b0 : ByteArray) (k : Nat) : (entsP b0 k).length = k := by simp [entsP]
theorem entsP_succ (b0 : ByteArray) (k : Nat) : entsP b0 (k + 1) = entsP b0 k ++ [entP b0 k] := by unfold entsP; rw [List.range_succ, List.map_append]; rfl
theorem byteOf_ext (s : ByteArray) (a i : Nat) : byteOf (s.extract a s.size) i = byteOf s (a + i) := by
  unfold byteOf
  have h1 : s.data.toList.length = s.size := by rw [Array.length_toList]; rfl
  have h : (s.extract a s.size).data.toList = s.data.toList.drop a := by
    rw [ByteArray.data_extract, Array.toList_extract, ← h1]
    simp only [List.extract_eq_take_drop]
    rw [List.take_of_length_le (by rw [List.length_drop]; omega)]
  rw [h, List.getD_eq_getElem?_getD, List.getD_eq_getElem?_getD, List.getElem?_drop]
theorem progs_of_own {w : World} {B : Nat} {v : Value} {l : List (Int × Int)} (h : w.ownsRow B 47 2 v l.length (prL l)) : ProgsV w v l := by
  have hget : ∀ (l : List (Int × Int)) (i : Nat) (h : i < l.length), (prL l)[i * 2]? = some (.int .i64 l[i].1) ∧ (prL l)[i * 2 + 1]? = some (.int .i64 l[i].2) := by
    intro l
    induction l with
    | nil => intro i h; exact absurd h (Nat.not_lt_zero _)
    | cons p l ih =>
      intro i h
      cases i with
      | zero => exact ⟨rfl, rfl⟩
      | succ i =>
        have hi := ih i (by simpa using h)
        have e1 : (i + 1) * 2 = i * 2 + 2 := by omega
        rw [e1]
        exact hi
  rcases h.2 with ⟨rfl, h0⟩ | ⟨g, cap, cur, rfl, _, hg, hnc, hcm, hcs, ht⟩
  · have : l = [] := List.eq_nil_of_length_eq_zero h0
    subst this
    exact ⟨none, 0, rfl, Nat.le_refl _, fun i hi => absurd hi (Nat.not_lt_zero _)⟩
  · refine ⟨_, cap, rfl, hnc, fun i hi => ⟨_, rfl, rfl, ?_, ?_⟩⟩
    · have h1 := congrArg (fun z => z[i * 2]?) ht
      simp only [List.getElem?_take] at h1
      rw [if_pos (by omega), (hget l i hi).1] at h1
      rw [cell_of hg, ← Array.getElem?_toList, Nat.zero_add, h1]
    · have h1 := congrArg (fun z => z[i * 2 + 1]?) ht
      simp only [List.getElem?_take] at h1
      rw [if_pos (by omega), (hget l i hi).2] at h1
      rw [cell_of hg, ← Array.getElem?_toList, Nat.zero_add, h1]
theorem own_form {w : World} {base e size n : Nat} {v : Value} {xs : List Value} (h : w.ownsRow base e size v n xs) : ∃ ad c, v = .slice ad n c := by
  rcases h.2 with ⟨rfl, h0⟩ | ⟨g, cap, cur, rfl, _⟩
  · exact ⟨none, 0, by rw [h0]⟩
  · exact ⟨_, _, rfl⟩
def patC (st ve : Int) (sl : Value) : Array Value := #[.int .i64 st, .int .i64 ve, sl]
theorem empty_is (s : ByteArray) (h : s.size = 0) : s.toList.isEmpty = true ∧ (!s.toList.isEmpty) = false := by
  obtain rfl : s = ⟨#[]⟩ := ByteArray.ext (Array.eq_empty_of_size_eq_zero h)
  have h1 : (⟨#[]⟩ : ByteArray).toList = [] := by rw [ByteArray.toList_eq]
  rw [h1]; exact ⟨rfl, rfl⟩
theorem nonempty (s : ByteArray) (h : 0 < s.size) : s.toList.isEmpty = false ∧ (!s.toList.isEmpty) = true := by
  have : s.toList ≠ [] := by
    intro h0
    rw [ByteArray.toList_eq] at h0
    have h1 := congrArg List.length h0
    rw [Array.length_toList] at h1
    exact absurd (show s.size = 0 from h1) (by omega)
  cases hl : s.toList with
  | nil => exact absurd hl this
  | cons a b => simp

theorem toList_inj {a b : ByteArray} (h : a.toList = b.toList) : a = b := by
  rw [ByteArray.toList_eq, ByteArray.toList_eq] at h
  exact ByteArray.ext (Array.toList_inj.1 h)
/-- The table under way. -/
structure PatW (w w' : World) (R X N : Nat) (st ve : Int) (sl : Value) (l : List (Int × Int)) : Prop where
  same : Same [] w w'
  res : w'.heap[R]? = some (.cells #[.int .i64 0, .int .i64 0, .slice none 0 0] 50 (0, 0))
  head : w'.heap[X]? = some (.cells (patC st ve sl) 50 (0, 0))
  row : w'.ownsRow N 47 2 sl l.length (prL l)
  ne : R < X ∧ X < N ∧ w.heap.size ≤ R
  base : N ≤ w'.heap.size
theorem PatW.push {w w1 w2 w7 : World} {R X N : Nat} {st ve : Int} {sl v7 : Value} {l : List (Int × Int)} {p : Int × Int} (h : PatW w w2 R X N st ve sl l) (hs : Same [] w2 w1)
    (hown : w7.ownsRow N 47 2 v7 (l.length + 1) (prL l ++ prV p)) (hg : w1.grownBy w7 sl.ownBlock) : PatW w (w7.setCell ⟨X, 2, none⟩ v7) R X N st ve v7 (l ++ [p]) := by
  obtain ⟨n1, n2, n3⟩ := h.ne
  have hb : ∀ x ∈ sl.ownBlock.toList, N ≤ x := fun x hx => (World.ownsRow.lt h.row x (by simpa using hx)).1
  have hs7 : Same sl.ownBlock.toList w2 w7 := (hs.mono (T := sl.ownBlock.toList) (fun x hx => by simp at hx)).trans (Same.of_grown hg) (fun x hx _ => hx)
  have hX : X ∉ sl.ownBlock.toList := fun hm => by have := hb X hm; omega
  have hR : R ∉ sl.ownBlock.toList := fun hm => by have := hb R hm; omega
  have hset : Same [X] w7 (w7.setCell ⟨X, 2, none⟩ v7) := (Same.refl [X] w7).setCell (fun _ => by simp) _
  refine { same := ?_, res := ?_, head := ?_, row := ?_, ne := h.ne, base := ?_ }
  · refine (h.same.trans hs7 (fun x hx hlt => by have := hb x hx; omega)).trans hset (fun x hx hlt => by rw [List.mem_singleton] at hx; omega)
  · exact hset.heap (hs7.heap h.res hR) (by simp; omega)
  · exact (set_same (hs7.heap h.head hX) _).trans rfl
  · rw [List.length_append, List.length_singleton, prL_snoc]
    exact own_same (S := [X]) hown hset (fun k hk => by have := (World.ownsRow.lt hown k hk).1; simp; omega)
  · have := h.base; have := hs7.size; have := hset.size; omega
def patJ (t b0 : ByteArray) (st ve : Int) (w : World) (R : Nat) (a : Act) (w' : World) : Prop :=
  ∃ (S X N : Nat) (k : Nat) (sl : Value) (b : ByteArray) (u1 u8 u9 u10 u11 u12 u13 u14 u15 u16 u17 u18 u19 u20 u21 u22 u23 u24 u25 u26 u27 u28 u29 u30 u31 u32 u33 u34 u35 u36 u37 u38 u39 u40 u41 u42 u43 u44 u45 u46 u47 u48 u49 u50 u51 u52 u53 u54 u55 u56 u57 u58 u59 : Value), 4 * k ≤ b0.size ∧ b = b0.extract (4 * k) b0.size ∧ PatW w w' R X N st ve sl (entsP b0 k) ∧ a = { tmps := #[.string t, u1, .pointer (some ⟨R, 0, none⟩), .int .i64 0, .pointer (some ⟨S, 0, none⟩), .int .i64 0, .pointer (some ⟨X, 0, none⟩), .string b, u8, u9, u10, u11, u12, u13, u14, u15, u16, u17, u18, u19, u20, u21, u22, u23, u24, u25, u26, u27, u28, u29, u30, u31, u32, u33, u34, u35, u36, u37, u38, u39, u40, u41, u42, u43, u44, u45, u46, u47, u48, u49, u50, u51, u52, u53, u54, u55, u56, u57, u58, u59], defers := [] }
def patMu (a : Act) (_ : World) : Nat := match a.tmps.getD 7 undef with | .string b => b.size | _ => 0
/-- What DecodePat answers. -/
def DecPat (t : ByteArray) (w : World) (e : Ending) (w' : World) : Prop := Same [] w w' ∧
  ((openedE t 0 = 0 ∧ ∃ v, e = .returned (.tuple #[.agg #[.int .i64 (numFrom (openS t) 24 16 : Nat), .int .i64 (numFrom (openS t) 42 5 : Nat), v], .int .i64 0]) ∧ (bodyS (openS t)).size % 4 = 0 ∧
      ProgsV w' v (entsP (bodyS (openS t)) ((bodyS (openS t)).size / 4)) ∧ encPat (numFrom (openS t) 24 16 : Nat) (numFrom (openS t) 42 5 : Nat) (entsP (bodyS (openS t)) ((bodyS (openS t)).size / 4)) = (t, 0)) ∨
   ∃ er : Int, er ≠ 0 ∧ e = .returned (.tuple #[.agg #[.int .i64 0, .int .i64 0, .slice none 0 0], .int .i64 er]) ∧
     (openedE t 0 = 0 → (bodyS (openS t)).size % 4 = 0 → encPat (numFrom (openS t) 24 16 : Nat) (numFrom (openS t) 42 5 : Nat) (entsP (bodyS (openS t)) ((bodyS (openS t)).size / 4)) ≠ (t, 0)))
theorem pat_cells {w : World} {b : Nat} {y0 y1 y2 : Value} (h : w.heap[b]? = some (.cells #[y0, y1, y2] 50 (0, 0))) :
    w.cell? ⟨b, 0, none⟩ = some y0 ∧ w.cell? ⟨b, 1, none⟩ = some y1 ∧ w.cell? ⟨b, 2, none⟩ = some y2 ∧ ∀ i, w.frozen? ⟨b, i, none⟩ = false := by
  refine ⟨?_, ?_, ?_, fun i => free_of h i⟩ <;> exact (cell_of h _).trans rfl
theorem pat_chain {w v : World} {B : Nat} {y0 y1 y2 : Value} (hr : v.heap[B]? = some (.cells #[y0, y1, y2] 50 (0, 0))) (hs : Same [] w v) (hB : w.heap.size ≤ B) (z0 z1 z2 : Value) :
    (((v.setCell ⟨B, 0, none⟩ z0).setCell ⟨B, 1, none⟩ z1).setCell ⟨B, 2, none⟩ z2).heap[B]? = some (.cells #[z0, z1, z2] 50 (0, 0)) ∧
    Same [] w (((v.setCell ⟨B, 0, none⟩ z0).setCell ⟨B, 1, none⟩ z1).setCell ⟨B, 2, none⟩ z2) ∧ Same [B] v (((v.setCell ⟨B, 0, none⟩ z0).setCell ⟨B, 1, none⟩ z1).setCell ⟨B, 2, none⟩ z2) := by
  refine ⟨?_, ((hs.setCell (fun h => ?_) z0).setCell (fun h => ?_) z1).setCell (fun h => ?_) z2, (((Same.refl [B] v).setCell (fun _ => by simp) z0).setCell (fun _ => by simp) z1).setCell (fun _ => by simp) z2⟩
  · exact (set_same (i := 2) (set_same (i := 1) (set_same (i := 0) hr z0) z1) z2).trans rfl
  all_goals exact absurd h (by simp; omega)
set_option maxRecDepth 100000 in
set_option maxHeartbeats 8000000 in
theorem decodePat_any (t : ByteArray) (w : World) (hs : t.size < 5000) : Calls Tryz.prog 17 #[.string t] w (DecPat t w) := by
  have HD := Lib.hid (fun W => opened_fn t 0 W (by omega))
  have HR := Lib.hid (heap_alloc_new w (.cells #[.int .i64 0, .int .i64 0, .slice none 0 0] 50))
  obtain ⟨t0, p, e, v, nw, nu, la, b, hsh, hval⟩ := decA_shape t
  have hov : openedA t 0 = if openedE t 0 = 0 then sec8 t0 p e v nw nu la b else secZ := by unfold openedA; rw [hsh]
  obtain ⟨oe, hoe⟩ : ∃ oe, oe = openedE t 0 := ⟨_, rfl⟩
  have hde : openedE t 0 = 0 → decE t = 0 := fun h => by
    unfold openedE at h
    by_cases h1 : decE t = 0
    · exact h1
    · rw [if_pos h1] at h; exact absurd h h1
  by_cases h0 : openedE t 0 = 0
  · obtain ⟨hv0, hv1, hv2, hv3⟩ := hval (hde h0)
    rw [if_pos h0] at hov
    rw [hov, ← hoe, hoe.trans h0] at HD
    unfold sec8 at HD
    have ht1 : t.size ≤ 1024 := by
      refine Nat.not_lt.1 fun h9 => ?_
      unfold openedE at h0
      split at h0
      · rename_i h8; exact h8 h0
      · split at h0
        · cases h0
        · first | cases h0 | (rw [if_pos h9] at h0; cases h0)
    have hbz : b.size ≤ 1024 := by
      have h1 : (openS t).size ≤ t.size := by
        unfold openS; split
        · rw [ByteArray.size_extract]; omega
        · exact Nat.zero_le _
      rw [hv3]; unfold bodyS; rw [size_strOf]; unfold textFrom; rw [List.length_map, List.length_range]; omega
    have HV1 := Lib.hid hv1; have HV2 := Lib.hid hv2; have HV3 := Lib.hid hv3; have H0 := Lib.hid h0
    obtain ⟨i0, hi, hz0, hz1, hz2⟩ := info_parts Tryz.infoPr
    clear hsh hval hov hoe hde h0 hv0 hv1 hv2 hv3
    go_enter Tryz.func17, Tryz.ntmps17
    go_wp2_with fail
    refine wp_scope_one 0 (patJ t b e v w w.heap.size) patMu rfl ?_ ?_
    · simp only [wpAll]
      go_wp2_with fail
      (with_reducible refine (HD.out _).mono ?_)
      rintro e9 w1 ⟨rfl, s1⟩
      have hr1 := s1.heap HR.out (by simp)
      have hlt := heap_lt hr1
      have S1 := Lib.hid (((Same.refl [] w).alloc (.cells #[.int .i64 0, .int .i64 0, .slice none 0 0] 50)).trans_nil s1)
      have HR1 := Lib.hid hr1
      clear s1 hr1
      go_wp2_with fail
      refine ⟨w1.heap.size, w1.heap.size + 1, w1.heap.size + 2, 0, .slice none 0 0, b, _, _, _, _, _, _, _, _, _, _, _, _, _, _, _, _, _, _, _, _, _, _, _, _, _, _, _, _, _, _, _, _, _, _, _, _, _, _, _, _, _, _, _, _, _, _, _, _, _, _, _, _, _, by omega, by rw [Nat.mul_zero, ByteArray.extract_zero_size], ?_, rfl⟩
      have h1 := ((Same.refl [] w1).alloc (.cells #[.int .i64 t0, .bool p, .int .i64 e, .int .i64 v, .bool nw, .int .i64 nu, .int .i64 la, .string b] 124)).alloc (.cells #[.int .i64 e, .int .i64 v, .slice none 0 0] 50)
      refine { same := S1.out.trans_nil h1, res := h1.heap HR1.out (by simp), head := ?_, row := World.ownsRow_nil _ _ _ _, ne := ⟨by omega, by omega, Nat.le_refl _⟩, base := by rw [World.size_alloc, World.size_alloc]; omega }
      have h2 := heap_alloc_new (w1.alloc (.cells #[.int .i64 t0, .bool p, .int .i64 e, .int .i64 v, .bool nw, .int .i64 nu, .int .i64 la, .string b] 124)) (.cells #[.int .i64 e, .int .i64 v, .slice none 0 0] 50)
      rw [World.size_alloc] at h2
      exact h2
    · rintro a w2 ⟨S, X, N, k, sl, bb, u1, u8, u9, u10, u11, u12, u13, u14, u15, u16, u17, u18, u19, u20, u21, u22, u23, u24, u25, u26, u27, u28, u29, u30, u31, u32, u33, u34, u35, u36, u37, u38, u39, u40, u41, u42, u43, u44, u45, u46, u47, u48, u49, u50, u51, u52, u53, u54, u55, u56, u57, u58, u59, hk, hbb, hpw, rfl⟩
      have HPW := Lib.hid hpw
      have hbs : bb.size = b.size - 4 * k := by rw [hbb, ByteArray.size_extract]; omega
      obtain ⟨x0, x1, x2, xf⟩ := pat_cells hpw.head
      obtain ⟨n1, n2, n3⟩ := hpw.ne
      have hXl := heap_lt hpw.head
      by_cases h4 : 4 ≤ bb.size
      · have h4i : (4 : Int) ≤ (bb.size : Int) := by omega
        have h2i : (2 : Int) ≤ (bb.size : Int) := by omega
        have HP1 := Lib.hid (fun W => pair_fn bb W (by omega))
        have hez : (bb.extract 2 bb.size).size = bb.size - 2 := by rw [ByteArray.size_extract]; omega
        have HP2 := Lib.hid (fun W => pair_fn (bb.extract 2 bb.size) W (by omega))
        have hent : entP b k = (((pairN bb : Nat) : Int), ((pairN (bb.extract 2 bb.size) % 8192 : Nat) : Int)) := by
          unfold entP pairN
          rw [byteOf_ext, byteOf_ext, hbb, byteOf_ext, byteOf_ext, byteOf_ext, byteOf_ext]
          rfl
        obtain ⟨q1, hq1⟩ : ∃ q, q = pairN bb := ⟨_, rfl⟩
        obtain ⟨q2, hq2⟩ : ∃ q, q = pairN (bb.extract 2 bb.size) := ⟨_, rfl⟩
        have hq29 : q2 < 65536 := by rw [hq2]; exact pairN_lt _
        have han := andNot_pid q2 hq29
        rw [← hq1] at HP1 hent
        rw [← hq2] at HP2 hent
        obtain ⟨q3, hq3⟩ : ∃ q3, q3 = q2 % 8192 := ⟨_, rfl⟩
        rw [← hq3] at han hent
        obtain ⟨ad, cp, rfl⟩ := own_form hpw.row
        have m1 : (entsP b k).length + 1 ≤ maxLen := by rw [entsP_length]; unfold maxLen; omega
        have n9 : ((entsP b k).length + 1) * 16 ≤ 140737488355328 := by rw [entsP_length]; omega
        have HENT := Lib.hid hent; have HBB := Lib.hid hbb; have HBS := Lib.hid hbs
        have S9 := Lib.hid (Same.refl [] w2)
        have X2 := Lib.hid x2
        clear hq1 hq2 hq3 hq29 hent hbb hbs hpw
        have hnx : X ∉ (Value.slice ad (entsP b k).length cp).ownBlock.toList := fun hm => by have := (World.ownsRow.lt HPW.out.row X (by simpa using hm)).1; omega
        have HNX := Lib.hid hnx
        clear hnx
        go_wp2_with fail
        go_region_law (first | (refine step_append_src rfl (.tmp 30) (.tmp 38) 45 rfl N 47 i0 (.agg #[.int .i64 0, .int .i64 0]) 2 16 Tryz.underlying45 hi hz0 hz1 hz2 prZ_cells (by decide) _ (entsP b k).length (prL (entsP b k)) rfl (by exact own_same (S := []) HPW.out.row (by repeat (first | exact S9.out | exact Same.refl _ _ | refine Same.drew ?_ | refine Same.alloc ?_ _)) (fun _ _ h => nomatch h)) _ 1 (prV ((q1 : Int), (q3 : Int))) rfl (by exact reads_pr _ (q1 : Int) (q3 : Int)) (one_prV _) m1 n9 (by have h1 := S9.out.size; have h2 := HPW.out.base; simp only [World.size_alloc, drew_heap]; omega) ?_; intro v4 w7 hown hgrow hat; obtain ⟨ad7, cp7, rfl⟩ := own_form hown; have hh7 := (Same.of_grown hgrow).heap (Same.heap (S := []) (by repeat (first | exact S9.out | exact Same.refl _ _ | refine Same.drew ?_ | refine Same.alloc ?_ _)) HPW.out.head (by simp)) HNX.out; have k2 : w7.cell? ⟨X, 2, none⟩ = some (.slice ad (entsP b k).length cp) := cell_of hh7 2; have f2 := free_of hh7 2; have HOWN := Lib.hid hown; have HGW := Lib.hid hgrow; have HAT := Lib.hid hat; have HH7 := Lib.hid hh7; clear hown hgrow hat hh7) | (go_simp; go_at_call 52; (first | (with_reducible refine (HP1.out _).mono ?_) | (with_reducible refine (HP2.out _).mono ?_)); rintro e9 w9 ⟨rfl, s9⟩; have S9 := Lib.hid (show Same [] w2 w9 from Same.trans_nil (by repeat (first | exact S9.out | exact Same.refl _ _ | refine Same.drew ?_ | refine Same.alloc ?_ _)) s9); have x2 := S9.out.cell X2.out (by simp); have hX9 : X < w9.heap.size := Nat.lt_of_lt_of_le hXl S9.out.size; clear s9))
        all_goals
          have hpw2 := HPW.out.push (by repeat (first | exact S9.out | exact Same.refl _ _ | refine Same.drew ?_ | refine Same.alloc ?_ _)) HOWN.out HGW.out
          have HPW2 := Lib.hid hpw2
          clear hpw2
          go_wp2_with fail
          go_step3
          refine ⟨rfl, ⟨S, X, N, k + 1, .slice ad7 ((entsP b k).length + 1) cp7, bb.extract 4 bb.size, _, _, _, _, _, _, _, _, _, _, _, _, _, _, _, _, _, _, _, _, _, _, _, _, _, _, _, _, _, _, _, _, _, _, _, _, _, _, _, _, _, _, _, _, _, _, _, _, _, _, _, _, _, ?_, ?_, ?_, rfl⟩, ?_⟩
          · have := HBS.out; omega
          · have h1 := HBS.out
            rw [HBB.out, ByteArray.extract_extract, ByteArray.size_extract]
            congr 1 <;> omega
          · rw [entsP_succ, HENT.out]; exact HPW2.out
          · show (bb.extract 4 bb.size).size < bb.size
            rw [ByteArray.size_extract]; omega
      · have h4i : ¬ (4 : Int) ≤ (bb.size : Int) := by omega
        obtain ⟨r0, r1, r2, rf⟩ := pat_cells hpw.res
        have hRX : w.heap.size ≠ X := by omega
        by_cases hz : bb.size = 0
        · have hk4 : k = b.size / 4 := by omega
          have hm4 : b.size % 4 = 0 := by omega
          obtain ⟨em1, em2⟩ := empty_is bb hz
          have hPV := progs_of_own (hpw.row)
          obtain ⟨zr, hzr⟩ : ∃ zr, zr = encPat e v (entsP b k) := ⟨_, rfl⟩
          have HENC := Lib.hid (by have h9 := encodePat_fn e v (entsP b k) sl w2 hPV (by rw [entsP_length]; omega); rw [← hzr] at h9; exact h9)
          obtain ⟨zs, ze⟩ := zr
          have HZR := Lib.hid hzr
          have HK4 := Lib.hid hk4; have HM4 := Lib.hid hm4
          obtain ⟨ad, cp, rfl⟩ := own_form hpw.row
          clear hpw hbb hbs hk hk4 hm4 hPV hz hzr r0 r1 r2 rf
          go_wp2_with fail
          (with_reducible refine HENC.out.mono ?_)
          rintro e9 w3 ⟨rfl, s3⟩
          have hres3 := s3.heap HPW.out.res (by simp)
          have hhead3 := s3.heap HPW.out.head (by simp)
          have S3 := Lib.hid (HPW.out.same.trans_nil s3)
          have hrow3 := own_same (S := []) HPW.out.row s3 (fun _ _ => by simp)
          have HROW3 := Lib.hid hrow3
          clear s3 x0 x1 x2 xf hrow3 em1 em2
          obtain ⟨x0, x1, x2, xf⟩ := pat_cells hhead3
          obtain ⟨r0, r1, r2, rf⟩ := pat_cells hres3
          have hbad : ¬ (zs = t ∧ ze = 0) → (openedE t 0 = 0 → (bodyS (openS t)).size % 4 = 0 → encPat (numFrom (openS t) 24 16 : Nat) (numFrom (openS t) 42 5 : Nat) (entsP (bodyS (openS t)) ((bodyS (openS t)).size / 4)) ≠ (t, 0)) := fun hn _ _ he => by
            rw [← HV1.out, ← HV2.out, ← HV3.out, ← HK4.out, ← HZR.out] at he
            injection he with h1 h2
            exact hn ⟨h1, h2⟩
          have HBAD := Lib.hid hbad
          clear hbad
          by_cases hze : ze = 0
          · subst hze
            by_cases hzt : zs = t
            · subst hzt
              have hzz : (zs.toList != zs.toList) = false := by simp
              have hch := pat_chain hres3 S3.out (Nat.le_refl _) (.int .i64 e) (.int .i64 v) (.slice ad (entsP b k).length cp)
              clear hres3 hhead3
              go_wp2_with fail
              clear r0 r1 r2 rf
              obtain ⟨hc1, hc2, hc3⟩ := hch
              obtain ⟨k0, k1, k2, _⟩ := pat_cells hc1
              simp only [jump1]
              refine bodyPost_ret (v := .tuple #[.agg #[.int .i64 e, .int .i64 v, .slice ad (entsP b k).length cp], .int .i64 0]) ?_ rfl ⟨hc2, .inl ⟨H0.out, .slice ad (entsP b k).length cp, by rw [← HV1.out, ← HV2.out], by rw [← HV3.out]; exact HM4.out, by rw [← HV3.out, ← HK4.out]; exact progs_of_own (own_same HROW3.out hc3 (fun q hq hm => by have := (World.ownsRow.lt HROW3.out q hq).1; rw [List.mem_singleton] at hm; omega)), by rw [← HV1.out, ← HV2.out, ← HV3.out, ← HK4.out]; exact HZR.out.symm⟩⟩
              simp [results, Tryz.results17, go_sem, k0, k1, k2]
            · have hzz1 : (zs.toList == t.toList) = false := by rw [beq_eq_false_iff_ne]; exact fun h => hzt (toList_inj h)
              have hzz : (!(zs.toList == t.toList)) = true := by rw [hzz1]; rfl
              have hch := pat_chain hres3 S3.out (Nat.le_refl _) (.int .i64 0) (.int .i64 0) (.slice none 0 0)
              clear hres3 hhead3
              go_wp2_with fail
              clear r0 r1 r2 rf
              obtain ⟨hc1, hc2, hc3⟩ := hch
              obtain ⟨k0, k1, k2, _⟩ := pat_cells hc1
              simp only [jump1]
              refine bodyPost_ret (v := .tuple #[.agg #[.int .i64 0, .int .i64 0, .slice none 0 0], .int .i64 12]) ?_ rfl ⟨hc2, .inr ⟨12, by decide, rfl, HBAD.out (fun h => hzt h.1)⟩⟩
              simp [results, Tryz.results17, go_sem, k0, k1, k2]
          · have hzi : (ze != 0) = true := by simpa using hze
            have hch := pat_chain hres3 S3.out (Nat.le_refl _) (.int .i64 0) (.int .i64 0) (.slice none 0 0)
            clear hres3 hhead3
            go_wp2_with fail
            clear r0 r1 r2 rf
            obtain ⟨hc1, hc2, hc3⟩ := hch
            obtain ⟨k0, k1, k2, _⟩ := pat_cells hc1
            simp only [jump1]
            refine bodyPost_ret (v := .tuple #[.agg #[.int .i64 0, .int .i64 0, .slice none 0 0], .int .i64 12]) ?_ rfl ⟨hc2, .inr ⟨12, by decide, rfl, HBAD.out (fun h => hze h.2)⟩⟩
            simp [results, Tryz.results17, go_sem, k0, k1, k2]
        · obtain ⟨em1, em2⟩ := nonempty bb (by omega)
          have hch := pat_chain hpw.res hpw.same (Nat.le_refl _) (.int .i64 0) (.int .i64 0) (.slice none 0 0)
          have hmod : ¬ b.size % 4 = 0 := by omega
          have HMOD := Lib.hid hmod
          clear hbb hk hpw hmod hbs
          go_wp2_with fail
          clear r0 r1 r2 rf
          obtain ⟨hc1, hc2, hc3⟩ := hch
          obtain ⟨k0, k1, k2, _⟩ := pat_cells hc1
          simp only [jump1]
          refine bodyPost_ret (v := .tuple #[.agg #[.int .i64 0, .int .i64 0, .slice none 0 0], .int .i64 10]) ?_ rfl ⟨hc2, .inr ⟨10, by decide, rfl, fun _ h => absurd (by rw [HV3.out]; exact h) HMOD.out⟩⟩
          simp [results, Tryz.results17, go_sem, k0, k1, k2]
  · have h0i : (oe != 0) = true := by rw [hoe]; simpa using h0
    rw [if_neg h0] at hov
    rw [hov, ← hoe] at HD
    unfold secZ at HD
    have HE := Lib.hid (show oe ≠ 0 by rw [hoe]; exact h0)
    have H0 := Lib.hid h0
    clear hsh hval hov hoe hde h0
    go_enter Tryz.func17, Tryz.ntmps17
    go_wp2_with fail
    refine wp_scope_one 0 (fun _ _ => False) (fun _ _ => 0) rfl ?_ (fun _ _ h => h.elim)
    simp only [wpAll]
    go_wp2_with fail
    (with_reducible refine (HD.out _).mono ?_)
    rintro e9 w1 ⟨rfl, s1⟩
    have hr1 := s1.heap HR.out (by simp)
    have hlt := heap_lt hr1
    have S1 := Lib.hid (((Same.refl [] w).alloc (.cells #[.int .i64 0, .int .i64 0, .slice none 0 0] 50)).trans_nil s1)
    clear s1
    obtain ⟨r0, r1, r2, rf⟩ := pat_cells hr1
    have hch := pat_chain hr1 S1.out (Nat.le_refl _) (.int .i64 0) (.int .i64 0) (.slice none 0 0)
    clear hr1
    go_wp2_with fail
    clear r0 r1 r2 rf
    obtain ⟨hc0, hc3, _⟩ := hch
    have hc1 := ((Same.refl [] _).alloc (.cells #[.int .i64 0, .bool false, .int .i64 0, .int .i64 0, .bool false, .int .i64 0, .int .i64 0, .string ⟨#[]⟩] 124)).heap hc0 (by simp)
    have hc2 := hc3.alloc (.cells #[.int .i64 0, .bool false, .int .i64 0, .int .i64 0, .bool false, .int .i64 0, .int .i64 0, .string ⟨#[]⟩] 124)
    clear hc0 hc3
    obtain ⟨k0, k1, k2, _⟩ := pat_cells hc1
    simp only [noJump]
    refine bodyPost_ret (v := .tuple #[.agg #[.int .i64 0, .int .i64 0, .slice none 0 0], .int .i64 oe]) ?_ rfl ⟨hc2, .inr ⟨oe, HE.out, rfl, fun h => absurd h H0.out⟩⟩
    simp [results, Tryz.results17, go_sem, k0, k1, k2]
end Go.Proofs.YtpkpfebhdgbgbaaGreatDoor.S
