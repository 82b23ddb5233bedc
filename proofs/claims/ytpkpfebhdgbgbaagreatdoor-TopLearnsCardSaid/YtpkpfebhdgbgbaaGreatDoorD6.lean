/- The slice of a descriptor (descr.ReadSlice), for the law's descriptors. Condition: 256 to 1024 rows. The bytes of the law's two descriptors (descr.Loop). Conditions: where they lie. The descriptors of the law's bytes (descr.Parse). Condition: the byte of the rows. -/
import Derived.Test.YtpkpfebhdgbgbaaGreatDoorD3
import Derived.BigRegion
import Derived.Test.YtpkpfebhdgbgbaaGreatDoorTJPq1
import Derived.Test.YtpkpfebhdgbgbaaGreatDoorQHDgRMake4
import Derived.Test.YtpkpfebhdgbgbaaGreatDoorD2
import Derived.Test.YtpkpfebhdgbgbaaGreatDoorTSDp3
import Derived.Test.YtpkpfebhdgbgbaaGreatDoorJumps
import Derived.Deep.RegionLaw
namespace Go.Proofs.YtpkpfebhdgbgbaaGreatDoor.D
open Go.RowKit
set_option linter.unusedSimpArgs false
set_option linter.unusedVariables false

theorem slB_size (z : Int) : (slB z).size = 3 := strOfNums_size _
def sliceV (R : Int) : Array Value := #[.bool true, .bool true, .int .i64 R, .int .i64 9, .int .i64 2, .int .i64 1, .string ⟨#[]⟩]
def ReadPost (w : World) (R : Int) (e : Ending) (w' : World) : Prop := Same [] w w' ∧ e = .returned (.tuple #[.agg (sliceV R), .int .i64 0])
theorem slB_at (z : Nat) (hz : z < 256) : ((slB z)[0]'(by rw [slB_size]; decide)).toNat = z ∧ ((slB z)[1]'(by rw [slB_size]; decide)).toNat = 9 ∧ ((slB z)[2]'(by rw [slB_size]; decide)).toNat = 33 := by
  refine ⟨?_, ?_, ?_⟩
  · show (UInt8.ofNat (Int.toNat (z : Int))).toNat = z
    simp
    omega
  · rfl
  · rfl
set_option maxRecDepth 100000 in
set_option maxHeartbeats 4000000 in
theorem read_fn (R : Int) (z : Nat) (w : World) (hz : z < 256) (hm : R.tmod 256 = 0) (h0 : 256 ≤ R) (h1 : R ≤ 1024) (hh : headE R = z)
    (b1 : (bits .and .i64 (z : Int) 128 != 0) = true) (b2 : (bits .and .i64 (z : Int) 32 != 0) = true) (b3 : wrap64 (256 * wrap64 (bits .and .i64 (z : Int) 7 + 1)) = R) :
    Calls Tryz.prog 23 #[.agg #[.int .i64 119, .string (slB z)]] w (ReadPost w R) := by
  have HA := Lib.hid (heap_alloc_new w (.cells #[.int .i64 119, .string (slB z)] 39))
  have HB := Lib.hid (heap_alloc_new (w.alloc (.cells #[.int .i64 119, .string (slB z)] 39)) (.cells #[.bool false, .bool false, .int .i64 0, .int .i64 0, .int .i64 0, .int .i64 0, .string ⟨#[]⟩] 42))
  have HS := Lib.hid (((Same.refl [] w).alloc (.cells #[.int .i64 119, .string (slB z)] 39)).alloc (.cells #[.bool false, .bool false, .int .i64 0, .int .i64 0, .int .i64 0, .int .i64 0, .string ⟨#[]⟩] 42))
  have hsl := slB_size z
  have g0 : (0 : Int) < ((slB z).size : Int) := by omega
  have g1 : (1 : Int) < ((slB z).size : Int) := by omega
  have g2 : (2 : Int) < ((slB z).size : Int) := by omega
  have g3 : ¬ ((slB z).size : Int) < 3 := by omega
  obtain ⟨e0, e1, e2⟩ := slB_at z hz
  have hzi : (z : Int) < 256 := by omega
  have hwz : wrap64 (z : Int) = (z : Int) := IntWalk.wrap64_in _ (by omega)
  have HM := Lib.hid (fun W => make_fn R z W hm h0 h1 hh)
  have hx3 : (slB z).extract 3 (slB z).size = ⟨#[]⟩ := by rw [hsl]; exact ByteArray.extract_same
  have hx33 : (slB z).extract 3 3 = ⟨#[]⟩ := ByteArray.extract_same
  clear hm h0 h1 hh hz
  go_enter Tryz.func23, Tryz.ntmps23
  go_upto_region 6 with fail
  obtain ⟨wk, hwk⟩ : ∃ wk, wk = (w.alloc (.cells #[.int .i64 119, .string (slB z)] 39)).alloc (.cells #[.bool false, .bool false, .int .i64 0, .int .i64 0, .int .i64 0, .int .i64 0, .string ⟨#[]⟩] 42) := ⟨_, rfl⟩
  have ha := ((Same.refl [] _).alloc (.cells #[.bool false, .bool false, .int .i64 0, .int .i64 0, .int .i64 0, .int .i64 0, .string ⟨#[]⟩] 42)).heap HA.out (by simp)
  have hb := HB.out
  rw [World.size_alloc] at hb
  have hs := HS.out
  rw [← hwk] at ha hb hs ⊢
  clear hwk HA HB HS
  obtain ⟨x0, x1, xf⟩ := desc_cells ha
  have hal := heap_lt ha
  have HA := Lib.hid ha; have HB := Lib.hid hb; have HS := Lib.hid hs; have X1 := Lib.hid x1; have B1 := Lib.hid b1; have B2 := Lib.hid b2; have B3 := Lib.hid b3
  have L0 := Lib.hid (show ∀ W, Same [] wk W → W.cell? ⟨w.heap.size, 1, none⟩ = some (.string (slB z)) from fun W h => h.cell X1.out (by simp))
  clear ha hb hs x0 x1 xf b1 b2 b3
  go_cut [5] (fun s5 wy => ∃ b : Nat, s5 = .pointer (some ⟨b, 0, none⟩) ∧ wk.heap.size ≤ b ∧ Same [] wk wy ∧ wy.heap[b]? = some (.cells (sliceV R) 42 (0, 0)))
  case first =>
    have x1 := X1.out
    go_wp2_with fail
    go_region
    go_wp2_with fail
    go_meet
    have key : #[Value.bool (bits .and .i64 (z : Int) 128 != 0), .bool (bits .and .i64 (z : Int) 32 != 0), .int .i64 (wrap64 (256 * wrap64 (bits .and .i64 (z : Int) 7 + 1))), .int .i64 9, .int .i64 2, .int .i64 (bits .and .i64 33 15), .string ByteArray.empty] = sliceV R := by
      rw [B1.out, B2.out, B3.out]; rfl
    rw [key]
    exact ⟨_, rfl, Nat.le_refl _, Same.drew ((Same.refl [] wk).alloc _), heap_alloc_new wk _⟩
  obtain ⟨b, rfl, hb, hsy, hcy⟩ := hcut
  rename World => wy
  unfold sliceV at hcy
  have hyl := heap_lt hcy
  have y0 := cell_of hcy 0; have y1 := cell_of hcy 1; have y2 := cell_of hcy 2; have y3 := cell_of hcy 3; have y4 := cell_of hcy 4; have y5 := cell_of hcy 5; have y6 := cell_of hcy 6
  simp only [List.getElem?_toArray, List.getElem?_cons_zero, List.getElem?_cons_succ] at y0 y1 y2 y3 y4 y5 y6
  have HSY := Lib.hid hsy; have HCY := Lib.hid hcy
  clear hsy hcy
  go_wp2_with fail
  (with_reducible refine (HM.out _).mono ?_)
  rintro e9 w5 ⟨s5, rfl⟩
  have hsA := HSY.out.trans_nil s5
  have ha := hsA.heap HA.out (by simp)
  have hb5 := hsA.heap HB.out (by simp)
  have hc5 := s5.heap HCY.out (by simp)
  obtain ⟨x0, x1, xf⟩ := desc_cells ha
  have hal := heap_lt ha
  have hbl := heap_lt hb5
  have hcl := heap_lt hc5
  have hqq : ((slB z).toList != (slB z).toList) = false := by simp
  have HS5 := Lib.hid (HS.out.trans_nil hsA)
  clear y0 y1 y2 y3 y4 y5 y6
  have y0 := cell_of hc5 0; have y1 := cell_of hc5 1; have y2 := cell_of hc5 2; have y3 := cell_of hc5 3; have y4 := cell_of hc5 4; have y5 := cell_of hc5 5; have y6 := cell_of hc5 6
  simp only [List.getElem?_toArray, List.getElem?_cons_zero, List.getElem?_cons_succ] at y0 y1 y2 y3 y4 y5 y6
  have z0 := cell_of hb5 0; have z1 := cell_of hb5 1; have z2 := cell_of hb5 2; have z3 := cell_of hb5 3; have z4 := cell_of hb5 4; have z5 := cell_of hb5 5; have z6 := cell_of hb5 6
  simp only [List.getElem?_toArray, List.getElem?_cons_zero, List.getElem?_cons_succ] at z0 z1 z2 z3 z4 z5 z6
  have f0 := free_of hb5 0; have f1 := free_of hb5 1; have f2 := free_of hb5 2; have f3 := free_of hb5 3; have f4 := free_of hb5 4; have f5 := free_of hb5 5; have f6 := free_of hb5 6
  have HF := Lib.hid (show ((((((((w5.setCell ⟨w.heap.size + 1, 0, none⟩ (.bool true)).setCell ⟨w.heap.size + 1, 1, none⟩ (.bool true)).setCell ⟨w.heap.size + 1, 2, none⟩ (.int .i64 R)).setCell ⟨w.heap.size + 1, 3, none⟩ (.int .i64 9)).setCell ⟨w.heap.size + 1, 4, none⟩ (.int .i64 2)).setCell ⟨w.heap.size + 1, 5, none⟩ (.int .i64 1)).setCell ⟨w.heap.size + 1, 6, none⟩ (.string ⟨#[]⟩)).alloc (.cells #[.int .i64 119, .string (slB z)] 39)).heap[w.heap.size + 1]? = some (.cells (sliceV R) 42 (0, 0)) from ((Same.refl [] _).alloc _).heap (set_same (set_same (set_same (set_same (set_same (set_same (set_same hb5 _) _) _) _) _) _) _) (by simp))
  have HSF := Lib.hid ((((((((HS5.out.setCell (by simp) _).setCell (by simp) _).setCell (by simp) _).setCell (by simp) _).setCell (by simp) _).setCell (by simp) _).setCell (by simp) _).alloc _ : Same [] w ((((((((w5.setCell ⟨w.heap.size + 1, 0, none⟩ (.bool true)).setCell ⟨w.heap.size + 1, 1, none⟩ (.bool true)).setCell ⟨w.heap.size + 1, 2, none⟩ (.int .i64 R)).setCell ⟨w.heap.size + 1, 3, none⟩ (.int .i64 9)).setCell ⟨w.heap.size + 1, 4, none⟩ (.int .i64 2)).setCell ⟨w.heap.size + 1, 5, none⟩ (.int .i64 1)).setCell ⟨w.heap.size + 1, 6, none⟩ (.string ⟨#[]⟩)).alloc (.cells #[.int .i64 119, .string (slB z)] 39)))
  clear s5 hsA ha hb5 hc5
  go_wp2_with fail
  clear y0 y1 y2 y3 y4 y5 y6 z0 z1 z2 z3 z4 z5 z6 f0 f1 f2 f3 f4 f5 f6 x0 x1 xf
  have hf := HF.out
  unfold sliceV at hf
  have q0 := cell_of hf 0; have q1 := cell_of hf 1; have q2 := cell_of hf 2; have q3 := cell_of hf 3; have q4 := cell_of hf 4; have q5 := cell_of hf 5; have q6 := cell_of hf 6
  simp only [List.getElem?_toArray, List.getElem?_cons_zero, List.getElem?_cons_succ] at q0 q1 q2 q3 q4 q5 q6
  refine bodyPost_ret (v := .tuple #[.agg (sliceV R), .int .i64 0]) ?_ rfl ⟨HSF.out, rfl⟩
  clear hf
  simp [results, Tryz.results23, go_sem, q0, q1, q2, q3, q4, q5, q6, sliceV]
end Go.Proofs.YtpkpfebhdgbgbaaGreatDoor.D
namespace Go.Proofs.YtpkpfebhdgbgbaaGreatDoor.D
open Go.RowKit
set_option linter.unusedSimpArgs false
set_option linter.unusedVariables false

def infoB (z : Int) : ByteArray := strOfNums [9, 1, 120, 119, 3, z, 9, 33]
def acc1 : List UInt8 := (strOfNums [9, 1] ++ (⟨#[120]⟩ : ByteArray)).data.toList
def acc2 (z : Int) : List UInt8 := acc1 ++ (strOfNums [119, 3] ++ slB z).data.toList
theorem acc2_is (z : Int) : (⟨(acc2 z).toArray⟩ : ByteArray) = infoB z := rfl
theorem acc2_len (z : Int) : (acc2 z).length = 8 := rfl
theorem write_fn (B b : Nat) (acc : List UInt8) (s : ByteArray) (w W : World) (h : Lib.IsBuilder 107 5 B b (Lib.byteCells acc) w) (hs : Same [] w W) (hl : acc.length ≤ 1000) (hz : s.size ≤ 1000) (hBw : B ≤ w.heap.size) :
    Calls Tryz.prog 40 #[.pointer (some ⟨b, 0, none⟩), .string s] W fun e w' => e = .returned (.tuple #[.int .i64 s.size, .nilIface]) ∧ Lib.IsBuilder 107 5 B b (Lib.byteCells (acc ++ s.data.toList)) w' ∧ Below B W w' :=
  (Tryz.sb_write B b (Lib.byteCells acc) s W (J.builder_same h hs (by simp)) (by rw [Lib.byteCells_length]; omega) (Nat.le_trans hBw hs.size)).mono fun e w' ⟨he, hb, hB⟩ => ⟨he, by
    have hcells : Lib.byteCells acc ++ Lib.strCells s = Lib.byteCells (acc ++ s.data.toList) := by simp [Lib.byteCells, Lib.strCells]
    rw [hcells] at hb
    exact .inr hb, hB⟩
set_option maxRecDepth 100000 in
set_option maxHeartbeats 4000000 in
theorem loop_fn (z : Int) (g c : Nat) (w : World) (h0 : w.cell? ⟨g, 0, none⟩ = some (.int .i64 9)) (h1 : w.cell? ⟨g, 1, none⟩ = some (.string ⟨#[120]⟩)) (h2 : w.cell? ⟨g, 2, none⟩ = some (.int .i64 119)) (h3 : w.cell? ⟨g, 3, none⟩ = some (.string (slB z))) :
    Calls Tryz.prog 13 #[.slice (some ⟨g, 0, none⟩) 2 c] w (Ret (.tuple #[.string (infoB z), .int .i64 0]) w) := by
  have hg : g < w.heap.size := World.block_lt_of_cell? w _ h0
  have H0 := Lib.hid h0; have H1 := Lib.hid h1; have H2 := Lib.hid h2; have H3 := Lib.hid h3
  have hc2 := Dg.conv2
  have hsx : (⟨#[120]⟩ : ByteArray).size = 1 := rfl
  have hsl := slB_size z
  have HB0 := Lib.hid (show Lib.IsBuilder 107 5 w.heap.size w.heap.size (Lib.byteCells []) (w.alloc (.cells #[.pointer none, .slice none 0 0] 107)) from .inl ⟨Nat.le_refl _, .slice none 0 0, heap_alloc_new w _, World.ownsRow_nil _ _ _ _, by simp [Value.ownBlock]⟩)
  have HS0 := Lib.hid ((Same.refl [] w).alloc (.cells #[.pointer none, .slice none 0 0] 107))
  go_enter Tryz.func13, Tryz.ntmps13
  go_wp2_with fail
  refine wp_loop_rounds 3 ?_
  rw [rounds_succ]
  go_wp2_with (go_at_call 39; (with_reducible refine (check_ok 9 _ _ (by decide) (by decide) (by decide)).mono ?_); rintro e w' ⟨rfl, rfl⟩)
  (with_reducible refine (write_fn w.heap.size w.heap.size [] _ _ _ HB0.out (by repeat (first | exact Same.refl _ _ | refine Same.alloc ?_ _)) (by decide) (by decide) (by simp)).mono ?_)
  rintro e w3 ⟨rfl, hbu, hbe⟩
  have HS3 := Lib.hid (J.same_below' (show Same [] w _ by repeat (first | exact Same.refl _ _ | refine Same.alloc ?_ _)) hbe)
  have HB3 := Lib.hid (show Lib.IsBuilder 107 5 w.heap.size w.heap.size (Lib.byteCells acc1) w3 from hbu)
  have h2 := HS3.out.cell H2.out (by simp)
  have h3 := HS3.out.cell H3.out (by simp)
  have hz3 := HS3.out.size
  clear hbu hbe h0 h1
  go_wp2_with fail
  rw [rounds_succ]
  go_wp2_with (go_at_call 39; (with_reducible refine (check_ok 119 _ _ (by decide) (by decide) (by rw [hsl]; decide)).mono ?_); rintro e w' ⟨rfl, rfl⟩)
  (with_reducible refine (write_fn w.heap.size w.heap.size acc1 _ _ _ HB3.out (by repeat (first | exact Same.refl _ _ | refine Same.alloc ?_ _)) (by decide) (by rw [ByteArray.size_append, hsl]; decide) hz3).mono ?_)
  rintro e w4 ⟨rfl, hbu, hbe⟩
  have hs4 := J.same_below' (show Same [] w _ by repeat (first | exact HS3.out | refine Same.alloc ?_ _)) hbe
  have hb4 : Lib.IsBuilder 107 5 w.heap.size w.heap.size (Lib.byteCells (acc2 z)) w4 := hbu
  have HL := Lib.hid (by have h9 := Tryz.sb_len w.heap.size w.heap.size (Lib.byteCells (acc2 z)) w4 hb4; rw [Lib.byteCells_length, acc2_len] at h9; exact h9)
  have HST := Lib.hid (by have h9 := Tryz.sb_string w.heap.size w.heap.size (acc2 z) w4 hb4 hs4.size; rw [acc2_is] at h9; exact h9)
  have HS4 := Lib.hid hs4
  clear hbu hbe h2 h3 hs4 hb4
  go_wp2_with fail
  rw [rounds_succ]
  go_wp2_with (go_at_call 41; (with_reducible refine HL.out.mono ?_); rintro e w' ⟨rfl, rfl⟩)
  (with_reducible refine HST.out.mono ?_)
  rintro e w5 ⟨rfl, hb5⟩
  have HS5 := Lib.hid (J.same_below' HS4.out hb5)
  go_wp2_with fail
  go_ret2
  exact ⟨rfl, HS5.out⟩
end Go.Proofs.YtpkpfebhdgbgbaaGreatDoor.D
namespace Go.Proofs.YtpkpfebhdgbgbaaGreatDoor.D
open Go.RowKit
set_option linter.unusedSimpArgs false
set_option linter.unusedVariables false

theorem Tryz.infoDe : (Tryz.prog.info? 39).map (fun i => (i.zero, i.size, i.bytes)) = some (some (.agg #[.int .i64 0, .string ⟨#[]⟩]), 2, 24) := by kernel_rfl
theorem deZ_cells : (Value.agg #[.int .i64 0, .string ⟨#[]⟩]).cells.size = 2 := by kernel_rfl
def deV (p : Int × ByteArray) : List Value := [.int .i64 p.1, .string p.2]
def deL (l : List (Int × ByteArray)) : List Value := l.flatMap deV
theorem deL_snoc (l : List (Int × ByteArray)) (p : Int × ByteArray) : deL (l ++ [p]) = deL l ++ deV p := by simp [deL]
theorem one_deV (p : Int × ByteArray) : ∀ u ∈ deV p, u.oneCell' = true := by
  intro u hu
  simp only [deV, List.mem_cons, List.not_mem_nil, or_false] at hu
  rcases hu with rfl | rfl <;> rfl
theorem reads_de (w : World) (x : Int) (y : ByteArray) : Reads (w.alloc (.cells #[.int .i64 x, .string y] 39)) 2 (.slice (some ⟨w.heap.size, 0, none⟩) 1 1) 1 (deV (x, y)) :=
  Reads.of_own (base := 0) (e := 39) ⟨rfl, .inr ⟨w.heap.size, 1, _, rfl, Nat.zero_le _, heap_alloc_new w _, Nat.le_refl _, by decide, rfl, rfl⟩⟩
theorem descs_of_own {w : World} {B : Nat} {v : Value} {l : List (Int × ByteArray)} (h : w.ownsRow B 39 2 v l.length (deL l)) : DescV w v l := by
  have hget : ∀ (l : List (Int × ByteArray)) (i : Nat) (h : i < l.length), (deL l)[i * 2]? = some (.int .i64 l[i].1) ∧ (deL l)[i * 2 + 1]? = some (.string l[i].2) := by
    intro l
    induction l with
    | nil => intro i h; exact absurd h (Nat.not_lt_zero _)
    | cons p l ih =>
      intro i h
      cases i with
      | zero => exact ⟨rfl, rfl⟩
      | succ i =>
        have hi := ih i (by simpa using h)
        have e1 : (i + 1) * 2 = i * 2 + 2 := by omega
        rw [e1]
        exact hi
  rcases h.2 with ⟨rfl, h0⟩ | ⟨g, cap, cur, rfl, _, hg, hnc, hcm, hcs, ht⟩
  · have : l = [] := List.eq_nil_of_length_eq_zero h0
    subst this
    exact ⟨none, 0, rfl, Nat.le_refl _, fun i hi => absurd hi (Nat.not_lt_zero _)⟩
  · refine ⟨_, cap, rfl, hnc, fun i hi => ⟨_, rfl, rfl, ?_, ?_⟩⟩
    · have h1 := congrArg (fun z => z[i * 2]?) ht
      simp only [List.getElem?_take] at h1
      rw [if_pos (by omega), (hget l i hi).1] at h1
      rw [cell_of hg, ← Array.getElem?_toList, Nat.zero_add, h1]
    · have h1 := congrArg (fun z => z[i * 2 + 1]?) ht
      simp only [List.getElem?_take] at h1
      rw [if_pos (by omega), (hget l i hi).2] at h1
      rw [cell_of hg, ← Array.getElem?_toList, Nat.zero_add, h1]
/-- The law's descriptors, and what is left of their bytes. -/
def descs (z : Int) : List (Int × ByteArray) := [(9, ⟨#[120]⟩), (119, slB z)]
def restP (z : Int) : Nat → ByteArray
  | 0 => infoB z
  | 1 => strOfNums [119, 3, z, 9, 33]
  | _ => ⟨#[]⟩
/-- One descriptor at the beginning of bytes. -/
structure PStep (s : ByteArray) (tag len : Nat) (body rest : ByteArray) : Prop where
  size : 2 + len ≤ s.size
  few : s.size ≤ 8
  t0 : byteOf s 0 = tag
  t1 : byteOf s 1 = len
  body : s.extract 2 (2 + len) = body
  rest : s.extract (2 + len) s.size = rest
theorem pstep (z : Int) (k : Nat) (h : k < 2) : ∃ tag len body, PStep (restP z k) tag len body (restP z (k + 1)) ∧ (descs z).take (k + 1) = (descs z).take k ++ [(((tag : Nat) : Int), body)] := by
  have hk : k = 0 ∨ k = 1 := by omega
  rcases hk with rfl | rfl
  · exact ⟨9, 1, ⟨#[120]⟩, ⟨(by show 2 + 1 ≤ 8; decide), (by show 8 ≤ 8; decide), rfl, rfl, rfl, rfl⟩, rfl⟩
  · exact ⟨119, 3, slB z, ⟨(by show 2 + 3 ≤ 5; decide), (by show 5 ≤ 8; decide), rfl, rfl, rfl, rfl⟩, rfl⟩
def parJ (z : Int) (w : World) (a : Act) (w' : World) : Prop :=
  ∃ (k : Nat) (sl : Value) (u1 u5 u6 u7 u8 u9 u10 u11 u12 u13 u14 u15 u16 u17 u18 u19 u20 u21 u22 u23 u24 u25 u26 u27 u28 u29 u30 u31 u32 u33 u34 u35 u36 u37 u38 u39 u40 : Value), k ≤ 2 ∧ w'.ownsRow w.heap.size 39 2 sl k (deL ((descs z).take k)) ∧ Same [] w w' ∧ a = { tmps := #[.string (restP z k), u1, .slice none 0 0, .int .i64 0, sl, u5, u6, u7, u8, u9, u10, u11, u12, u13, u14, u15, u16, u17, u18, u19, u20, u21, u22, u23, u24, u25, u26, u27, u28, u29, u30, u31, u32, u33, u34, u35, u36, u37, u38, u39, u40], defers := [] }
def parMu (a : Act) (_ : World) : Nat := match a.tmps.getD 0 undef with | .string b => b.size | _ => 0
def ParsePost (z : Int) (w : World) (e : Ending) (w' : World) : Prop := Same [] w w' ∧ ∃ v, e = .returned (.tuple #[v, .int .i64 0]) ∧ DescV w' v (descs z)
set_option maxRecDepth 100000 in
set_option maxHeartbeats 4000000 in
theorem parse_fn (z : Int) (w : World) : Calls Tryz.prog 21 #[.string (infoB z)] w (ParsePost z w) := by
  obtain ⟨i0, hi, hz0, hz1, hz2⟩ := info_parts Tryz.infoDe
  have hzi : (infoB z).size = 8 := strOfNums_size _
  go_enter Tryz.func21, Tryz.ntmps21
  go_wp2_with fail
  refine wp_scope_one 0 (parJ z w) parMu rfl ?_ ?_
  · simp only [wpAll]
    go_wp2_with fail
    exact ⟨0, .slice none 0 0, _, _, _, _, _, _, _, _, _, _, _, _, _, _, _, _, _, _, _, _, _, _, _, _, _, _, _, _, _, _, _, _, _, _, _, _, _, Nat.zero_le _, World.ownsRow_nil _ _ _ _, Same.refl _ _, rfl⟩
  · rintro a w1 ⟨k, sl, u1, u5, u6, u7, u8, u9, u10, u11, u12, u13, u14, u15, u16, u17, u18, u19, u20, u21, u22, u23, u24, u25, u26, u27, u28, u29, u30, u31, u32, u33, u34, u35, u36, u37, u38, u39, u40, hk, hown, hsm, rfl⟩
    have HO := Lib.hid hown; have HS := Lib.hid hsm
    obtain ⟨ad, cp, rfl⟩ := S.own_form hown
    clear hown hsm
    by_cases hk2 : k < 2
    · obtain ⟨tag, len, body, hst, htk⟩ := pstep z k hk2
      obtain ⟨s, hs⟩ : ∃ s, s = restP z k := ⟨_, rfl⟩
      obtain ⟨r, hr⟩ : ∃ r, r = restP z (k + 1) := ⟨_, rfl⟩
      rw [← hs, ← hr] at hst
      rw [← hs]
      have l0 := hst.size; have l1 := hst.few
      have hl0 : 0 < s.size := by omega
      have hl1 : 1 < s.size := by omega
      have b0 := byteOf_at s 0 hl0
      have b1 := byteOf_at s 1 hl1
      rw [hst.t0] at b0
      rw [hst.t1] at b1
      have g0 : (0 : Int) < (s.size : Int) := by omega
      have g1 : (1 : Int) < (s.size : Int) := by omega
      have g2 : ¬ ((s.size : Int) < 2) := by omega
      have g3 : ¬ ((s.size : Int) < 2 + (len : Int)) := by omega
      have g4 : (2 : Int) + (len : Int) ≤ (s.size : Int) := by omega
      have ht9 : (tag : Int) < 256 := by have := UInt8.toNat_lt (s[0]'hl0); omega
      have xb := hst.body
      have xr := hst.rest
      obtain ⟨m, hm⟩ : ∃ m, m = 2 + len := ⟨_, rfl⟩
      rw [← hm] at xb xr l0
      have g5 : (2 : Int) ≤ (m : Int) := by omega
      have g6 : (m : Int) ≤ (s.size : Int) := by omega
      have g7 : ¬ ((s.size : Int) < (m : Int)) := by omega
      have hme : 2 + (len : Int) = (m : Int) := by omega
      have HM := Lib.hid hm
      clear hm g3 g4
      obtain ⟨em1, em2⟩ := S.nonempty s hl0
      have q1 : -9223372036854775808 ≤ (tag : Int) ∧ (tag : Int) ≤ 9223372036854775807 := by omega
      have q2 : -9223372036854775808 ≤ (len : Int) ∧ (len : Int) ≤ 9223372036854775807 := by omega
      clear q1 q2
      have hl9 : (len : Int) < 256 := by omega
      have HT := Lib.hid htk; have HE := Lib.hid hs; have HR := Lib.hid hr; have HST := Lib.hid hst
      clear htk hs hr hst
      go_upto_region 9 with fail
      have m1 : k + 1 ≤ maxLen := by unfold maxLen; omega
      have n9 : (k + 1) * 24 ≤ 140737488355328 := by omega
      have q1 : -9223372036854775808 ≤ (tag : Int) ∧ (tag : Int) ≤ 9223372036854775807 := by omega
      have wt : IntKind.i64.wrap (tag : Int) = (tag : Int) := IntWalk.i64_in _ q1
      have wt2 : wrap64 (tag : Int) = (tag : Int) := IntWalk.wrap64_in _ q1
      clear q1
      go_region_law (first | (refine S.step_append_src rfl (.tmp 28) (.tmp 36) 67 rfl w.heap.size 39 i0 (.agg #[.int .i64 0, .string ⟨#[]⟩]) 2 24 Tryz.underlying67 hi hz0 hz1 hz2 deZ_cells (by decide) _ k (deL ((descs z).take k)) rfl (by exact own_same (S := []) HO.out (by repeat (first | exact Same.refl _ _ | refine Same.drew ?_ | refine Same.alloc ?_ _)) (fun _ _ h => nomatch h)) _ 1 (deV ((tag : Int), body)) rfl (by exact reads_de _ (tag : Int) body) (one_deV _) m1 n9 (by have h2 := HS.out.size; simp only [World.size_alloc, drew_heap]; omega) ?_; intro v4 w7 hown hgrow hat; have HOWN := Lib.hid hown; have HGW := Lib.hid hgrow; clear hown hgrow hat))
      all_goals
        clear wt wt2
        have hsw := Same.grown (S := []) (a := w) (by repeat (first | exact HS.out | refine Same.drew ?_ | refine Same.alloc ?_ _)) HGW.out (fun q hq hlt => by have := (World.ownsRow.lt HO.out q hq).1; omega)
        have HSW := Lib.hid hsw
        have hrz : r.size < s.size := by rw [← xr, ByteArray.size_extract]; omega
        have HRZ := Lib.hid hrz
        clear hsw hrz
        go_wp2_with fail
        have hr := HR.out
        subst hr
        go_step3
        refine ⟨rfl, ⟨k + 1, v4, _, _, _, _, _, _, _, _, _, _, _, _, _, _, _, _, _, _, _, _, _, _, _, _, _, _, _, _, _, _, _, _, _, _, _, _, _, by omega, ?_, HSW.out, rfl⟩, HRZ.out⟩
        rw [HT.out, deL_snoc]
        exact HOWN.out
    · obtain rfl : k = 2 := by omega
      have hs2 : restP z 2 = ⟨#[]⟩ := rfl
      rw [hs2]
      have hd := descs_of_own (l := descs z) HO.out
      have HD := Lib.hid hd
      clear hd
      go_wp2_with fail
      simp only [jump1]
      go_ret2
      exact ⟨HS.out, _, rfl, HD.out⟩
end Go.Proofs.YtpkpfebhdgbgbaaGreatDoor.D
