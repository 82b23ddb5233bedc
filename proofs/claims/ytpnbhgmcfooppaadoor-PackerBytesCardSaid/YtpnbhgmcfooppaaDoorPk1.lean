/- The packet of 188 bytes, in the program (Decode). Condition: the table 'widths' (block 0) holds what its initialiser lays; the bytes are fewer than 2^40. -/
import Derived.Test.YtpnbhgmcfooppaaDoorDn7
import Derived.LoopN
import Derived.Deep.DeepCutAuto
import Derived.Laws.ResultCell
namespace Go.Proofs.YtpnbhgmcfooppaaDoor
open Go.RowKit
set_option linter.unusedSimpArgs false
set_option linter.unusedVariables false

/-- The table 'widths' lies in block 0. -/
def Tab (w : World) : Prop := w.cell? ⟨0, 0, none⟩ = some (.int .i64 8) ∧ w.cell? ⟨0, 1, none⟩ = some (.int .i64 1) ∧ w.cell? ⟨0, 2, none⟩ = some (.int .i64 1) ∧ w.cell? ⟨0, 3, none⟩ = some (.int .i64 1) ∧
  w.cell? ⟨0, 4, none⟩ = some (.int .i64 13) ∧ w.cell? ⟨0, 5, none⟩ = some (.int .i64 2) ∧ w.cell? ⟨0, 6, none⟩ = some (.int .i64 2) ∧ w.cell? ⟨0, 7, none⟩ = some (.int .i64 4)
theorem Tab.same {w w' : World} {S : List Nat} (h : Tab w) (hs : Same S w w') (h0 : 0 ∉ S) : Tab w' := by
  obtain ⟨a0, a1, a2, a3, a4, a5, a6, a7⟩ := h
  exact ⟨hs.cell a0 h0, hs.cell a1 h0, hs.cell a2 h0, hs.cell a3 h0, hs.cell a4 h0, hs.cell a5 h0, hs.cell a6 h0, hs.cell a7 h0⟩
theorem Tab.lt {w : World} (h : Tab w) : 0 < w.heap.size := World.block_lt_of_cell? w _ h.1

/-- What is wrong with the bytes of a packet. -/
def decE (s : ByteArray) : Int :=
  if s.size < 188 then 10 else if 188 < s.size then 11 else if byteOf s 0 ≠ 71 then 20
  else if byteOf s 3 / 16 % 4 = 1 then 0
  else if byteOf s 3 / 16 % 4 = 2 then (if byteOf s 4 = 183 then 0 else 12)
  else if byteOf s 3 / 16 % 4 = 3 then (if byteOf s 4 < 183 then 0 else 12) else 12
def decB (s : ByteArray) : ByteArray :=
  if byteOf s 3 / 16 % 4 = 1 then s.extract 4 s.size else if byteOf s 3 / 16 % 4 = 2 then ⟨#[]⟩ else s.extract (5 + byteOf s 4) s.size
/-- The packet of bytes. -/
def decV (s : ByteArray) : Value := .agg #[.int .i64 (byteOf s 1 % 32 * 256 + byteOf s 2 : Nat), .bool (byteOf s 1 / 64 % 2 == 1), .int .i64 (byteOf s 3 % 16 : Nat), .bool (byteOf s 1 / 128 == 1), .string (decB s)]
def zeroV : Value := .agg #[.int .i64 0, .bool false, .int .i64 0, .bool false, .string ⟨#[]⟩]
def DecPost (w : World) (s : ByteArray) (e : Ending) (w' : World) : Prop := Same [] w w' ∧ e = .returned (.tuple #[if decE s = 0 then decV s else zeroV, .int .i64 (decE s)])

theorem beq_one (a : Nat) : ((a : Int) == 1) = (a == 1) := by rw [Bool.eq_iff_iff]; simp; omega
theorem num_8_1' (s : ByteArray) : numFrom s 8 1 = byteOf s 1 / 128 := by
  have := byteOf_lt s 1
  simp [numFrom, strBit]; omega
theorem num_9_1 (s : ByteArray) : numFrom s 9 1 = byteOf s 1 / 64 % 2 := by
  have := byteOf_lt s 1
  simp [numFrom, strBit]
theorem num_add (s : ByteArray) (p n : Nat) : ∀ m, numFrom s p (n + m) = numFrom s p n * 2 ^ m + numFrom s (p + n) m
  | 0 => by simp [numFrom]
  | m + 1 => by
    rw [← Nat.add_assoc, numFrom, num_add s p n m, numFrom, Nat.pow_succ, Nat.add_assoc p n m, ← Nat.mul_assoc]
    omega
theorem num_11_5 (s : ByteArray) : numFrom s 11 5 = byteOf s 1 % 32 := by
  have := byteOf_lt s 1
  simp [numFrom, strBit]; omega
theorem num_16_8 (s : ByteArray) : numFrom s 16 8 = byteOf s 2 := by
  have := byteOf_lt s 2
  simp [numFrom, strBit]; omega
theorem num_11_13 (s : ByteArray) : numFrom s 11 13 = byteOf s 1 % 32 * 256 + byteOf s 2 := by
  rw [show (13 : Nat) = 5 + 8 from rfl, num_add, num_11_5, num_16_8]
theorem num_26_2 (s : ByteArray) : numFrom s 26 2 = byteOf s 3 / 16 % 4 := by
  have := byteOf_lt s 3
  simp [numFrom, strBit]; omega
theorem num_28_4 (s : ByteArray) : numFrom s 28 4 = byteOf s 3 % 16 := by
  have := byteOf_lt s 3
  simp [numFrom, strBit]; omega

theorem width_0 (W : World) (a0 a1 a2 a3 a4 a5 a6 a7 : Value) : (Instr.index 85 (.agg #[a0, a1, a2, a3, a4, a5, a6, a7]) (.int .i64 0)).run Tryd.prog W = .ok a0 W := by kernel_rfl
theorem width_1 (W : World) (a0 a1 a2 a3 a4 a5 a6 a7 : Value) : (Instr.index 85 (.agg #[a0, a1, a2, a3, a4, a5, a6, a7]) (.int .i64 1)).run Tryd.prog W = .ok a1 W := by kernel_rfl
theorem width_2 (W : World) (a0 a1 a2 a3 a4 a5 a6 a7 : Value) : (Instr.index 85 (.agg #[a0, a1, a2, a3, a4, a5, a6, a7]) (.int .i64 2)).run Tryd.prog W = .ok a2 W := by kernel_rfl
theorem width_3 (W : World) (a0 a1 a2 a3 a4 a5 a6 a7 : Value) : (Instr.index 85 (.agg #[a0, a1, a2, a3, a4, a5, a6, a7]) (.int .i64 3)).run Tryd.prog W = .ok a3 W := by kernel_rfl
theorem width_4 (W : World) (a0 a1 a2 a3 a4 a5 a6 a7 : Value) : (Instr.index 85 (.agg #[a0, a1, a2, a3, a4, a5, a6, a7]) (.int .i64 4)).run Tryd.prog W = .ok a4 W := by kernel_rfl
theorem width_5 (W : World) (a0 a1 a2 a3 a4 a5 a6 a7 : Value) : (Instr.index 85 (.agg #[a0, a1, a2, a3, a4, a5, a6, a7]) (.int .i64 5)).run Tryd.prog W = .ok a5 W := by kernel_rfl
theorem width_6 (W : World) (a0 a1 a2 a3 a4 a5 a6 a7 : Value) : (Instr.index 85 (.agg #[a0, a1, a2, a3, a4, a5, a6, a7]) (.int .i64 6)).run Tryd.prog W = .ok a6 W := by kernel_rfl
theorem width_7 (W : World) (a0 a1 a2 a3 a4 a5 a6 a7 : Value) : (Instr.index 85 (.agg #[a0, a1, a2, a3, a4, a5, a6, a7]) (.int .i64 7)).run Tryd.prog W = .ok a7 W := by kernel_rfl

set_option maxRecDepth 100000 in
set_option maxHeartbeats 8000000 in
theorem decode_short (s : ByteArray) (w : World) (h : s.size < 188 ∨ (188 ≤ s.size ∧ 188 < s.size) ∨ (s.size = 188 ∧ byteOf s 0 ≠ 71)) : Calls Tryd.prog 26 #[.string s] w (DecPost w s) := by
  obtain ⟨k0, k1, k2, k3, k4⟩ := pkt_cells (heap_alloc_new w (.cells #[.int .i64 0, .bool false, .int .i64 0, .bool false, .string ⟨#[]⟩] 37))
  rcases h with h | ⟨h, h2⟩ | ⟨h, h2⟩
  · have he : decE s = 10 := by unfold decE; rw [if_pos h]
    have hi : (s.size : Int) < 188 := by omega
    have HE := Lib.hid he
    clear he h
    go_enter Tryd.func26, Tryd.ntmps26
    go_wp2_with fail
    refine bodyPost_ret (v := .tuple #[zeroV, .int .i64 10]) ?_ rfl ⟨(Same.refl [] w).alloc _, by rw [HE.out]; rfl⟩
    simp [results, Tryd.results26, go_sem, k0, k1, k2, k3, k4, zeroV]
  · have he : decE s = 11 := by unfold decE; rw [if_neg (by omega), if_pos h2]
    have hi : ¬ (s.size : Int) < 188 := by omega
    have hi2 : (188 : Int) < (s.size : Int) := by omega
    have HE := Lib.hid he
    clear he h h2
    go_enter Tryd.func26, Tryd.ntmps26
    go_wp2_with fail
    refine bodyPost_ret (v := .tuple #[zeroV, .int .i64 11]) ?_ rfl ⟨(Same.refl [] w).alloc _, by rw [HE.out]; rfl⟩
    simp [results, Tryd.results26, go_sem, k0, k1, k2, k3, k4, zeroV]
  · have he : decE s = 20 := by unfold decE; rw [if_neg (by omega), if_neg (by omega), if_pos h2]
    have hi : ¬ (s.size : Int) < 188 := by omega
    have hi2 : ¬ (188 : Int) < (s.size : Int) := by omega
    have hp : 0 < s.size := by omega
    have hpi : (0 : Int) < (s.size : Int) := by omega
    have hb0 := byteOf_at s 0 hp
    have hne : (((byteOf s 0 : Nat) : Int) != 71) = true := by simp; omega
    have HE := Lib.hid he
    clear he h h2
    go_enter Tryd.func26, Tryd.ntmps26
    go_wp2_with fail
    refine bodyPost_ret (v := .tuple #[zeroV, .int .i64 20]) ?_ rfl ⟨(Same.refl [] w).alloc _, by rw [HE.out]; rfl⟩
    simp [results, Tryd.results26, go_sem, k0, k1, k2, k3, k4, zeroV]

/-- The reader and the array of Decode, under way. -/
def DX (w3 : World) (I X : Nat) (s : ByteArray) (p : Nat) (c : Array Value) (v : World) : Prop := Same [I, X] w3 v ∧ IsIn v I p 0 s ∧ v.heap[X]? = some (.cells c 85 (0, 0))
theorem DX.set {w3 v : World} {I X p : Nat} {s : ByteArray} {c : Array Value} (h : DX w3 I X s p c v) (hne : I ≠ X) (k : Nat) (u : Value) : DX w3 I X s p (c.setIfInBounds k u) (v.setCell ⟨X, k, none⟩ u) :=
  ⟨h.1.setCell (fun _ => by simp) u, (set_other u hne).trans h.2.1, set_same h.2.2 u⟩
theorem DX.get {w3 v : World} {I X p n : Nat} {m : Int} {s : ByteArray} {c : Array Value} (h : DX w3 I X s p c v) (hne : I ≠ X) (hm : (n : Int) = m) (hs : s.size < 1099511627776) (hp : p + n ≤ 8 * s.size) (hn : n ≤ 64) :
    Calls Tryd.prog 40 #[.pointer (some ⟨I, 0, none⟩), .int .i64 m] v (fun e v' => e = .returned (.int .u64 (numFrom s p n)) ∧ DX w3 I X s (p + n) c v') :=
  (get_at I p n m hm s v v h.2.1 (Same.refl _ _) hs hp hn).mono fun e v' ⟨h1, h2, h3⟩ => ⟨h1, h.1.trans h3 (fun x hx _ => by simp at hx; simp [hx]), h2, h3.heap h.2.2 (by simp; exact fun e => hne e.symm)⟩
theorem DX.cells {w3 v : World} {I X p : Nat} {s : ByteArray} {c : Array Value} (h : DX w3 I X s p c v) (i : Nat) : v.cell? ⟨X, i, none⟩ = c[i]? := cell_of h.2.2 i
theorem DX.free {w3 v : World} {I X p : Nat} {s : ByteArray} {c : Array Value} (h : DX w3 I X s p c v) (i : Nat) : v.frozen? ⟨X, i, none⟩ = false := free_of h.2.2 i

/-- The five cells of a packet, stored anew. -/
theorem dec_chain {w v : World} {B : Nat} {c : Array Value} (hr : v.heap[B]? = some (.cells c 37 (0, 0))) (hc : c.size = 5) (hs : Same [] w v) (hB : w.heap.size ≤ B) (y0 y1 y2 y3 y4 : Value) :
    (((((v.setCell ⟨B, 0, none⟩ y0).setCell ⟨B, 1, none⟩ y1).setCell ⟨B, 2, none⟩ y2).setCell ⟨B, 3, none⟩ y3).setCell ⟨B, 4, none⟩ y4).heap[B]? = some (.cells #[y0, y1, y2, y3, y4] 37 (0, 0)) ∧
    Same [] w (((((v.setCell ⟨B, 0, none⟩ y0).setCell ⟨B, 1, none⟩ y1).setCell ⟨B, 2, none⟩ y2).setCell ⟨B, 3, none⟩ y3).setCell ⟨B, 4, none⟩ y4) := by
  refine ⟨?_, ((((hs.setCell (fun h => ?_) y0).setCell (fun h => ?_) y1).setCell (fun h => ?_) y2).setCell (fun h => ?_) y3).setCell (fun h => ?_) y4⟩
  · obtain ⟨l⟩ := c
    match l, hc with
    | [a, b, d, e, f], _ => exact (set_same (i := 4) (set_same (i := 3) (set_same (i := 2) (set_same (i := 1) (set_same (i := 0) hr y0) y1) y2) y3) y4).trans rfl
  all_goals exact absurd h (by simp; omega)

set_option maxRecDepth 100000 in
set_option maxHeartbeats 8000000 in
theorem decode_long (s : ByteArray) (w : World) (h : s.size = 188) (h7 : byteOf s 0 = 71) (ht : Tab w) : Calls Tryd.prog 26 #[.string s] w (DecPost w s) := by
  have hi : ¬ (s.size : Int) < 188 := by omega
  have hi2 : ¬ (188 : Int) < (s.size : Int) := by omega
  have hp : 0 < s.size := by omega
  have hpi : (0 : Int) < (s.size : Int) := by omega
  have hb0 := byteOf_at s 0 hp
  have hne : (((byteOf s 0 : Nat) : Int) != 71) = false := by simp; omega
  have hs : s.size < 1099511627776 := by omega
  have HR := Lib.hid (heap_alloc_new w (.cells #[.int .i64 0, .bool false, .int .i64 0, .bool false, .string ⟨#[]⟩] 37))
  have HT := Lib.hid ht
  have h0 := ht.lt
  have HS := Lib.hid hs; have H188 := Lib.hid h
  clear ht hs h
  go_enter Tryd.func26, Tryd.ntmps26
  go_wp2_with fail
  (with_reducible refine (bread_any s _).mono ?_)
  rintro e w1 ⟨rfl, rfl⟩
  go_upto_region 9 with fail
  have hw : Same [] w (((w.alloc (.cells #[.int .i64 0, .bool false, .int .i64 0, .bool false, .string ⟨#[]⟩] 37)).alloc (.cells #[.int .i64 0, .int .i64 0, .string s] 105)).alloc
    (.cells #[.int .i64 0, .int .i64 0, .int .i64 0, .int .i64 0, .int .i64 0, .int .i64 0, .int .i64 0, .int .i64 0] 85)) := (((Same.refl [] w).alloc _).alloc _).alloc _
  have hr := (Below.heap_alloc _ (.cells #[.int .i64 0, .int .i64 0, .int .i64 0, .int .i64 0, .int .i64 0, .int .i64 0, .int .i64 0, .int .i64 0] 85) _ (by simp; omega)).trans ((Below.heap_alloc _ (.cells #[.int .i64 0, .int .i64 0, .string s] 105) _ (by simp)).trans HR.out)
  have hin := (Below.heap_alloc _ (.cells #[.int .i64 0, .int .i64 0, .int .i64 0, .int .i64 0, .int .i64 0, .int .i64 0, .int .i64 0, .int .i64 0] 85) _ (by simp)).trans (isIn_new (w.alloc (.cells #[.int .i64 0, .bool false, .int .i64 0, .bool false, .string ⟨#[]⟩] 37)) s)
  have hx := heap_alloc_new ((w.alloc (.cells #[.int .i64 0, .bool false, .int .i64 0, .bool false, .string ⟨#[]⟩] 37)).alloc (.cells #[.int .i64 0, .int .i64 0, .string s] 105)) (.cells #[.int .i64 0, .int .i64 0, .int .i64 0, .int .i64 0, .int .i64 0, .int .i64 0, .int .i64 0, .int .i64 0] 85)
  have ht3 := HT.out.same hw (by simp)
  simp only [World.size_alloc] at hin hx
  generalize hW : (((w.alloc (.cells #[.int .i64 0, .bool false, .int .i64 0, .bool false, .string ⟨#[]⟩] 37)).alloc (.cells #[.int .i64 0, .int .i64 0, .string s] 105)).alloc
    (.cells #[.int .i64 0, .int .i64 0, .int .i64 0, .int .i64 0, .int .i64 0, .int .i64 0, .int .i64 0, .int .i64 0] 85)) = w3 at *
  clear hW
  obtain ⟨t0, t1, t2, t3, t4, t5, t6, t7⟩ := ht3
  have D := Lib.hid (show DX w3 (w.heap.size + 1) (w.heap.size + 1 + 1) s 0 #[.int .i64 0, .int .i64 0, .int .i64 0, .int .i64 0, .int .i64 0, .int .i64 0, .int .i64 0, .int .i64 0] w3 from ⟨Same.refl _ _, hin, hx⟩)
  have HW := Lib.hid hw; have R := Lib.hid hr
  clear hw hr hin hx HT HR
  have f0 := width_0; have f1 := width_1; have f2 := width_2; have f3 := width_3; have f4 := width_4; have f5 := width_5; have f6 := width_6; have f7 := width_7
  go_wp2_with fail
  clear t0 t1 t2 t3 t4 t5 t6 t7
  refine wp_loop_rounds 9 ?_
  rw [rounds_succ]
  go_wp2_with fail
  (with_reducible refine Calls.mono (DX.get (n := 8) D.out (by omega) rfl HS.out (by have := H188.out; omega) (by omega)) ?_)
  rintro e v0 ⟨rfl, hd⟩
  have hlt0 := numFrom_lt s 0 8
  obtain ⟨a0, ha0⟩ : ∃ a, numFrom s 0 8 = a := ⟨_, rfl⟩
  rw [ha0] at hlt0
  rw [ha0]
  have hc := hd.cells 0
  have hf := hd.free 0
  simp only [List.getElem?_toArray, List.getElem?_cons_zero, List.getElem?_cons_succ] at hc
  have A0 := Lib.hid ha0
  have D := Lib.hid (show DX w3 (w.heap.size + 1) (w.heap.size + 1 + 1) s 8 #[.int .i64 (a0 : Nat), .int .i64 0, .int .i64 0, .int .i64 0, .int .i64 0, .int .i64 0, .int .i64 0, .int .i64 0] _ from hd.set (by omega) 0 (.int .i64 (a0 : Nat)))
  clear hd ha0
  go_wp2_with fail
  clear hc hf
  rw [rounds_succ]
  go_wp2_with fail
  (with_reducible refine Calls.mono (DX.get (n := 1) D.out (by omega) rfl HS.out (by have := H188.out; omega) (by omega)) ?_)
  rintro e v1 ⟨rfl, hd⟩
  have hlt1 := numFrom_lt s 8 1
  obtain ⟨a1, ha1⟩ : ∃ a, numFrom s 8 1 = a := ⟨_, rfl⟩
  rw [ha1] at hlt1
  rw [ha1]
  have hc := hd.cells 1
  have hf := hd.free 1
  simp only [List.getElem?_toArray, List.getElem?_cons_zero, List.getElem?_cons_succ] at hc
  have A1 := Lib.hid ha1
  have D := Lib.hid (show DX w3 (w.heap.size + 1) (w.heap.size + 1 + 1) s 9 #[.int .i64 (a0 : Nat), .int .i64 (a1 : Nat), .int .i64 0, .int .i64 0, .int .i64 0, .int .i64 0, .int .i64 0, .int .i64 0] _ from hd.set (by omega) 1 (.int .i64 (a1 : Nat)))
  clear hd ha1
  go_wp2_with fail
  clear hc hf
  rw [rounds_succ]
  go_wp2_with fail
  (with_reducible refine Calls.mono (DX.get (n := 1) D.out (by omega) rfl HS.out (by have := H188.out; omega) (by omega)) ?_)
  rintro e v2 ⟨rfl, hd⟩
  have hlt2 := numFrom_lt s 9 1
  obtain ⟨a2, ha2⟩ : ∃ a, numFrom s 9 1 = a := ⟨_, rfl⟩
  rw [ha2] at hlt2
  rw [ha2]
  have hc := hd.cells 2
  have hf := hd.free 2
  simp only [List.getElem?_toArray, List.getElem?_cons_zero, List.getElem?_cons_succ] at hc
  have A2 := Lib.hid ha2
  have D := Lib.hid (show DX w3 (w.heap.size + 1) (w.heap.size + 1 + 1) s 10 #[.int .i64 (a0 : Nat), .int .i64 (a1 : Nat), .int .i64 (a2 : Nat), .int .i64 0, .int .i64 0, .int .i64 0, .int .i64 0, .int .i64 0] _ from hd.set (by omega) 2 (.int .i64 (a2 : Nat)))
  clear hd ha2
  go_wp2_with fail
  clear hc hf
  rw [rounds_succ]
  go_wp2_with fail
  (with_reducible refine Calls.mono (DX.get (n := 1) D.out (by omega) rfl HS.out (by have := H188.out; omega) (by omega)) ?_)
  rintro e v3 ⟨rfl, hd⟩
  have hlt3 := numFrom_lt s 10 1
  obtain ⟨a3, ha3⟩ : ∃ a, numFrom s 10 1 = a := ⟨_, rfl⟩
  rw [ha3] at hlt3
  rw [ha3]
  have hc := hd.cells 3
  have hf := hd.free 3
  simp only [List.getElem?_toArray, List.getElem?_cons_zero, List.getElem?_cons_succ] at hc
  have A3 := Lib.hid ha3
  have D := Lib.hid (show DX w3 (w.heap.size + 1) (w.heap.size + 1 + 1) s 11 #[.int .i64 (a0 : Nat), .int .i64 (a1 : Nat), .int .i64 (a2 : Nat), .int .i64 (a3 : Nat), .int .i64 0, .int .i64 0, .int .i64 0, .int .i64 0] _ from hd.set (by omega) 3 (.int .i64 (a3 : Nat)))
  clear hd ha3
  go_wp2_with fail
  clear hc hf
  rw [rounds_succ]
  go_wp2_with fail
  (with_reducible refine Calls.mono (DX.get (n := 13) D.out (by omega) rfl HS.out (by have := H188.out; omega) (by omega)) ?_)
  rintro e v4 ⟨rfl, hd⟩
  have hlt4 := numFrom_lt s 11 13
  obtain ⟨a4, ha4⟩ : ∃ a, numFrom s 11 13 = a := ⟨_, rfl⟩
  rw [ha4] at hlt4
  rw [ha4]
  have hc := hd.cells 4
  have hf := hd.free 4
  simp only [List.getElem?_toArray, List.getElem?_cons_zero, List.getElem?_cons_succ] at hc
  have A4 := Lib.hid ha4
  have D := Lib.hid (show DX w3 (w.heap.size + 1) (w.heap.size + 1 + 1) s 24 #[.int .i64 (a0 : Nat), .int .i64 (a1 : Nat), .int .i64 (a2 : Nat), .int .i64 (a3 : Nat), .int .i64 (a4 : Nat), .int .i64 0, .int .i64 0, .int .i64 0] _ from hd.set (by omega) 4 (.int .i64 (a4 : Nat)))
  clear hd ha4
  go_wp2_with fail
  clear hc hf
  rw [rounds_succ]
  go_wp2_with fail
  (with_reducible refine Calls.mono (DX.get (n := 2) D.out (by omega) rfl HS.out (by have := H188.out; omega) (by omega)) ?_)
  rintro e v5 ⟨rfl, hd⟩
  have hlt5 := numFrom_lt s 24 2
  obtain ⟨a5, ha5⟩ : ∃ a, numFrom s 24 2 = a := ⟨_, rfl⟩
  rw [ha5] at hlt5
  rw [ha5]
  have hc := hd.cells 5
  have hf := hd.free 5
  simp only [List.getElem?_toArray, List.getElem?_cons_zero, List.getElem?_cons_succ] at hc
  have A5 := Lib.hid ha5
  have D := Lib.hid (show DX w3 (w.heap.size + 1) (w.heap.size + 1 + 1) s 26 #[.int .i64 (a0 : Nat), .int .i64 (a1 : Nat), .int .i64 (a2 : Nat), .int .i64 (a3 : Nat), .int .i64 (a4 : Nat), .int .i64 (a5 : Nat), .int .i64 0, .int .i64 0] _ from hd.set (by omega) 5 (.int .i64 (a5 : Nat)))
  clear hd ha5
  go_wp2_with fail
  clear hc hf
  rw [rounds_succ]
  go_wp2_with fail
  (with_reducible refine Calls.mono (DX.get (n := 2) D.out (by omega) rfl HS.out (by have := H188.out; omega) (by omega)) ?_)
  rintro e v6 ⟨rfl, hd⟩
  have hlt6 := numFrom_lt s 26 2
  obtain ⟨a6, ha6⟩ : ∃ a, numFrom s 26 2 = a := ⟨_, rfl⟩
  rw [ha6] at hlt6
  rw [ha6]
  have hc := hd.cells 6
  have hf := hd.free 6
  simp only [List.getElem?_toArray, List.getElem?_cons_zero, List.getElem?_cons_succ] at hc
  have A6 := Lib.hid ha6
  have D := Lib.hid (show DX w3 (w.heap.size + 1) (w.heap.size + 1 + 1) s 28 #[.int .i64 (a0 : Nat), .int .i64 (a1 : Nat), .int .i64 (a2 : Nat), .int .i64 (a3 : Nat), .int .i64 (a4 : Nat), .int .i64 (a5 : Nat), .int .i64 (a6 : Nat), .int .i64 0] _ from hd.set (by omega) 6 (.int .i64 (a6 : Nat)))
  clear hd ha6
  go_wp2_with fail
  clear hc hf
  rw [rounds_succ]
  go_wp2_with fail
  (with_reducible refine Calls.mono (DX.get (n := 4) D.out (by omega) rfl HS.out (by have := H188.out; omega) (by omega)) ?_)
  rintro e v7 ⟨rfl, hd⟩
  have hlt7 := numFrom_lt s 28 4
  obtain ⟨a7, ha7⟩ : ∃ a, numFrom s 28 4 = a := ⟨_, rfl⟩
  rw [ha7] at hlt7
  rw [ha7]
  have hc := hd.cells 7
  have hf := hd.free 7
  simp only [List.getElem?_toArray, List.getElem?_cons_zero, List.getElem?_cons_succ] at hc
  have A7 := Lib.hid ha7
  have D := Lib.hid (show DX w3 (w.heap.size + 1) (w.heap.size + 1 + 1) s 32 #[.int .i64 (a0 : Nat), .int .i64 (a1 : Nat), .int .i64 (a2 : Nat), .int .i64 (a3 : Nat), .int .i64 (a4 : Nat), .int .i64 (a5 : Nat), .int .i64 (a6 : Nat), .int .i64 (a7 : Nat)] _ from hd.set (by omega) 7 (.int .i64 (a7 : Nat)))
  clear hd ha7
  go_wp2_with fail
  clear hc hf
  rw [rounds_succ]
  have x1 := D.out.cells 1; have x2 := D.out.cells 2; have x4 := D.out.cells 4; have x6 := D.out.cells 6; have x7 := D.out.cells 7
  have r0 := D.out.1.heap R.out (by simp; omega)
  simp only [List.getElem?_toArray, List.getElem?_cons_zero, List.getElem?_cons_succ] at x1 x2 x4 x6 x7
  have hs8 := HW.out.trans D.out.1 (fun x hx hlt => by simp at hx; omega)
  have hsz := Nat.lt_of_lt_of_le (heap_lt R.out) D.out.1.size
  clear D R HW f0 f1 f2 f3 f4 f5 f6 f7
  generalize hV : v7.setCell ⟨w.heap.size + 1 + 1, 7, none⟩ (.int .i64 (a7 : Nat)) = v8 at *
  clear hV
  have e1 : ((a1 : Int) == 1) = (byteOf s 1 / 128 == 1) := by rw [← A1.out, num_8_1', beq_one]
  have e2 : ((a2 : Int) == 1) = (byteOf s 1 / 64 % 2 == 1) := by rw [← A2.out, num_9_1, beq_one]
  have e4 : a4 = byteOf s 1 % 32 * 256 + byteOf s 2 := by rw [← A4.out, num_11_13]
  have e6 : byteOf s 3 / 16 % 4 = a6 := by rw [← A6.out, num_26_2]
  have e7 : a7 = byteOf s 3 % 16 := by rw [← A7.out, num_28_4]
  obtain ⟨q1, hq1⟩ : ∃ q, (byteOf s 1 / 128 == 1) = q := ⟨_, rfl⟩
  obtain ⟨q2, hq2⟩ : ∃ q, (byteOf s 1 / 64 % 2 == 1) = q := ⟨_, rfl⟩
  rw [hq1] at e1; rw [hq2] at e2
  have HV := Lib.hid (show decV s = .agg #[.int .i64 (a4 : Nat), .bool q2, .int .i64 (a7 : Nat), .bool q1, .string (decB s)] by unfold decV; rw [hq1, hq2, e4, e7])
  have hp4 : 4 < s.size := by have := H188.out; omega
  have hb4 := byteOf_at s 4 hp4
  have hp4i : (4 : Int) < (s.size : Int) := by omega
  have hbl4 := byteOf_lt s 4
  have E6 := Lib.hid e6
  have S8 := Lib.hid hs8; have R0 := Lib.hid r0; have HQ1 := Lib.hid hq1; have HQ2 := Lib.hid hq2
  clear hlt0 hlt1 hlt2 hlt3 hlt4 hlt5 A0 A1 A2 A3 A4 A5 A6 A7 e4 e6 e7 hq1 hq2 hs8 r0 hsz
  go_upto_region 15 with fail
  have x6' := (show (v8.alloc (.cells #[.int .i64 (a4 : Nat), .bool q2, .int .i64 (a7 : Nat), .bool q1, .string ⟨#[]⟩] 37)).cell? _ = _ from ((Same.refl [] v8).alloc _).cell x6 (by simp))
  have hpk := heap_alloc_new v8 (.cells #[.int .i64 (a4 : Nat), .bool q2, .int .i64 (a7 : Nat), .bool q1, .string ⟨#[]⟩] 37)
  have hr9 := ((Same.refl [] v8).alloc (.cells #[.int .i64 (a4 : Nat), .bool q2, .int .i64 (a7 : Nat), .bool q1, .string ⟨#[]⟩] 37)).heap R0.out (by simp)
  have hs9 := S8.out.alloc (.cells #[.int .i64 (a4 : Nat), .bool q2, .int .i64 (a7 : Nat), .bool q1, .string ⟨#[]⟩] 37)
  have hlt89 : w.heap.size < v8.heap.size := heap_lt R0.out
  generalize v8.alloc (.cells #[.int .i64 (a4 : Nat), .bool q2, .int .i64 (a7 : Nat), .bool q1, .string ⟨#[]⟩] 37) = v9 at *
  clear x1 x2 x4 x6 x7 S8 R0
  obtain ⟨BP, hBP⟩ : ∃ BP, BP = v8.heap.size := ⟨_, rfl⟩
  rw [← hBP] at hpk hlt89 ⊢
  clear hBP
  obtain ⟨k0, k1, k2, k3, k4⟩ := pkt_cells hr9
  obtain ⟨l0, l1, l2, l3, l4⟩ := pkt_cells hpk
  have m4 := free_of hpk 4
  have n0 := free_of hr9 0; have n1 := free_of hr9 1; have n2 := free_of hr9 2; have n3 := free_of hr9 3; have n4 := free_of hr9 4
  have S9 := Lib.hid hs9; have R9 := Lib.hid hr9; have P9 := Lib.hid hpk
  clear hs9 hr9 hpk
  have h48 : (4 : Int) ≤ (s.size : Int) := by omega
  have g1 : ((a6 : Int) == 1) = (a6 == 1) := beq_one a6
  have g2 : ((a6 : Int) == 2) = (a6 == 2) := by rw [Bool.eq_iff_iff]; simp; omega
  have g3 : ((a6 : Int) == 3) = (a6 == 3) := by rw [Bool.eq_iff_iff]; simp; omega
  by_cases c1 : a6 = 1
  · have j1 : (a6 == 1) = true := by rw [c1]; rfl
    have HD := Lib.hid (show decE s = 0 by unfold decE; rw [if_neg (by have := H188.out; omega), if_neg (by have := H188.out; omega), if_neg (by omega), if_pos (by rw [E6.out]; exact c1)])
    have HB := Lib.hid (show decB s = s.extract 4 s.size by unfold decB; rw [if_pos (by rw [E6.out]; exact c1)])
    clear c1
    rw [j1] at g1
    clear j1
    go_wp2_with fail
    obtain ⟨hz, hsame⟩ := dec_chain ((set_other (i := 4) (.string (s.extract 4 s.size)) (by omega)).trans R9.out) rfl (S9.out.setCell (p := ⟨BP, 4, none⟩) (by simp; omega) (.string (s.extract 4 s.size))) (Nat.le_refl _) (.int .i64 (a4 : Nat)) (.bool q2) (.int .i64 (a7 : Nat)) (.bool q1) (.string (s.extract 4 s.size))
    obtain ⟨u0, u1, u2, u3, u4⟩ := pkt_cells hz
    refine bodyPost_ret (v := .tuple #[decV s, .int .i64 0]) ?_ rfl ⟨hsame, by rw [HD.out]; rfl⟩
    rw [HV.out, HB.out]
    clear k0 k1 k2 k3 k4
    simp [results, Tryd.results26, go_sem, u0, u1, u2, u3, u4]
  have j1 : (a6 == 1) = false := by simp; exact c1
  rw [j1] at g1
  clear j1
  by_cases c2 : a6 = 2
  · have j2 : (a6 == 2) = true := by rw [c2]; rfl
    rw [j2] at g2
    clear j2
    by_cases c183 : byteOf s 4 = 183
    · have d1 : (((byteOf s 4 : Nat) : Int) != 183) = false := by simp; omega
      have HD := Lib.hid (show decE s = 0 by unfold decE; rw [if_neg (by have := H188.out; omega), if_neg (by have := H188.out; omega), if_neg (by omega), if_neg (by rw [E6.out]; exact c1), if_pos (by rw [E6.out]; exact c2), if_pos c183])
      have HB := Lib.hid (show decB s = ⟨#[]⟩ by unfold decB; rw [if_neg (by rw [E6.out]; exact c1), if_pos (by rw [E6.out]; exact c2)])
      clear c1 c2 c183
      go_wp2_with fail
      obtain ⟨hz, hsame⟩ := dec_chain R9.out rfl S9.out (Nat.le_refl _) (.int .i64 (a4 : Nat)) (.bool q2) (.int .i64 (a7 : Nat)) (.bool q1) (.string ⟨#[]⟩)
      obtain ⟨u0, u1, u2, u3, u4⟩ := pkt_cells hz
      refine bodyPost_ret (v := .tuple #[decV s, .int .i64 0]) ?_ rfl ⟨hsame, by rw [HD.out]; rfl⟩
      rw [HV.out, HB.out]
      clear k0 k1 k2 k3 k4
      simp [results, Tryd.results26, go_sem, u0, u1, u2, u3, u4]
    · have d1 : (((byteOf s 4 : Nat) : Int) != 183) = true := by simp; omega
      have HD := Lib.hid (show decE s = 12 by unfold decE; rw [if_neg (by have := H188.out; omega), if_neg (by have := H188.out; omega), if_neg (by omega), if_neg (by rw [E6.out]; exact c1), if_pos (by rw [E6.out]; exact c2), if_neg c183])
      clear c1 c2 c183
      go_wp2_with fail
      obtain ⟨hz, hsame⟩ := dec_chain R9.out rfl S9.out (Nat.le_refl _) (.int .i64 0) (.bool false) (.int .i64 0) (.bool false) (.string ⟨#[]⟩)
      obtain ⟨u0, u1, u2, u3, u4⟩ := pkt_cells hz
      refine bodyPost_ret (v := .tuple #[zeroV, .int .i64 12]) ?_ rfl ⟨hsame, by rw [HD.out]; rfl⟩
      clear k0 k1 k2 k3 k4
      simp [results, Tryd.results26, go_sem, u0, u1, u2, u3, u4, zeroV]
  have j2 : (a6 == 2) = false := by simp; exact c2
  rw [j2] at g2
  clear j2
  by_cases c3 : a6 = 3
  · have j3 : (a6 == 3) = true := by rw [c3]; rfl
    rw [j3] at g3
    clear j3
    by_cases c183 : byteOf s 4 < 183
    · have d1 : ¬ (183 : Int) ≤ ((byteOf s 4 : Nat) : Int) := by omega
      have HD := Lib.hid (show decE s = 0 by unfold decE; rw [if_neg (by have := H188.out; omega), if_neg (by have := H188.out; omega), if_neg (by omega), if_neg (by rw [E6.out]; exact c1), if_neg (by rw [E6.out]; exact c2), if_pos (by rw [E6.out]; exact c3), if_pos c183])
      have HB := Lib.hid (show decB s = s.extract (5 + byteOf s 4) s.size by unfold decB; rw [if_neg (by rw [E6.out]; exact c1), if_neg (by rw [E6.out]; exact c2)])
      have hcut : (5 : Int) + (byteOf s 4 : Nat) ≤ (s.size : Int) := by have := H188.out; omega
      clear c1 c2 c3
      go_wp2_with fail
      obtain ⟨hz, hsame⟩ := dec_chain ((set_other (i := 4) (.string (s.extract (5 + byteOf s 4) s.size)) (by omega)).trans R9.out) rfl (S9.out.setCell (p := ⟨BP, 4, none⟩) (by simp; omega) (.string (s.extract (5 + byteOf s 4) s.size))) (Nat.le_refl _) (.int .i64 (a4 : Nat)) (.bool q2) (.int .i64 (a7 : Nat)) (.bool q1) (.string (s.extract (5 + byteOf s 4) s.size))
      obtain ⟨u0, u1, u2, u3, u4⟩ := pkt_cells hz
      refine bodyPost_ret (v := .tuple #[decV s, .int .i64 0]) ?_ rfl ⟨hsame, by rw [HD.out]; rfl⟩
      rw [HV.out, HB.out]
      clear k0 k1 k2 k3 k4
      simp [results, Tryd.results26, go_sem, u0, u1, u2, u3, u4]
    · have d1 : (183 : Int) ≤ ((byteOf s 4 : Nat) : Int) := by omega
      have HD := Lib.hid (show decE s = 12 by unfold decE; rw [if_neg (by have := H188.out; omega), if_neg (by have := H188.out; omega), if_neg (by omega), if_neg (by rw [E6.out]; exact c1), if_neg (by rw [E6.out]; exact c2), if_pos (by rw [E6.out]; exact c3), if_neg c183])
      clear c1 c2 c3 c183
      go_wp2_with fail
      obtain ⟨hz, hsame⟩ := dec_chain R9.out rfl S9.out (Nat.le_refl _) (.int .i64 0) (.bool false) (.int .i64 0) (.bool false) (.string ⟨#[]⟩)
      obtain ⟨u0, u1, u2, u3, u4⟩ := pkt_cells hz
      refine bodyPost_ret (v := .tuple #[zeroV, .int .i64 12]) ?_ rfl ⟨hsame, by rw [HD.out]; rfl⟩
      clear k0 k1 k2 k3 k4
      simp [results, Tryd.results26, go_sem, u0, u1, u2, u3, u4, zeroV]
  · have j3 : (a6 == 3) = false := by simp; exact c3
    rw [j3] at g3
    clear j3
    have HD := Lib.hid (show decE s = 12 by unfold decE; rw [if_neg (by have := H188.out; omega), if_neg (by have := H188.out; omega), if_neg (by omega), if_neg (by rw [E6.out]; exact c1), if_neg (by rw [E6.out]; exact c2), if_neg (by rw [E6.out]; exact c3)])
    clear c1 c2 c3
    go_wp2_with fail
    obtain ⟨hz, hsame⟩ := dec_chain R9.out rfl S9.out (Nat.le_refl _) (.int .i64 0) (.bool false) (.int .i64 0) (.bool false) (.string ⟨#[]⟩)
    obtain ⟨u0, u1, u2, u3, u4⟩ := pkt_cells hz
    refine bodyPost_ret (v := .tuple #[zeroV, .int .i64 12]) ?_ rfl ⟨hsame, by rw [HD.out]; rfl⟩
    clear k0 k1 k2 k3 k4
    simp [results, Tryd.results26, go_sem, u0, u1, u2, u3, u4, zeroV]

/-- packet.Decode. -/
theorem decode_any (s : ByteArray) (w : World) (ht : Tab w) : Calls Tryd.prog 26 #[.string s] w (DecPost w s) := by
  by_cases h1 : s.size < 188
  · exact decode_short s w (.inl h1)
  by_cases h2 : 188 < s.size
  · exact decode_short s w (.inr (.inl ⟨by omega, h2⟩))
  by_cases h3 : byteOf s 0 = 71
  · exact decode_long s w (by omega) h3 ht
  · exact decode_short s w (.inr (.inr ⟨by omega, h3⟩))

end Go.Proofs.YtpnbhgmcfooppaaDoor
