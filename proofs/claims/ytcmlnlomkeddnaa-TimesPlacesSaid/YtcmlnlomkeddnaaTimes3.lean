/- The times: Decode. No condition. -/
import Derived.Test.YtcmlnlomkeddnaaTimes2
import Derived.Test.YtcmlnlomkeddnaaBitsIn
namespace Go.Proofs.Ytcmlnlomkeddnaa
open Go.RowKit
set_option linter.unusedSimpArgs false
set_option linter.unusedVariables false

theorem read_any (s : ByteArray) (w : World) : Calls Try.prog 34 #[.string s] w fun e w' => e = .returned (.pointer (some ⟨w.heap.size, 0, none⟩)) ∧ w.alloc (.cells #[.int .i64 0, .int .i64 0, .string s] 79) = w' := by
  go_enter Try.func34, Try.ntmps34
  go_wp2
  go_ret
  exact ⟨rfl, rfl⟩

theorem isIn_new (w : World) (s : ByteArray) : IsIn (w.alloc (.cells #[.int .i64 0, .int .i64 0, .string s] 79)) w.heap.size 0 0 s := World.alloc_heap_new _ _

/-- Get by Go's own numbers. -/
theorem get_at (b p n : Nat) (s : ByteArray) (N : Int) (w : World) (h : IsIn w b p 0 s) (hs : s.size < 1099511627776) (hN : N = n) (hp : p + n ≤ 8 * s.size) (hn : n ≤ 64) :
    Calls Try.prog 35 #[.pointer (some ⟨b, 0, none⟩), .int .i64 N] w (GetPost w b (p + n) 0 s (numFrom s p n)) := by
  rw [hN]; exact get_ok b p n s w h hs hp hn

def DecPost (w : World) (d : Int) (t f : Bool) (a n : Int) (e : Ending) (w' : World) : Prop := e = .returned (.tuple #[.agg #[.int .i64 d, .bool t, .bool f, .int .i64 a], .int .i64 n]) ∧ Same [] w w'

theorem decode_short (s : ByteArray) (w : World) (h : s.size < 4) : Calls Try.prog 24 #[.string s] w (DecPost w 0 false false 0 10) := by
  go_enter Try.func24, Try.ntmps24
  go_wp2
  exact bodyPost_ret (v := .tuple #[.agg #[.int .i64 0, .bool false, .bool false, .int .i64 0], .int .i64 10]) (by simp [results, Try.results24, go_sem]) rfl ⟨rfl, (Same.refl _ w).alloc _⟩
theorem decode_long (s : ByteArray) (w : World) (h : 4 < s.size) (hs : s.size ≤ 9223372036854775807) : Calls Try.prog 24 #[.string s] w (DecPost w 0 false false 0 11) := by
  go_enter Try.func24, Try.ntmps24
  go_wp2
  exact bodyPost_ret (v := .tuple #[.agg #[.int .i64 0, .bool false, .bool false, .int .i64 0], .int .i64 11]) (by simp [results, Try.results24, go_sem]) rfl ⟨rfl, (Same.refl _ w).alloc _⟩

theorem cells4 {W : World} {c : Nat} {e : TypeId} {v0 v1 v2 v3 : Value} (h : W.heap[c]? = some (.cells #[v0, v1, v2, v3] e (0, 0))) :
    W.cell? ⟨c, 0, none⟩ = some v0 ∧ W.cell? ⟨c, 1, none⟩ = some v1 ∧ W.cell? ⟨c, 2, none⟩ = some v2 ∧ W.cell? ⟨c, 3, none⟩ = some v3 ∧
    W.frozen? ⟨c, 0, none⟩ = false ∧ W.frozen? ⟨c, 1, none⟩ = false ∧ W.frozen? ⟨c, 2, none⟩ = false ∧ W.frozen? ⟨c, 3, none⟩ = false :=
  ⟨by rw [cell_of h]; rfl, by rw [cell_of h]; rfl, by rw [cell_of h]; rfl, by rw [cell_of h]; rfl, free_of h 0, free_of h 1, free_of h 2, free_of h 3⟩

structure DecInv (w W : World) (s : ByteArray) (c p : Nat) (d : Int) (t f : Bool) (a : Int) : Prop where
  isIn : IsIn W (w.heap.size + 1) p 0 s
  same : Same [] w W
  res : W.heap[w.heap.size]? = some (.cells #[.int .i64 0, .bool false, .bool false, .int .i64 0] 44 (0, 0))
  tim : W.heap[c]? = some (.cells #[.int .i64 d, .bool t, .bool f, .int .i64 a] 44 (0, 0))
  c2 : w.heap.size + 2 ≤ c

theorem DecInv.get {w W : World} {s : ByteArray} {c p n : Nat} {d : Int} {t f : Bool} {a : Int} (h : DecInv w W s c p d t f a) (N : Int) (hs : s.size = 4) (hN : N = n) (hp : p + n ≤ 32) (hn : n ≤ 64) :
    Calls Try.prog 35 #[.pointer (some ⟨w.heap.size + 1, 0, none⟩), .int .i64 N] W fun e w' => e = .returned (.int .u64 (numFrom s p n : Nat)) ∧ DecInv w w' s c (p + n) d t f a := by
  refine (get_at _ p n s N W h.isIn (by omega) hN (by omega) hn).mono ?_
  rintro e w' ⟨rfl, i, sm⟩
  have := h.c2
  exact ⟨rfl, i, h.same.trans sm (fun x hx hlt => by simp at hx; omega), sm.heap h.res (by simp), sm.heap h.tim (by simp; omega), h.c2⟩

theorem DecInv.set {w W : World} {s : ByteArray} {c p : Nat} {d : Int} {t f : Bool} {a : Int} (h : DecInv w W s c p d t f a) (i : Nat) (v : Value) {d' : Int} {t' f' : Bool} {a' : Int}
    (hv : (#[.int .i64 d, .bool t, .bool f, .int .i64 a] : Array Value).setIfInBounds i v = #[.int .i64 d', .bool t', .bool f', .int .i64 a']) : DecInv w (W.setCell ⟨c, i, none⟩ v) s c p d' t' f' a' := by
  have := h.c2
  refine ⟨?_, h.same.setCell (fun hlt => by simp at hlt; omega) v, ?_, ?_, h.c2⟩
  · rw [IsIn, set_other _ (by omega)]; exact h.isIn
  · rw [set_other _ (by omega)]; exact h.res
  · rw [set_same h.tim, hv]

set_option maxHeartbeats 2000000 in
theorem decode_ok (s : ByteArray) (w : World) (h : s.size = 4) : Calls Try.prog 24 #[.string s] w (DecPost w (numFrom s 0 12 : Nat) (numFrom s 12 1 == 1) (numFrom s 13 1 == 1) (numFrom s 14 18 : Nat) 0) := by
  have hs1 : ¬ s.size < 4 := by omega
  have hs2 : s.size ≤ 4 := by omega
  have HS := Lib.hid h
  clear h
  go_enter Try.func24, Try.ntmps24
  go_wp2_with (go_at_call 34; refine (read_any _ _).mono ?_; rintro e w' ⟨rfl, rfl⟩)
  have i0 : IsIn ((w.alloc (.cells #[.int .i64 0, .bool false, .bool false, .int .i64 0] 44)).alloc (.cells #[.int .i64 0, .int .i64 0, .string s] 79)) (w.heap.size + 1) 0 0 s := by
    have := isIn_new (w.alloc (.cells #[.int .i64 0, .bool false, .bool false, .int .i64 0] 44)) s
    rwa [World.size_alloc] at this
  have sm0 : Same [] w ((w.alloc (.cells #[.int .i64 0, .bool false, .bool false, .int .i64 0] 44)).alloc (.cells #[.int .i64 0, .int .i64 0, .string s] 79)) := ((Same.refl _ w).alloc _).alloc _
  have ct0 : ((w.alloc (.cells #[.int .i64 0, .bool false, .bool false, .int .i64 0] 44)).alloc (.cells #[.int .i64 0, .int .i64 0, .string s] 79)).heap[w.heap.size]? = some (.cells #[.int .i64 0, .bool false, .bool false, .int .i64 0] 44 (0, 0)) :=
    (Below.heap_alloc _ _ _ (by simp)).trans (World.alloc_heap_new _ _)
  have HI := Lib.hid i0; have HM := Lib.hid sm0; have HT := Lib.hid ct0
  clear i0 sm0 ct0
  -- Delta
  refine (get_at _ 0 12 s _ _ HI.out (by omega) rfl (by have := HS.out; omega) (by omega)).mono ?_
  rintro e w2 ⟨rfl, i2, sm2⟩
  have ht2 := sm2.heap HT.out (by simp)
  have hsz2 : w.heap.size + 2 ≤ w2.heap.size := by have := sm2.size; simp at this; omega
  have sm2' := HM.out.trans sm2 (fun x hx hlt => by simp at hx; omega)
  have HI2 := Lib.hid i2; have HT2 := Lib.hid ht2; have HM2 := Lib.hid sm2'
  clear i2 ht2 sm2 sm2' HI HT HM
  have hlt12 := numFrom_lt s 0 12
  go_wp2_with fail
  -- Table
  generalize hN0 : numFrom s 0 12 = n0 at *
  have D3 : DecInv w (w2.alloc (.cells #[.int .i64 n0, .bool false, .bool false, .int .i64 0] 44)) s w2.heap.size 12 n0 false false 0 :=
    ⟨(HI2.out).same (((Same.refl [] w2).alloc _)) (by simp), HM2.out.alloc _, (Below.heap_alloc _ _ _ (heap_lt HT2.out)).trans HT2.out, World.alloc_heap_new _ _, hsz2⟩
  obtain ⟨c, hc⟩ : ∃ c, c = w2.heap.size := ⟨_, rfl⟩
  rw [← hc] at D3 hsz2 ⊢
  have HD3 := Lib.hid D3
  clear D3 HI2 HT2 HM2 hc
  refine (HD3.out.get (n := 1) _ HS.out rfl (by omega) (by omega)).mono ?_
  rintro e w3 ⟨rfl, D4⟩
  obtain ⟨k0, k1, k2, k3, f0, f1, f2, f3⟩ := cells4 D4.tim
  have D5 := D4.set 1 (.bool (numFrom s 12 1 == 1)) (d' := n0) (t' := numFrom s 12 1 == 1) (f' := false) (a' := 0) rfl
  have HD4 := Lib.hid D5
  have e1 : (((numFrom s 12 1 : Nat) : Int) == 1) = (numFrom s 12 1 == 1) := by rw [Bool.eq_iff_iff]; simp; omega
  clear D4 D5 HD3
  generalize hN1 : numFrom s 12 1 = n1 at *
  go_wp2_with fail
  refine (HD4.out.get (n := 1) _ HS.out rfl (by omega) (by omega)).mono ?_
  rintro e w4 ⟨rfl, D4⟩
  clear k0 k1 k2 k3 f0 f1 f2 f3 e1
  obtain ⟨k0, k1, k2, k3, f0, f1, f2, f3⟩ := cells4 D4.tim
  have D5 := D4.set 2 (.bool (numFrom s 13 1 == 1)) (d' := n0) (t' := n1 == 1) (f' := numFrom s 13 1 == 1) (a' := 0) rfl
  have HD5 := Lib.hid D5
  have e1 : (((numFrom s (12 + 1) 1 : Nat) : Int) == 1) = (numFrom s 13 1 == 1) := by rw [Bool.eq_iff_iff]; simp; omega
  clear D4 D5 HD4
  go_wp2_with fail
  refine (HD5.out.get (n := 18) _ HS.out rfl (by omega) (by omega)).mono ?_
  rintro e w5 ⟨rfl, D4⟩
  clear k0 k1 k2 k3 f0 f1 f2 f3 e1
  obtain ⟨k0, k1, k2, k3, f0, f1, f2, f3⟩ := cells4 D4.tim
  have D5 := D4.set 3 (.int .i64 (numFrom s 14 18 : Nat)) (d' := n0) (t' := n1 == 1) (f' := numFrom s 13 1 == 1) (a' := (numFrom s 14 18 : Nat)) rfl
  have hlt18 := numFrom_lt s 14 18
  generalize hN2 : numFrom s 14 18 = n2 at *
  obtain ⟨r0, r1, r2, r3, g0, g1, g2, g3⟩ := cells4 D4.res
  have hne : w.heap.size ≠ c := by omega
  have hne' : c ≠ w.heap.size := by omega
  have HD6 := Lib.hid D5
  clear D4 D5 HD5
  go_wp2
  refine bodyPost_ret (v := .tuple #[.agg #[.int .i64 n0, .bool (n1 == 1), .bool (numFrom s 13 1 == 1), .int .i64 n2], .int .i64 0]) ?_ rfl ⟨rfl, ?_⟩
  · simp [results, Try.results24, go_sem, r0, r1, r2, r3]
  · exact (((HD6.out.same.setCell (by simp) _).setCell (by simp) _).setCell (by simp) _).setCell (by simp) _

end Go.Proofs.Ytcmlnlomkeddnaa
