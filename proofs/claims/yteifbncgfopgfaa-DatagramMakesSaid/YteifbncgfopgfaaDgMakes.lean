/- The walk of the law DatagramMakes. Conditions: the reach of the arguments. -/
import Derived.Test.YteifbncgfopgfaaDgMakes2
import Derived.Test.YteifbncgfopgfaaDgPeeks
namespace Go.Proofs.Yteifbncgfopgfaa.Dg
open Go.RowKit
set_option linter.unusedSimpArgs false
set_option linter.unusedVariables false

def bytes (xs : List Int) : Array Value := (xs.map (Value.int .u8)).toArray
theorem bytes_size (xs : List Int) : (bytes xs).size = xs.length := by simp [bytes]
theorem bytes_at (xs : List Int) (k : Nat) (h : k < xs.length) : (bytes xs)[k]? = some (.int .u8 xs[k]) := by simp [bytes, h]
theorem bytes_set (xs : List Int) (k : Nat) (x : Int) : (bytes xs).setIfInBounds k (.int .u8 x) = bytes (xs.set k x) := by
  simp [bytes, List.map_set]
theorem load_at (W : World) (g n : Nat) (cs : Array Value) (t : TypeId) (h : W.heap[g]? = some (.cells cs t (0, 0))) (hl : cs.size = n) :
    (loadCellsFrom ⟨g, 0, none⟩ 0 n #[]).run Try.prog W = .ok cs W := by
  subst hl
  have := run_loadCells_list (P := Try.prog) (w := W) ⟨g, 0, none⟩ cs.toList (fun j v hj => by
    rw [show (⟨g, 0, none⟩ : Addr).add j = ⟨g, j, none⟩ by unfold Addr.add; split <;> simp_all, cell_of h]
    simpa using hj)
  simpa [loadCells] using this

theorem makes_long (e0 e1 : ByteArray) (p : Int) (body : ByteArray) (six : Bool) (w : World) (h : 4200 < body.size) (hm : body.size ≤ maxLen) :
    Calls Try.prog 6 #[.agg #[.string e0, .string e1], .int .i64 p, .agg #[.string body, .bool six]] w (AwakePost w) := by
  unfold maxLen at hm
  have h' : (4200 : Int) < (body.size : Int) := by omega
  go_enter Try.func6, Try.ntmps6
  go_wp2_with (go_at_call 10; (with_reducible refine (awake_any _).mono ?_); rintro e w' ⟨rfl, hs⟩; have HS := Lib.hid hs; clear hs)
  go_ret
  exact ⟨rfl, (((Same.refl _ w).alloc _).alloc _).trans_nil HS.out⟩

/-- What the two loops and the boxes of the arguments leave: four blocks. -/
def Four (w : World) (e0 e1 body : ByteArray) (six : Bool) (xs ys : List Int) (W : World) : Prop :=
  W.heap[w.heap.size]? = some (.cells #[.string e0, .string e1] 40 (0, 0)) ∧ W.heap[w.heap.size + 1]? = some (.cells #[.string body, .bool six] 42 (0, 0)) ∧
  W.heap[w.heap.size + 1 + 1]? = some (.cells (bytes xs) 43 (0, 0)) ∧ W.heap[w.heap.size + 1 + 1 + 1]? = some (.cells (bytes ys) 43 (0, 0))

theorem Four.setA {w : World} {e0 e1 body : ByteArray} {six : Bool} {xs ys : List Int} {W : World} (h : Four w e0 e1 body six xs ys W) (k : Nat) (x : Int) :
    Four w e0 e1 body six (xs.set k x) ys (W.setCell ⟨w.heap.size + 1 + 1, k, none⟩ (.int .u8 x)) := by
  obtain ⟨h0, h1, h2, h3⟩ := h
  refine ⟨(set_other _ (by omega)).trans h0, (set_other _ (by omega)).trans h1, ?_, (set_other _ (by omega)).trans h3⟩
  rw [set_same h2, bytes_set]
theorem Four.setB {w : World} {e0 e1 body : ByteArray} {six : Bool} {xs ys : List Int} {W : World} (h : Four w e0 e1 body six xs ys W) (k : Nat) (x : Int) :
    Four w e0 e1 body six xs (ys.set k x) (W.setCell ⟨w.heap.size + 1 + 1 + 1, k, none⟩ (.int .u8 x)) := by
  obtain ⟨h0, h1, h2, h3⟩ := h
  refine ⟨(set_other _ (by omega)).trans h0, (set_other _ (by omega)).trans h1, (set_other _ (by omega)).trans h2, ?_⟩
  rw [set_same h3, bytes_set]

/-- What the second loop knows: five blocks. -/
def Five (g q : Nat) (body : ByteArray) (xs ys cs ds : List Int) (p : Int) (W : World) : Prop :=
  W.heap[g + 1]? = some (.cells #[.string body, .bool false] 42 (0, 0)) ∧
  W.heap[g + 1 + 1]? = some (.cells (bytes xs) 43 (0, 0)) ∧ W.heap[g + 1 + 1 + 1]? = some (.cells (bytes ys) 43 (0, 0)) ∧
  W.heap[q]? = some (.cells #[.int .i64 6, .int .i64 40, .int .i64 (40 + body.size), .int .i64 p] 35 (0, 0)) ∧
  W.heap[q + 1]? = some (.cells (bytes cs) 47 (0, 0)) ∧ W.heap[q + 1 + 1]? = some (.cells (bytes ds) 47 (0, 0))
theorem Five.setC {g q : Nat} {body : ByteArray} {xs ys cs ds : List Int} {p : Int} {W : World} (h : Five g q body xs ys cs ds p W) (hq : g + 1 + 1 + 1 < q) (k : Nat) (x : Int) :
    Five g q body xs ys (cs.set k x) ds p (W.setCell ⟨q + 1, k, none⟩ (.int .u8 x)) := by
  obtain ⟨h1, h2, h3, h4, h5, h6⟩ := h
  refine ⟨(set_other _ (by omega)).trans h1, (set_other _ (by omega)).trans h2, (set_other _ (by omega)).trans h3, (set_other _ (by omega)).trans h4, ?_, (set_other _ (by omega)).trans h6⟩
  rw [set_same h5, bytes_set]
theorem Five.setD {g q : Nat} {body : ByteArray} {xs ys cs ds : List Int} {p : Int} {W : World} (h : Five g q body xs ys cs ds p W) (hq : g + 1 + 1 + 1 < q) (k : Nat) (x : Int) :
    Five g q body xs ys cs (ds.set k x) p (W.setCell ⟨q + 1 + 1, k, none⟩ (.int .u8 x)) := by
  obtain ⟨h1, h2, h3, h4, h5, h6⟩ := h
  refine ⟨(set_other _ (by omega)).trans h1, (set_other _ (by omega)).trans h2, (set_other _ (by omega)).trans h3, (set_other _ (by omega)).trans h4, (set_other _ (by omega)).trans h5, ?_⟩
  rw [set_same h6, bytes_set]

set_option maxRecDepth 100000 in
set_option maxHeartbeats 8000000 in
theorem makes_short (e0 e1 : ByteArray) (p : Int) (body : ByteArray) (six : Bool) (w : World) (h : body.size ≤ 4200) (z0 : e0.size ≤ maxLen) (z1 : e1.size ≤ maxLen) :
    Calls Try.prog 6 #[.agg #[.string e0, .string e1], .int .i64 p, .agg #[.string body, .bool six]] w (AwakePost w) := by
  unfold maxLen at z0 z1
  have h' : (body.size : Int) ≤ 4200 := by omega
  go_enter Try.func6, Try.ntmps6
  go_upto_region 5 with fail
  go_wp2_with fail
  go_loopw [9] (fun i wr => ∃ (k : Nat) (xs ys : List Int), k ≤ 16 ∧ xs.length = 16 ∧ ys.length = 16 ∧ i = .int .i64 k ∧ Four w e0 e1 body six xs ys wr ∧ Same [] w wr) (fun i _ => 16 - (intOf i).toNat)
  case atStart =>
    refine ⟨0, List.replicate 16 0, List.replicate 16 0, by omega, rfl, rfl, rfl, ⟨?_, ?_, ?_, ?_⟩, by repeat (first | with_reducible exact Same.refl _ _ | with_reducible refine Same.drew ?_ | with_reducible refine Same.alloc ?_ _)⟩
    · exact (Below.heap_alloc _ _ _ (by simp; try omega)).trans ((Below.heap_alloc _ _ _ (by simp; try omega)).trans ((Below.heap_alloc _ _ _ (by simp)).trans (heap_alloc_new w _)))
    · have := heap_alloc_new (w.alloc (.cells #[.string e0, .string e1] 40)) (.cells #[.string body, .bool six] 42)
      rw [World.size_alloc] at this
      exact (Below.heap_alloc _ _ _ (by simp; try omega)).trans ((Below.heap_alloc _ _ _ (by simp)).trans this)
    · have := heap_alloc_new ((w.alloc (.cells #[.string e0, .string e1] 40)).alloc (.cells #[.string body, .bool six] 42)) (.cells (bytes (List.replicate 16 0)) 43)
      rw [World.size_alloc, World.size_alloc] at this
      exact (Below.heap_alloc _ _ _ (by simp)).trans this
    · have := heap_alloc_new (((w.alloc (.cells #[.string e0, .string e1] 40)).alloc (.cells #[.string body, .bool six] 42)).alloc (.cells (bytes (List.replicate 16 0)) 43)) (.cells (bytes (List.replicate 16 0)) 43)
      rw [World.size_alloc, World.size_alloc, World.size_alloc] at this
      exact this
  case round =>
    obtain ⟨k, xs, ys, hk, hx, hy, rfl, ⟨f0, f1, f2, f3⟩, hs⟩ := hrel
    have HS := Lib.hid hs
    have c00 := cell_of f0 0; have c01 := cell_of f0 1; have c10 := cell_of f1 0; have c11 := cell_of f1 1
    simp only [List.getElem?_toArray, List.getElem?_cons_zero, List.getElem?_cons_succ] at c00 c01 c10 c11
    have HF := Lib.hid (show Four w e0 e1 body six xs ys wr from ⟨f0, f1, f2, f3⟩)
    have H0 := Lib.hid f0; have H1 := Lib.hid f1; have H2 := Lib.hid f2; have H3 := Lib.hid f3
    by_cases hlt : k < 16
    · have hlt2 : (k : Int) < 16 := by omega
      have a1 := cell_of f2 k; have a2 := free_of f2 k; have b1 := cell_of f3 k; have b2 := free_of f3 k
      rw [bytes_at _ _ (by omega)] at a1 b1
      clear f0 f1 f2 f3 hs
      by_cases h0 : k < e0.size
      · have h0' : (k : Int) < (e0.size : Int) := by omega
        have g0 := byteOf_at e0 k h0
        by_cases h1 : k < e1.size
        · have h1' : (k : Int) < (e1.size : Int) := by omega
          have g1 := byteOf_at e1 k h1
          go_wp2_with fail
          go_roundw
          case rel => exact ⟨k + 1, xs.set k _, ys.set k _, by omega, by simp [hx], by simp [hy], rfl, (Four.setA HF.out k _).setB k _, (HS.out.setCell (fun h => by simp at h; omega) _).setCell (fun h => by simp at h; omega) _⟩
          case measure => simp [intOf]; omega
        · have h1' : (e1.size : Int) ≤ (k : Int) := by omega
          go_wp2_with fail
          go_roundw
          case rel => exact ⟨k + 1, xs.set k _, ys, by omega, by simp [hx], hy, rfl, Four.setA HF.out k _, HS.out.setCell (fun h => by simp at h; omega) _⟩
          case measure => simp [intOf]; omega
      · have h0' : (e0.size : Int) ≤ (k : Int) := by omega
        by_cases h1 : k < e1.size
        · have h1' : (k : Int) < (e1.size : Int) := by omega
          have g1 := byteOf_at e1 k h1
          go_wp2_with fail
          go_roundw
          case rel => exact ⟨k + 1, xs, ys.set k _, by omega, hx, by simp [hy], rfl, Four.setB HF.out k _, HS.out.setCell (fun h => by simp at h; omega) _⟩
          case measure => simp [intOf]; omega
        · have h1' : (e1.size : Int) ≤ (k : Int) := by omega
          go_wp2_with fail
          go_roundw
          case rel => exact ⟨k + 1, xs, ys, by omega, hx, hy, rfl, HF.out, HS.out⟩
          case measure => simp [intOf]; omega
    · obtain rfl : k = 16 := by omega
      clear hlt
      have hsx : (strOfNums xs).size = 16 := by rw [snums, hx]
      have hsy : (strOfNums ys).size = 16 := by rw [snums, hy]
      have hg := r6_good (strOfNums xs) (strOfNums ys) p body hsx hsy
      have hb := r6_bad (strOfNums xs) (strOfNums ys) p body
      have hz := r6_size (strOfNums xs) (strOfNums ys) p body hsx hsy (by omega)
      have hm6 : ∀ W, Calls Try.prog 18 #[.agg (bytes xs), .agg (bytes ys), .int .i64 p, .string body] W (Ret (.tuple #[.string (r6 (strOfNums xs) (strOfNums ys) p body).1, .int .i64 (r6 (strOfNums xs) (strOfNums ys) p body).2]) W) := fun W => make6_any xs ys p body W hx hy (by omega)
      have hn6 : ∀ W, Calls Try.prog 19 #[.string (strOfNums xs), .string (strOfNums ys), .int .i64 p, .string body] W (Ret (.tuple #[.string (r6 (strOfNums xs) (strOfNums ys) p body).1, .int .i64 (r6 (strOfNums xs) (strOfNums ys) p body).2]) W) := fun W => rmake6_any xs ys p body W hx hy (by omega)
      have hCA := fun W h => conv_at W (w.heap.size + 1 + 1) 16 16 xs (bytes xs) 43 h rfl hx
      have hCB := fun W h => conv_at W (w.heap.size + 1 + 1 + 1) 16 16 ys (bytes ys) 43 h rfl hy
      generalize strOfNums xs = tx at *
      generalize strOfNums ys = ty at *
      have HCA := Lib.hid hCA; have HCB := Lib.hid hCB
      obtain ⟨x0, x1, x2, x3, x4, x5, x6, x7, x8, x9, x10, x11, x12, x13, x14, x15, hxe⟩ := len16 hx
      obtain ⟨y0, y1, y2, y3, y4, y5, y6, y7, y8, y9, y10, y11, y12, y13, y14, y15, hye⟩ := len16 hy
      have ka0 := cell_of f2 0; have kb0 := cell_of f3 0
      have ka1 := cell_of f2 1; have kb1 := cell_of f3 1
      have ka2 := cell_of f2 2; have kb2 := cell_of f3 2
      have ka3 := cell_of f2 3; have kb3 := cell_of f3 3
      have ka4 := cell_of f2 4; have kb4 := cell_of f3 4
      have ka5 := cell_of f2 5; have kb5 := cell_of f3 5
      have ka6 := cell_of f2 6; have kb6 := cell_of f3 6
      have ka7 := cell_of f2 7; have kb7 := cell_of f3 7
      have ka8 := cell_of f2 8; have kb8 := cell_of f3 8
      have ka9 := cell_of f2 9; have kb9 := cell_of f3 9
      have ka10 := cell_of f2 10; have kb10 := cell_of f3 10
      have ka11 := cell_of f2 11; have kb11 := cell_of f3 11
      have ka12 := cell_of f2 12; have kb12 := cell_of f3 12
      have ka13 := cell_of f2 13; have kb13 := cell_of f3 13
      have ka14 := cell_of f2 14; have kb14 := cell_of f3 14
      have ka15 := cell_of f2 15; have kb15 := cell_of f3 15
      simp only [hxe, hye, bytes, List.map_cons, List.map_nil, List.getElem?_toArray, List.getElem?_cons_zero, List.getElem?_cons_succ] at ka0 kb0 ka1 kb1 ka2 kb2 ka3 kb3 ka4 kb4 ka5 kb5 ka6 kb6 ka7 kb7 ka8 kb8 ka9 kb9 ka10 kb10 ka11 kb11 ka12 kb12 ka13 kb13 ka14 kb14 ka15 kb15 hm6
      clear hCA hCB hxe hye
      generalize r6 tx ty p body = R at *
      obtain ⟨S, E⟩ := R
      simp only at hg hb hz hm6 hn6
      have HM6 := Lib.hid hm6; have HN6 := Lib.hid hn6; have HG := Lib.hid hg; have HB := Lib.hid hb
      clear hm6 hn6 hg hb f0 f1 f2 f3 hs
      go_wp2_with fail
      (with_reducible refine (HM6.out _).mono ?_)
      rintro e w1 ⟨rfl, s1⟩
      have S1 := Lib.hid (HS.out.trans_nil s1)
      have i0 := s1.heap H0.out (by simp); have i1 := s1.heap H1.out (by simp); have i2 := s1.heap H2.out (by simp); have i3 := s1.heap H3.out (by simp)
      have c00 := cell_of i0 0; have c01 := cell_of i0 1; have c10 := cell_of i1 0; have c11 := cell_of i1 1
      simp only [List.getElem?_toArray, List.getElem?_cons_zero, List.getElem?_cons_succ] at c00 c01 c10 c11
      have I2 := Lib.hid i2; have I3 := Lib.hid i3; have I1 := Lib.hid i1
      have hCA := HCA.out w1.drew i2
      have hCB := HCB.out w1.drew i3
      clear s1 i0 i1 i2 i3 ka0 kb0 ka1 kb1 ka2 kb2 ka3 kb3 ka4 kb4 ka5 kb5 ka6 kb6 ka7 kb7 ka8 kb8 ka9 kb9 ka10 kb10 ka11 kb11 ka12 kb12 ka13 kb13 ka14 kb14 ka15 kb15
      go_upto_region 13 with fail
      go_cut [10, 11, 12, 13] (fun s10 s11 s12 s13 wx => s10 = .string S ∧ s11 = .int .i64 E ∧ s12 = .string S ∧ s13 = .int .i64 E ∧ Same [] w1 wx)
      case first =>
        go_region_with ((with_reducible refine (HN6.out _).mono ?_); rintro e w' ⟨rfl, hs⟩; have S2 := Lib.hid hs; clear hs)
        all_goals (go_wp2_with fail; go_meet; exact ⟨rfl, rfl, rfl, rfl, (Same.refl [] w1).drew.trans_nil S2.out⟩)
      case rest =>
        obtain ⟨rfl, rfl, rfl, rfl, s2⟩ := hcut
        clear c00 c01 c10 c11
        have S3 := Lib.hid (S1.out.trans_nil s2)
        have i1 := s2.heap I1.out (by simp); have i2 := s2.heap I2.out (by simp); have i3 := s2.heap I3.out (by simp)
        have c10 := cell_of i1 0; have c11 := cell_of i1 1
        simp only [List.getElem?_toArray, List.getElem?_cons_zero, List.getElem?_cons_succ] at c10 c11
        have d11 := fun o => (cell_old wc o (w.heap.size + 1) 1 (heap_lt i1)).trans c11
        have J1 := Lib.hid i1; have J2 := Lib.hid i2; have J3 := Lib.hid i3
        clear s2 i1 i2 i3 hCA hCB HM6 HN6
        cases six with
        | true =>
          have HW := Lib.hid (heap_alloc_new wc (.cells #[.int .i64 6, .int .i64 40, .int .i64 (40 + body.size), .int .i64 p] 35))
          have SW := Lib.hid (S3.out.alloc (.cells #[.int .i64 6, .int .i64 40, .int .i64 (40 + body.size), .int .i64 p] 35))
          have hz6 : S.size ≤ maxLen := by unfold maxLen; omega
          by_cases hE : E = 0
          · subst hE
            obtain ⟨q1, q2, q3⟩ := HG.out rfl
            have hpk := fun W => peek_any S W hz6
            unfold PeekPost at hpk
            obtain ⟨g0, g1, g2, g3, g4, g5⟩ := peek_good q1
            rw [g5, q2, q1] at hpk
            simp only [Hd.val] at hpk
            have hck := fun W => check_any S W hz6
            rw [q3] at hck
            have HPK := Lib.hid hpk; have HCK := Lib.hid hck
            clear hpk hck q1 q2 q3 g0 g1 g2 g3 g4 g5
            go_wp2_with fail
            refine (HPK.out _).mono ?_
            rintro e w3 ⟨rfl, s3⟩
            have jw := s3.heap (HW.out) (by simp)
            have S4 := Lib.hid (SW.out.trans_nil s3)
            have hnh := heap_alloc_new w3 (.cells #[.int .i64 6, .int .i64 40, .int .i64 (40 + body.size), .int .i64 p] 31)
            have hlt := heap_lt jw
            clear s3
            go_wp2_with fail
            (with_reducible refine (HCK.out _).mono ?_)
            rintro e w4 ⟨rfl, s4⟩
            have jw4 := s4.heap ((Below.heap_alloc _ _ _ hlt).trans jw) (by simp)
            have jh4 := s4.heap hnh (by simp)
            obtain ⟨m0, m1, m2, m3, _⟩ := cells4 jw4
            obtain ⟨n0, n1, n2, n3, _⟩ := cells4 jh4
            have S5 := Lib.hid ((S4.out.alloc _).trans_nil s4)
            clear s4 jw4 jh4 jw hnh
            go_wp2_with (go_at_call 10; (with_reducible refine (awake_any _).mono ?_); rintro e w' ⟨rfl, hs⟩; have HA := Lib.hid hs; clear hs)
            go_ret
            exact ⟨rfl, S5.out.trans_nil HA.out⟩
          · obtain rfl := HB.out hE
            have hE1 : (E == 0) = false := by rw [beq_eq_false_iff_ne]; exact hE
            have hE2 : (E != 0) = true := by rw [bne_iff_ne]; exact hE
            go_wp2_with (go_at_call 10; (with_reducible refine (awake_any _).mono ?_); rintro e w' ⟨rfl, hs⟩; have HA := Lib.hid hs; clear hs)
            go_ret
            exact ⟨rfl, SW.out.trans_nil HA.out⟩
        | false =>
          clear HG HB hz HCA HCB
          have hq : w.heap.size + 1 + 1 + 1 < wc.heap.size := heap_lt J3.out
          have hqs : w.heap.size ≤ wc.heap.size := by omega
          obtain ⟨q, hqq⟩ : ∃ q, q = wc.heap.size := ⟨_, rfl⟩
          have HQ := Lib.hid hqq
          clear hqq
          go_upto_region 18 with fail
          go_wp2_with fail
          go_loopw [17] (fun i wr => ∃ (k : Nat) (cs ds : List Int), k ≤ 4 ∧ cs.length = 4 ∧ ds.length = 4 ∧ i = .int .i64 k ∧ Five w.heap.size wc.heap.size body xs ys cs ds p wr ∧ Same [] w wr) (fun i _ => 4 - (intOf i).toNat)
          case atStart =>
            refine ⟨0, List.replicate 4 0, List.replicate 4 0, by omega, rfl, rfl, rfl, ⟨?_, ?_, ?_, ?_, ?_, ?_⟩, by repeat (first | with_reducible exact S3.out | with_reducible refine Same.drew ?_ | with_reducible refine Same.alloc ?_ _)⟩
            · exact (Below.heap_alloc _ _ _ (by simp; omega)).trans ((Below.heap_alloc _ _ _ (by simp; omega)).trans ((Below.heap_alloc _ _ _ (by omega)).trans J1.out))
            · exact (Below.heap_alloc _ _ _ (by simp; omega)).trans ((Below.heap_alloc _ _ _ (by simp; omega)).trans ((Below.heap_alloc _ _ _ (by omega)).trans J2.out))
            · exact (Below.heap_alloc _ _ _ (by simp; omega)).trans ((Below.heap_alloc _ _ _ (by simp; omega)).trans ((Below.heap_alloc _ _ _ (by omega)).trans J3.out))
            · exact (Below.heap_alloc _ _ _ (by simp; try omega)).trans ((Below.heap_alloc _ _ _ (by simp; try omega)).trans (heap_alloc_new wc _))
            · have := heap_alloc_new (wc.alloc (.cells #[.int .i64 6, .int .i64 40, .int .i64 (40 + body.size), .int .i64 p] 35)) (.cells (bytes (List.replicate 4 0)) 47)
              rw [World.size_alloc] at this
              exact (Below.heap_alloc _ _ _ (by simp)).trans this
            · have := heap_alloc_new ((wc.alloc (.cells #[.int .i64 6, .int .i64 40, .int .i64 (40 + body.size), .int .i64 p] 35)).alloc (.cells (bytes (List.replicate 4 0)) 47)) (.cells (bytes (List.replicate 4 0)) 47)
              rw [World.size_alloc, World.size_alloc] at this
              exact this
          case round =>
            obtain ⟨k, cs, ds, hk, hcl, hdl, rfl, ⟨f1, f2, f3, f4, f5, f6⟩, hs⟩ := hrel
            clear d11 c10 c11
            have HS2 := Lib.hid hs
            have H5 := Lib.hid (show Five w.heap.size wc.heap.size body xs ys cs ds p wr from ⟨f1, f2, f3, f4, f5, f6⟩)
            by_cases hlt : k < 4
            · have hlt2 : (k : Int) < 4 := by omega
              have a1 := cell_of f2 k; have b1 := cell_of f3 k
              have a2 := cell_of f5 k; have a3 := free_of f5 k; have b2 := cell_of f6 k; have b3 := free_of f6 k
              rw [bytes_at _ _ (by omega)] at a1 b1 a2 b2
              generalize xs[k] = xk at *
              generalize ys[k] = yk at *
              clear f1 f2 f3 f4 f5 f6 hs
              go_wp2_with fail
              go_roundw
              case rel => exact ⟨k + 1, cs.set k _, ds.set k _, by omega, by simp [hcl], by simp [hdl], rfl, (Five.setC H5.out hq k _).setD hq k _, (HS2.out.setCell (fun h => by simp at h; omega) _).setCell (fun h => by simp at h; omega) _⟩
              case measure => simp [intOf]; omega
            · obtain rfl : k = 4 := by omega
              clear hlt
              have hg := r4_good cs ds p body hcl hdl
              have hb := r4_bad cs ds p body
              have hz := r4_size cs ds p body hcl hdl (by omega)
              have hm4 : ∀ W, Calls Try.prog 20 #[.agg (bytes cs), .agg (bytes ds), .int .i64 p, .string body] W (Ret (.tuple #[.string (r4 cs ds p body).1, .int .i64 (r4 cs ds p body).2]) W) := fun W => make4_any cs ds p body W hcl hdl (by omega)
              have hn4 : ∀ W, Calls Try.prog 21 #[.string (strOfNums cs), .string (strOfNums ds), .int .i64 p, .string body] W (Ret (.tuple #[.string (r4 cs ds p body).1, .int .i64 (r4 cs ds p body).2]) W) := fun W => rmake4_any cs ds p body W hcl hdl (by omega)
              have hCA := fun W h => conv_at W (wc.heap.size + 1) 4 4 cs (bytes cs) 47 h rfl hcl
              have hCB := fun W h => conv_at W (wc.heap.size + 1 + 1) 4 4 ds (bytes ds) 47 h rfl hdl
              have hszc : (strOfNums cs).size = 4 := by rw [snums, hcl]
              generalize r4 cs ds p body = R at *
              obtain ⟨S, E⟩ := R
              simp only at hg hb hz hm4 hn4
              generalize strOfNums cs = tc at *
              generalize strOfNums ds = td at *
              have HCA := Lib.hid hCA; have HCB := Lib.hid hCB
              obtain ⟨q0, q1, q2, q3, hce⟩ := len4 hcl
              obtain ⟨r0, r1, r2, r3, hde⟩ := len4 hdl
              have ka0 := cell_of f5 0; have ka1 := cell_of f5 1; have ka2 := cell_of f5 2; have ka3 := cell_of f5 3
              have kb0 := cell_of f6 0; have kb1 := cell_of f6 1; have kb2 := cell_of f6 2; have kb3 := cell_of f6 3
              simp only [hce, hde, bytes, List.map_cons, List.map_nil, List.getElem?_toArray, List.getElem?_cons_zero, List.getElem?_cons_succ] at ka0 ka1 ka2 ka3 kb0 kb1 kb2 kb3 hm4
              have c10 := cell_of f1 0
              simp only [List.getElem?_toArray, List.getElem?_cons_zero, List.getElem?_cons_succ] at c10
              have HM4 := Lib.hid hm4; have HN4 := Lib.hid hn4; have HG := Lib.hid hg; have HB := Lib.hid hb
              clear hm4 hn4 hg hb f1 f2 f3 f4 f5 f6 hs hCA hCB hce hde
              go_wp2_with fail
              (with_reducible refine (HM4.out _).mono ?_)
              rintro e w5 ⟨rfl, s5⟩
              have S5 := Lib.hid (HS2.out.trans_nil s5)
              obtain ⟨f1, _, _, f4, f5, f6⟩ := H5.out
              have i1 := s5.heap f1 (by simp); have i4 := s5.heap f4 (by simp); have i5 := s5.heap f5 (by simp); have i6 := s5.heap f6 (by simp)
              clear c10
              have c10 := cell_of i1 0
              simp only [List.getElem?_toArray, List.getElem?_cons_zero, List.getElem?_cons_succ] at c10
              have I1 := Lib.hid i1; have I4 := Lib.hid i4
              have hCA := HCA.out w5.drew i5
              have hCB := HCB.out w5.drew i6
              clear s5 i1 i4 i5 i6 f1 f4 f5 f6 ka0 ka1 ka2 ka3 kb0 kb1 kb2 kb3
              go_upto_region 24 with fail
              go_cut [10, 11, 12, 13] (fun s10 s11 s12 s13 wx => s10 = .string S ∧ s11 = .int .i64 E ∧ s12 = .string S ∧ s13 = .int .i64 E ∧ Same [] w5 wx)
              case first =>
                go_region_with ((with_reducible refine (HN4.out _).mono ?_); rintro e w' ⟨rfl, hs⟩; have S2 := Lib.hid hs; clear hs)
                all_goals (go_wp2_with fail; go_meet; exact ⟨rfl, rfl, rfl, rfl, (Same.refl [] w5).drew.trans_nil S2.out⟩)
              case rest =>
                obtain ⟨rfl, rfl, rfl, rfl, s6⟩ := hcut
                clear c10
                have S7 := Lib.hid (S5.out.trans_nil s6)
                have i1 := s6.heap I1.out (by simp); have i4 := s6.heap I4.out (by simp)
                have c10 := cell_of i1 0
                simp only [List.getElem?_toArray, List.getElem?_cons_zero, List.getElem?_cons_succ] at c10
                obtain ⟨t0, t1, t2, t3, u0, u1, u2, u3⟩ := cells4 i4
                have I4b := Lib.hid i4
                clear s6 i1 i4 hCA hCB HM4 HN4
                have hqq := HQ.out
                have hqs' := hqs
                rw [← hqq] at hqs'
                have i4q := I4b.out
                rw [← hqq] at i4q
                have hw := set_same (i := 3) (set_same (i := 2) (set_same (i := 1) (set_same (i := 0) i4q (.int .i64 4)) (.int .i64 20)) (.int .i64 (20 + body.size))) (.int .i64 p)
                rw [show ((((#[Value.int .i64 6, .int .i64 40, .int .i64 (40 + body.size), .int .i64 p] : Array Value).setIfInBounds 0 (.int .i64 4)).setIfInBounds 1 (.int .i64 20)).setIfInBounds 2 (.int .i64 (20 + body.size))).setIfInBounds 3 (.int .i64 p) = #[.int .i64 4, .int .i64 20, .int .i64 (20 + body.size), .int .i64 p] from rfl] at hw
                have HW := Lib.hid hw
                have SW := Lib.hid ((((S7.out.setCell (p := ⟨q, 0, none⟩) (fun h => absurd h (Nat.not_lt.2 hqs')) (.int .i64 4)).setCell (p := ⟨q, 1, none⟩) (fun h => absurd h (Nat.not_lt.2 hqs')) (.int .i64 20)).setCell (p := ⟨q, 2, none⟩) (fun h => absurd h (Nat.not_lt.2 hqs')) (.int .i64 (20 + body.size))).setCell (p := ⟨q, 3, none⟩) (fun h => absurd h (Nat.not_lt.2 hqs')) (.int .i64 p))
                clear hw i4q hqs'
                subst hqq
                have hz6 : S.size ≤ maxLen := by unfold maxLen; omega
                by_cases hE : E = 0
                · subst hE
                  obtain ⟨q1, q2, q3⟩ := HG.out rfl
                  have hpk := fun W => peek_any S W hz6
                  unfold PeekPost at hpk
                  obtain ⟨g0, g1, g2, g3, g4, g5⟩ := peek_good q1
                  rw [g5, q2, q1] at hpk
                  simp only [Hd.val] at hpk
                  have hck := fun W => check_any S W hz6
                  rw [q3] at hck
                  have HPK := Lib.hid hpk; have HCK := Lib.hid hck
                  clear hpk hck q1 q2 q3 g0 g1 g2 g3 g4 g5
                  go_wp2_with fail
                  refine (HPK.out _).mono ?_
                  rintro e w3 ⟨rfl, s3⟩
                  have jw := s3.heap (HW.out) (by simp)
                  have S4 := Lib.hid (SW.out.trans_nil s3)
                  have hnh := heap_alloc_new w3 (.cells #[.int .i64 4, .int .i64 20, .int .i64 (20 + body.size), .int .i64 p] 31)
                  have hlt := heap_lt jw
                  clear s3
                  go_wp2_with fail
                  (with_reducible refine (HCK.out _).mono ?_)
                  rintro e w4 ⟨rfl, s4⟩
                  have jw4 := s4.heap ((Below.heap_alloc _ _ _ hlt).trans jw) (by simp)
                  have jh4 := s4.heap hnh (by simp)
                  obtain ⟨m0, m1, m2, m3, _⟩ := cells4 jw4
                  obtain ⟨n0, n1, n2, n3, _⟩ := cells4 jh4
                  have S5 := Lib.hid ((S4.out.alloc _).trans_nil s4)
                  clear s4 jw4 jh4 jw hnh
                  go_wp2_with (go_at_call 10; (with_reducible refine (awake_any _).mono ?_); rintro e w' ⟨rfl, hs⟩; have HA := Lib.hid hs; clear hs)
                  go_ret
                  exact ⟨rfl, S5.out.trans_nil HA.out⟩
                · obtain rfl := HB.out hE
                  have hE1 : (E == 0) = false := by rw [beq_eq_false_iff_ne]; exact hE
                  have hE2 : (E != 0) = true := by rw [bne_iff_ne]; exact hE
                  go_wp2_with (go_at_call 10; (with_reducible refine (awake_any _).mono ?_); rintro e w' ⟨rfl, hs⟩; have HA := Lib.hid hs; clear hs)
                  go_ret
                  exact ⟨rfl, SW.out.trans_nil HA.out⟩

theorem datagramMakes_any (e0 e1 : ByteArray) (z0 : e0.size ≤ maxLen) (z1 : e1.size ≤ maxLen) (p : Int) (body : ByteArray) (six : Bool) (zb : body.size ≤ maxLen) (w : World) :
    Calls Try.prog 6 #[.agg #[.string e0, .string e1], .int .i64 p, .agg #[.string body, .bool six]] w (AwakePost w) := by
  by_cases h : 4200 < body.size
  · exact makes_long e0 e1 p body six w h zb
  · exact makes_short e0 e1 p body six w (by omega) z0 z1

end Go.Proofs.Yteifbncgfopgfaa.Dg
