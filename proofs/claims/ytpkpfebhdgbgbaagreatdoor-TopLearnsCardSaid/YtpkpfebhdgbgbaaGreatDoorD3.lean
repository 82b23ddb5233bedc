/- The library's IndexFunc and ContainsFunc at numbers, and descr.within and check: of numbers that are within, true, and of descriptors that may be, no error. Conditions as said. The descriptor of a slice (descr.Slice.Make), and the slice of it (descr.ReadSlice), for the law's slices. Condition: 256 to 1024 rows. -/
import Derived.Test.YtpkpfebhdgbgbaaGreatDoorOpen
import Derived.Test.YtpkpfebhdgbgbaaGreatDoorChecked
import Derived.Deep.DeepCutAuto
import Derived.Deep.RegionHeld3
namespace Go.Proofs.YtpkpfebhdgbgbaaGreatDoor.D
open Go.RowKit
set_option linter.unusedSimpArgs false
set_option linter.unusedVariables false

theorem within1_ok (x m : Int) (q : Nat) (w : World) (hm : w.cell? ⟨q, 0, none⟩ = some (.int .i64 m)) (h0 : 0 ≤ x) (h1 : x ≤ m) :
    Calls Tryz.prog 91 #[.int .i64 x, .pointer (some ⟨q, 0, none⟩)] w fun e w' => e = .returned (.bool false) ∧ w = w' := by
  have e1 : decide (x < 0) = false := decide_eq_false (by omega)
  have e2 : decide (m < x) = false := decide_eq_false (by omega)
  go_enter Tryz.func91, Tryz.ntmps91
  go_wp2_with fail
  go_ret
  exact ⟨rfl, rfl⟩
set_option maxHeartbeats 1000000 in
theorem idx_out (g o c n q : Nat) (xs : Nat → Int) (m : Int) (w : World) (hm : w.cell? ⟨q, 0, none⟩ = some (.int .i64 m)) (hc : ∀ j, j < n → w.cell? ⟨g, o + j, none⟩ = some (.int .i64 (xs j)))
    (hx : ∀ j, j < n → 0 ≤ xs j ∧ xs j ≤ m) (hn : n < 1099511627776) :
    Calls Tryz.prog 120 #[.slice (some ⟨g, o, none⟩) n c, .func (.func 91) #[] #[.pointer (some ⟨q, 0, none⟩)]] w fun e w' => e = .returned (.int .i64 (-1)) ∧ w = w' := by
  go_enter Tryz.func120, Tryz.ntmps120
  go_wp2_with fail
  go_loopw [8] (fun i wr => ∃ k : Nat, k ≤ n ∧ i = .int .i64 k ∧ w = wr) (fun i _ => n - (intOf i).toNat)
  case atStart => exact ⟨0, Nat.zero_le _, rfl, rfl⟩
  case round =>
    obtain ⟨k, hk, rfl, rfl⟩ := hrel
    by_cases hlt : k < n
    · have hlt2 : (k : Int) < (n : Int) := by omega
      have ck := hc k hlt
      obtain ⟨x0, x1⟩ := hx k hlt
      have HC := Lib.hid hc; have HX := Lib.hid hx
      have HW := Lib.hid (within1_ok (xs k) m q w hm x0 x1)
      clear hc hx
      generalize xs k = x at *
      go_wp2_with (go_at_call 91; (with_reducible refine HW.out.mono ?_); rintro e w' ⟨rfl, rfl⟩)
      go_roundw
      case rel => exact ⟨k + 1, hlt, by go_num, trivial⟩
      case measure => simp [intOf]; omega
    · obtain rfl : k = n := by omega
      go_wp2_with fail
      go_ret
      exact ⟨rfl, rfl⟩
theorem contains_out (g o c n q : Nat) (xs : Nat → Int) (m : Int) (w : World) (hm : w.cell? ⟨q, 0, none⟩ = some (.int .i64 m)) (hc : ∀ j, j < n → w.cell? ⟨g, o + j, none⟩ = some (.int .i64 (xs j)))
    (hx : ∀ j, j < n → 0 ≤ xs j ∧ xs j ≤ m) (hn : n < 1099511627776) :
    Calls Tryz.prog 90 #[.slice (some ⟨g, o, none⟩) n c, .func (.func 91) #[] #[.pointer (some ⟨q, 0, none⟩)]] w fun e w' => e = .returned (.bool false) ∧ w = w' := by
  have HI := Lib.hid (idx_out g o c n q xs m w hm hc hx hn)
  clear hc hx hm
  go_enter Tryz.func90, Tryz.ntmps90
  go_wp2_with (go_at_call 120; (with_reducible refine HI.out.mono ?_); rintro e w' ⟨rfl, rfl⟩)
  go_ret
  exact ⟨rfl, rfl⟩
theorem within_any (g o c n : Nat) (xs : Nat → Int) (m : Int) (w : World) (hc : ∀ j, j < n → w.cell? ⟨g, o + j, none⟩ = some (.int .i64 (xs j)))
    (hx : ∀ j, j < n → 0 ≤ xs j ∧ xs j ≤ m) (hn : n < 1099511627776) :
    Calls Tryz.prog 37 #[.int .i64 m, .slice (some ⟨g, o, none⟩) n c] w fun e w' => e = .returned (.bool true) ∧ w.alloc (.cells #[.int .i64 m] 3) = w' := by
  have hm : (w.alloc (.cells #[.int .i64 m] 3)).cell? ⟨w.heap.size, 0, none⟩ = some (.int .i64 m) := (cell_of (heap_alloc_new w (.cells #[.int .i64 m] 3)) 0).trans rfl
  have HI := Lib.hid (contains_out g o c n w.heap.size xs m (w.alloc (.cells #[.int .i64 m] 3)) hm (fun j hj => ((Same.refl [] w).alloc _).cell (hc j hj) (by simp)) hx hn)
  clear hc hx hm
  go_enter Tryz.func37, Tryz.ntmps37
  go_wp2_with (go_at_call 90; (with_reducible refine HI.out.mono ?_); rintro e w' ⟨rfl, rfl⟩)
  go_ret
  exact ⟨rfl, rfl⟩
theorem within_one (g c : Nat) (x m : Int) (w : World) (hc : w.cell? ⟨g, 0, none⟩ = some (.int .i64 x)) (h0 : 0 ≤ x) (h1 : x ≤ m) :
    Calls Tryz.prog 37 #[.int .i64 m, .slice (some ⟨g, 0, none⟩) 1 c] w fun e w' => e = .returned (.bool true) ∧ w.alloc (.cells #[.int .i64 m] 3) = w' :=
  within_any g 0 c 1 (fun _ => x) m w (fun j hj => by obtain rfl : j = 0 := by omega
                                                      exact hc) (fun _ _ => ⟨h0, h1⟩) (by decide)
theorem within_two (g c : Nat) (x y m : Int) (w : World) (hc : w.cell? ⟨g, 0, none⟩ = some (.int .i64 x)) (hd : w.cell? ⟨g, 1, none⟩ = some (.int .i64 y)) (h0 : 0 ≤ x) (h1 : x ≤ m) (h2 : 0 ≤ y) (h3 : y ≤ m) :
    Calls Tryz.prog 37 #[.int .i64 m, .slice (some ⟨g, 0, none⟩) 2 c] w fun e w' => e = .returned (.bool true) ∧ w.alloc (.cells #[.int .i64 m] 3) = w' :=
  within_any g 0 c 2 (fun j => if j = 0 then x else y) m w (fun j hj => by
    have : j = 0 ∨ j = 1 := by omega
    rcases this with rfl | rfl
    · exact hc
    · exact hd) (fun j _ => by
    show 0 ≤ (if j = 0 then x else y) ∧ (if j = 0 then x else y) ≤ m
    split <;> omega) (by decide)
theorem within_new1 (x m : Int) (g c : Nat) (W : World) (hg : g = W.heap.size) (h0 : 0 ≤ x) (h1 : x ≤ m) :
    Calls Tryz.prog 37 #[.int .i64 m, .slice (some ⟨g, 0, none⟩) 1 c] (W.alloc (.cells #[.int .i64 x] 3)) fun e w' => e = .returned (.bool true) ∧ (W.alloc (.cells #[.int .i64 x] 3)).alloc (.cells #[.int .i64 m] 3) = w' := by
  subst hg
  exact within_one _ c x m _ ((cell_of (heap_alloc_new W (.cells #[.int .i64 x] 3)) 0).trans rfl) h0 h1
theorem within_new2 (x y m : Int) (g c : Nat) (W : World) (hg : g = W.heap.size) (h0 : 0 ≤ x) (h1 : x ≤ m) (h2 : 0 ≤ y) (h3 : y ≤ m) :
    Calls Tryz.prog 37 #[.int .i64 m, .slice (some ⟨g, 0, none⟩) 2 c] (W.alloc (.cells #[.int .i64 x, .int .i64 y] 3)) fun e w' => e = .returned (.bool true) ∧ (W.alloc (.cells #[.int .i64 x, .int .i64 y] 3)).alloc (.cells #[.int .i64 m] 3) = w' := by
  subst hg
  exact within_two _ c x y m _ ((cell_of (heap_alloc_new W (.cells #[.int .i64 x, .int .i64 y] 3)) 0).trans rfl) ((cell_of (heap_alloc_new W (.cells #[.int .i64 x, .int .i64 y] 3)) 1).trans rfl) h0 h1 h2 h3
/-- A descriptor that may be. -/
theorem check_ok (t : Int) (s : ByteArray) (w : World) (h0 : 0 ≤ t) (h1 : t ≤ 255) (hs : s.size ≤ 255) :
    Calls Tryz.prog 39 #[.agg #[.int .i64 t, .string s]] w fun e w' => e = .returned (.int .i64 0) ∧ ((w.alloc (.cells #[.int .i64 t, .string s] 39)).alloc (.cells #[.int .i64 t] 3)).alloc (.cells #[.int .i64 255] 3) = w' := by
  have hsi : ¬ (255 : Int) < (s.size : Int) := by omega
  have hc : ((w.alloc (.cells #[.int .i64 t, .string s] 39)).alloc (.cells #[.int .i64 t] 3)).cell? ⟨(w.alloc (.cells #[.int .i64 t, .string s] 39)).heap.size, 0, none⟩ = some (.int .i64 t) := (cell_of (heap_alloc_new _ (.cells #[.int .i64 t] 3)) 0).trans rfl
  rw [World.size_alloc] at hc
  have HW := Lib.hid (within_one _ 1 t 255 _ hc h0 h1)
  clear hc
  go_enter Tryz.func39, Tryz.ntmps39
  go_wp2_with (go_at_call 37; (with_reducible refine HW.out.mono ?_); rintro e w' ⟨rfl, rfl⟩)
  go_ret
  exact ⟨rfl, rfl⟩
theorem bit_yes (n : Int) (w : World) : Calls Tryz.prog 38 #[.bool true, .int .i64 n] w fun e w' => e = .returned (.int .i64 n) ∧ w = w' := by
  go_enter Tryz.func38, Tryz.ntmps38
  go_wp2_with fail
  go_ret
  exact ⟨rfl, rfl⟩
end Go.Proofs.YtpkpfebhdgbgbaaGreatDoor.D
namespace Go.Proofs.YtpkpfebhdgbgbaaGreatDoor.D
open Go.RowKit
set_option linter.unusedSimpArgs false
set_option linter.unusedVariables false

def slB (z : Int) : ByteArray := strOfNums [z, 9, 33]
def MakePost (w : World) (s : ByteArray) (e : Ending) (w' : World) : Prop := Same [] w w' ∧ e = .returned (.tuple #[.agg #[.int .i64 119, .string s], .int .i64 0])
/-- The first byte of the law's descriptors. -/
def headE (R : Int) : Int := IntKind.u8.wrap (IntKind.i64.wrap (bits .or .i64 (bits .or .i64 (bits .or .i64 128 32) 24) (IntKind.i64.wrap (R.tdiv 256)) - 1))
theorem desc_cells {w : World} {b : Nat} {x0 x1 : Value} {t : TypeId} (h : w.heap[b]? = some (.cells #[x0, x1] t (0, 0))) : w.cell? ⟨b, 0, none⟩ = some x0 ∧ w.cell? ⟨b, 1, none⟩ = some x1 ∧ (∀ i, w.frozen? ⟨b, i, none⟩ = false) :=
  ⟨(cell_of h 0).trans rfl, (cell_of h 1).trans rfl, free_of h⟩
set_option maxRecDepth 100000 in
set_option maxHeartbeats 4000000 in
theorem make_fn (R : Int) (z : Int) (w : World) (hm : R.tmod 256 = 0) (h0 : 256 ≤ R) (h1 : R ≤ 1024) (hz : headE R = z) : Calls Tryz.prog 12 #[.agg #[.bool true, .bool true, .int .i64 R, .int .i64 9, .int .i64 2, .int .i64 1, .string ⟨#[]⟩]] w (MakePost w (slB z)) := by
  have HA := Lib.hid (heap_alloc_new w (.cells #[.bool true, .bool true, .int .i64 R, .int .i64 9, .int .i64 2, .int .i64 1, .string ⟨#[]⟩] 42))
  have HB := Lib.hid (heap_alloc_new (w.alloc (.cells #[.bool true, .bool true, .int .i64 R, .int .i64 9, .int .i64 2, .int .i64 1, .string ⟨#[]⟩] 42)) (.cells #[.int .i64 0, .string ⟨#[]⟩] 39))
  have HS := Lib.hid (((Same.refl [] w).alloc (.cells #[.bool true, .bool true, .int .i64 R, .int .i64 9, .int .i64 2, .int .i64 1, .string ⟨#[]⟩] 42)).alloc (.cells #[.int .i64 0, .string ⟨#[]⟩] 39))
  have HZ := Lib.hid hz
  have e1 : (R.tmod 256 != 0) = false := by rw [hm]; rfl
  have e2 : decide (R < 256) = false := decide_eq_false (by omega)
  have e3 : decide (1024 < R) = false := decide_eq_false (by omega)
  clear hm hz h0 h1
  go_enter Tryz.func12, Tryz.ntmps12
  go_upto_region 1 with fail
  go_cut [5] (fun s5 wx => s5 = .bool false ∧ Same [] ((w.alloc (.cells #[.bool true, .bool true, .int .i64 R, .int .i64 9, .int .i64 2, .int .i64 1, .string ⟨#[]⟩] 42)).alloc (.cells #[.int .i64 0, .string ⟨#[]⟩] 39)) wx)
  case first =>
    go_wp2_with (go_at_call 37; first | ((with_reducible refine (within_new1 9 255 _ _ _ (by simp) (by decide) (by decide)).mono ?_); rintro e w' ⟨rfl, rfl⟩) | ((with_reducible refine (within_new2 2 1 15 _ _ _ (by simp) (by decide) (by decide) (by decide) (by decide)).mono ?_); rintro e w' ⟨rfl, rfl⟩))
    go_meet
    exact ⟨rfl, ((((Same.refl [] _).alloc _).alloc _).alloc _).alloc _⟩
  obtain ⟨rfl, hsx⟩ := hcut
  have ha := hsx.heap (((Same.refl [] _).alloc _).heap HA.out (by simp)) (by simp)
  have hb := hsx.heap HB.out (by simp)
  rw [World.size_alloc] at hb
  have x0 := cell_of ha 0; have x1 := cell_of ha 1; have x2 := cell_of ha 2; have x3 := cell_of ha 3; have x4 := cell_of ha 4; have x5 := cell_of ha 5; have x6 := cell_of ha 6
  simp only [List.getElem?_toArray, List.getElem?_cons_zero, List.getElem?_cons_succ] at x0 x1 x2 x3 x4 x5 x6
  have hbl := heap_lt hb
  have hal := heap_lt ha
  have HB2 := Lib.hid hb; have HS2 := Lib.hid (HS.out.trans_nil hsx)
  clear hsx ha hb e1 e2 e3
  rename World => wx
  go_upto_region 5 with fail
  have L0 := Lib.hid (show ∀ W, Same [] wx W → W.cell? ⟨w.heap.size, 0, none⟩ = some (.bool true) ∧ W.cell? ⟨w.heap.size, 1, none⟩ = some (.bool true) ∧ W.cell? ⟨w.heap.size, 2, none⟩ = some (.int .i64 R) ∧ W.cell? ⟨w.heap.size, 3, none⟩ = some (.int .i64 9) ∧ W.cell? ⟨w.heap.size, 4, none⟩ = some (.int .i64 2) ∧ W.cell? ⟨w.heap.size, 5, none⟩ = some (.int .i64 1) from fun W h => ⟨h.cell x0 (by simp), h.cell x1 (by simp), h.cell x2 (by simp), h.cell x3 (by simp), h.cell x4 (by simp), h.cell x5 (by simp)⟩)
  have X6 := Lib.hid x6
  go_cut [4] (fun s4 wy => ∃ b : Nat, s4 = .pointer (some ⟨b, 0, none⟩) ∧ wx.heap.size ≤ b ∧ Same [] wx wy ∧ wy.heap[b]? = some (.cells #[.int .u8 z, .int .u8 9, .int .u8 33] 104 (0, 0)))
  case first =>
    clear x0 x1 x2 x3 x4 x5 x6
    go_region_held3 (fun W : World => Same [] wx W ∧ W.cell? ⟨w.heap.size, 0, none⟩ = some (.bool true) ∧ W.cell? ⟨w.heap.size, 1, none⟩ = some (.bool true) ∧ W.cell? ⟨w.heap.size, 2, none⟩ = some (.int .i64 R) ∧ W.cell? ⟨w.heap.size, 3, none⟩ = some (.int .i64 9) ∧ W.cell? ⟨w.heap.size, 4, none⟩ = some (.int .i64 2) ∧ W.cell? ⟨w.heap.size, 5, none⟩ = some (.int .i64 1)) (first | assumption | exact (fun h => ⟨h, L0.out _ h⟩) (by repeat (first | exact Same.refl _ _ | exact And.left (by assumption) | refine Same.drew ?_ | refine Same.alloc ?_ _))) (first | (go_at_call 38; (with_reducible refine (bit_yes _ _).mono ?_); rintro e w' ⟨rfl, rfl⟩))
    all_goals
      go_wp2_with fail
      go_meet
      refine ⟨_, rfl, ?_, ?_, ?_⟩
      · simp
      · exact Same.drew ((Same.refl [] wx).alloc _)
      · rw [← HZ.out]
        exact heap_alloc_new wx _
  obtain ⟨b, rfl, hb, hsy, hcy⟩ := hcut
  rename World => wy
  have hd := hsy.heap HB2.out (by simp)
  have hdl := heap_lt hd
  obtain ⟨d0, d1, df⟩ := desc_cells hd
  have x6 := hsy.cell X6.out (by simp)
  have hyl := heap_lt hcy
  have y0 := cell_of hcy 0; have y1 := cell_of hcy 1; have y2 := cell_of hcy 2
  simp only [List.getElem?_toArray, List.getElem?_cons_zero, List.getElem?_cons_succ] at y0 y1 y2
  have hcv : ∀ W, Same [] wy W → (convert 33 9 (.slice (some ⟨b, 0, none⟩) 3 3)).run Tryz.prog W = .ok (.string (slB z)) W := fun W h =>
    run_convert_bytes_arg W _ 5 Tryz.underlying33 Tryz.underlying5 b 0 3 3 [z, 9, 33] rfl (fun i hi => by
      have hi' : i = 0 ∨ i = 1 ∨ i = 2 := by omega
      rcases hi' with rfl | rfl | rfl
      · exact h.cell y0 (by simp)
      · exact h.cell y1 (by simp)
      · exact h.cell y2 (by simp)) _ Tryz.underlying9
  have c0 := hcv wy (Same.refl _ _); have c1 := hcv wy.drew (Same.refl _ _).drew
  have HD := Lib.hid hd
  have HSY := Lib.hid (HS2.out.trans_nil hsy)
  have hsl : (slB z).size = 3 := strOfNums_size _
  have hsn : (⟨#[]⟩ : ByteArray).size = 0 := rfl
  have hap : slB z ++ (⟨#[]⟩ : ByteArray) = slB z := ByteArray.append_empty
  have HF := Lib.hid (show ((wy.setCell ⟨w.heap.size + 1, 0, none⟩ (.int .i64 119)).setCell ⟨w.heap.size + 1, 1, none⟩ (.string (slB z))).drew.heap[w.heap.size + 1]? = some (.cells #[.int .i64 119, .string (slB z)] 39 (0, 0)) from set_same (set_same hd _) _)
  have HSF := Lib.hid (((HSY.out.setCell (by simp) _).setCell (by simp) _).drew : Same [] w ((wy.setCell ⟨w.heap.size + 1, 0, none⟩ (.int .i64 119)).setCell ⟨w.heap.size + 1, 1, none⟩ (.string (slB z))).drew)
  clear hcv y0 y1 y2 hsy hd
  go_wp2_with fail
  go_region
  all_goals
    go_wp2_with fail
    clear d0 d1 df
    obtain ⟨q0, q1, _⟩ := desc_cells HF.out
    refine bodyPost_ret (v := .tuple #[.agg #[.int .i64 119, .string (slB z)], .int .i64 0]) ?_ rfl ⟨HSF.out, rfl⟩
    simp [results, Tryz.results12, go_sem, q0, q1]
end Go.Proofs.YtpkpfebhdgbgbaaGreatDoor.D
