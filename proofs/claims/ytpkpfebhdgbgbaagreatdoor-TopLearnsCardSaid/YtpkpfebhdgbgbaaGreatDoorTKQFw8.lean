/- A frame's columns and rows. No condition. A frame's Clear. No condition. A frame's columns of parity, and its datagrams. No condition. -/
import Derived.Test.YtpkpfebhdgbgbaaGreatDoorTKQFw5
import Derived.Lib.SliceRun
namespace Go.Proofs.YtpkpfebhdgbgbaaGreatDoor.K
open Go.RowKit
set_option linter.unusedSimpArgs false
set_option linter.unusedVariables false

theorem make_cap (u c : Nat) (hu : u ≤ c) (hc : c < 549755813888) (w : World) :
    (Instr.makeSlice 33 (.int .i64 (u : Int)) (.int .i64 (c : Int))).run Tryz.prog w = .ok (.slice (some ⟨w.heap.size, 0, none⟩) u c) (w.alloc (.cells (madeCells #[.int .u8 0] c) 5)) := by
  obtain ⟨i0, hi, hz0, hz1, hz2⟩ := info_parts Tryz.infoB
  have hr := run_make (P := Tryz.prog) w 33 5 i0 (.int .u8 0) Tryz.underlying33 hi hz0 .i64 .i64 (u : Int) (c : Int) (by omega) (by omega) (by rw [hz2]; omega) (by omega)
  simp only [Int.toNat_natCast, hz1, Nat.mul_one] at hr
  exact hr
theorem own_cap {B u c : Nat} {w : World} (hu : u ≤ c) (hc : c < 549755813888) (hB : B ≤ w.heap.size) : OwnB B (w.alloc (.cells (madeCells #[.int .u8 0] c) 5)) (.slice (some ⟨w.heap.size, 0, none⟩) u c) (List.replicate u 0) := by
  have hl : (List.replicate u (0 : UInt8)).length = u := List.length_replicate
  unfold OwnB
  rw [hl]
  have hm : (madeCells #[.int .u8 0] c).toList = List.replicate c (.int .u8 0) := toList_madeCells_one _ _
  refine ⟨by rw [u8l_length, hl, Nat.mul_one], .inr ⟨w.heap.size, c, _, rfl, hB, heap_alloc_new w _, hu, by unfold maxLen; omega, ?_, ?_⟩⟩
  · rw [← Array.length_toList, hm, List.length_replicate, Nat.mul_one]
  · rw [hm, Nat.mul_one, List.take_replicate, Nat.min_eq_left hu, u8l, List.map_replicate]; rfl
/-- What a method that may let parity be made leaves: the frame, whatever is stale. -/
def FrPost (v : Value) (bl : List Nat) (p R C K : Nat) (D : List ByteArray) (w : World) (e : Ending) (w' : World) : Prop :=
  e = .returned v ∧ (∃ o, FrAt w' bl p R C K D o) ∧ Same bl w w'
theorem frP_quiet {bl : List Nat} {p R C K : Nat} {D : List ByteArray} {old : Bool} {w w' : World} (h : FrAt w bl p R C K D old) (hs : Same [] w w') : (∃ o, FrAt w' bl p R C K D o) ∧ Same bl w w' :=
  ⟨⟨old, h.quiet hs⟩, hs.mono (fun x hx => by simp at hx)⟩
set_option maxRecDepth 100000 in
set_option maxHeartbeats 8000000 in
theorem column_bad {bl : List Nat} {p R C K : Nat} {D : List ByteArray} {old : Bool} {w : World} (n : Int) (h : FrAt w bl p R C K D old) (hn : n < 0 ∨ 255 ≤ n) :
    Calls Tryz.prog 95 #[.pointer (some ⟨p, 0, none⟩), .int .i64 n] w (FrPost (.tuple #[.string ⟨#[]⟩, .int .i64 15]) bl p R C K D w) := by
  have H := Lib.hid h
  clear h
  have hn2 : n < 0 ∨ (¬ n < 0 ∧ 255 ≤ n) := by omega
  clear hn
  rcases hn2 with h1 | ⟨h1, h2⟩
  all_goals
    go_enter Tryz.func95, Tryz.ntmps95
    go_wp2_with fail
    go_ret2
    exact ⟨rfl, frP_quiet H.out (Same.refl _ _)⟩
set_option maxRecDepth 100000 in
set_option maxHeartbeats 8000000 in
theorem column_ok {bl : List Nat} {p R C K : Nat} {D : List ByteArray} {old : Bool} {w : World} (n : Nat) (h : FrAt w bl p R C K D old) (hn : n < 255) :
    Calls Tryz.prog 95 #[.pointer (some ⟨p, 0, none⟩), .int .i64 (n : Int)] w (FrPost (.tuple #[.string (bs (colW R (txt D) n)), .int .i64 0]) bl p R C K D w) := by
  have H := Lib.hid h
  have HFR := Lib.hid (fresh_any h)
  obtain ⟨i0, hi, hz0, hz1, hz2⟩ := info_parts Tryz.infoB
  have hn0 : ¬ (n : Int) < 0 := by omega
  have hn5 : ¬ (255 : Int) ≤ (n : Int) := by omega
  clear h
  by_cases h9 : n < 191
  · have h9i : ¬ (191 : Int) ≤ (n : Int) := by omega
    obtain ⟨G, lv, M, hF⟩ := H.out
    have hlow := hF.low
    have hplt := hF.lt.1
    obtain ⟨c0, c1, c2, c3, c4, c5, c6, cf0⟩ := hF.c0
    have HF := Lib.hid hF
    have HM := Lib.hid (show ∀ r, r < R → M r n = full R (txt D) r n from fun r hr => by rw [full_data h9]; exact hF.holds.1 r n hr h9)
    have hmk := make_cap 0 R (Nat.zero_le _) (by omega) w
    have HO0 := Lib.hid (own_cap (B := w.heap.size) (u := 0) (c := R) (w := w) (Nat.zero_le _) (by omega) (Nat.le_refl _))
    have hzz : ((0 : Nat) : Int) = 0 := rfl
    rw [hzz] at hmk
    clear hF h9 hzz cf0
    go_enter Tryz.func95, Tryz.ntmps95
    go_wp2_with fail
    go_loopw [34, 6] (fun i v wr => ∃ k : Nat, k ≤ R ∧ i = .int .i64 k ∧ OwnB w.heap.size wr v (ofF k (fun r => full R (txt D) r n)) ∧ Same [] w wr) (fun i _ _ => R - (intOf i).toNat)
    case atStart => exact ⟨0, Nat.zero_le _, rfl, HO0.out, (Same.refl [] w).alloc _⟩
    case round =>
      obtain ⟨k, hk, rfl, ho, hsm⟩ := hrel
      have HO := Lib.hid ho; have HSM := Lib.hid hsm
      by_cases h5 : k < R
      · have h5i : (k : Int) < (R : Int) := by omega
        have e5 := hsm.cell c5 (by simp)
        have e2 := (HF.out.grid.same hsm (by simp)).cell h5 hn
        rw [HM.out k h5] at e2
        obtain ⟨x, hx⟩ : ∃ x, x = full R (txt D) k n := ⟨_, rfl⟩
        rw [← hx] at e2
        have hsn := ofF_succ k (fun r => full R (txt D) r n)
        simp only [← hx] at hsn
        obtain ⟨L, hL⟩ : ∃ L, L = ofF k (fun r => full R (txt D) r n) := ⟨_, rfl⟩
        have hLl : L.length = k := by rw [hL, ofF_length]
        rw [← hL] at HO hsn
        have HSN := Lib.hid hsn
        have m1 : L.length + 1 ≤ maxLen := by unfold maxLen; omega
        have n1 : (L.length + 1) * 1 ≤ 140737488355328 := by omega
        have hbase : w.heap.size ≤ (wr.alloc (.cells #[.int .u8 (x.toNat : Int)] 5)).heap.size := by rw [World.size_alloc]; exact Nat.le_succ_of_le hsm.size
        clear ho hsm hx hsn hL hLl
        go_wp2_with (at_builtin; refine wpList_append_src rfl (.tmp 37) (.tmp 47) 33 rfl w.heap.size 5 i0 (.int .u8 0) 1 1 Tryz.underlying33 hi hz0 hz1 hz2 rfl (by decide) _ L.length _ rfl (HO.out.alloc _) _ 1 _ rfl (reads_one wr x) (one_u8l [x]) m1 n1 hbase ?_; intro v2 w5 hown hgrow hat; have HOWN := Lib.hid hown; have HGW := Lib.hid hgrow; clear hown hgrow hat)
        obtain ⟨q1, q2⟩ := OwnB.grow (HO.out.alloc _) (Nat.le_refl _) (HSM.out.alloc _) HOWN.out HGW.out
        go_roundw
        case rel => exact ⟨k + 1, by omega, by go_num, by rw [HSN.out]; exact q1, q2⟩
        case measure => simp [intOf]; omega
      · obtain rfl : k = R := by omega
        have h5i : ¬ (k : Int) < (k : Int) := by omega
        have hcv := ho.str
        clear ho hsm h5
        go_wp2_with fail
        go_ret2
        exact ⟨rfl, frP_quiet H.out HSM.out⟩
  · have h9i : (191 : Int) ≤ (n : Int) := by omega
    clear hi hz0 hz1 hz2
    go_enter Tryz.func95, Tryz.ntmps95
    go_wp2_with fail
    (with_reducible refine HFR.out.mono ?_)
    rintro e w1 ⟨rfl, hf1, s1⟩
    have H1 := Lib.hid hf1; have S1 := Lib.hid s1
    obtain ⟨i0, hi, hz0, hz1, hz2⟩ := info_parts Tryz.infoB
    obtain ⟨G, lv, M, hF⟩ := hf1
    have hlow := hF.low
    have hplt := hF.lt.1
    obtain ⟨c0, c1, c2, c3, c4, c5, c6, cf0⟩ := hF.c0
    have HF := Lib.hid hF
    have HM := Lib.hid (show ∀ r, r < R → M r n = full R (txt D) r n from fun r hr => hF.holds.2 rfl r n hr hn)
    have hmk := make_cap 0 R (Nat.zero_le _) (by omega) w1
    have HO0 := Lib.hid (own_cap (B := w1.heap.size) (u := 0) (c := R) (w := w1) (Nat.zero_le _) (by omega) (Nat.le_refl _))
    have hzz : ((0 : Nat) : Int) = 0 := rfl
    rw [hzz] at hmk
    clear hF h9 hzz cf0 s1
    go_wp2_with fail
    go_loopw [34, 6] (fun i v wr => ∃ k : Nat, k ≤ R ∧ i = .int .i64 k ∧ OwnB w1.heap.size wr v (ofF k (fun r => full R (txt D) r n)) ∧ Same [] w1 wr) (fun i _ _ => R - (intOf i).toNat)
    case atStart => exact ⟨0, Nat.zero_le _, rfl, HO0.out, (Same.refl [] w1).alloc _⟩
    case round =>
      obtain ⟨k, hk, rfl, ho, hsm⟩ := hrel
      have HO := Lib.hid ho; have HSM := Lib.hid hsm
      by_cases h5 : k < R
      · have h5i : (k : Int) < (R : Int) := by omega
        have e5 := hsm.cell c5 (by simp)
        have e2 := (HF.out.grid.same hsm (by simp)).cell h5 hn
        rw [HM.out k h5] at e2
        obtain ⟨x, hx⟩ : ∃ x, x = full R (txt D) k n := ⟨_, rfl⟩
        rw [← hx] at e2
        have hsn := ofF_succ k (fun r => full R (txt D) r n)
        simp only [← hx] at hsn
        obtain ⟨L, hL⟩ : ∃ L, L = ofF k (fun r => full R (txt D) r n) := ⟨_, rfl⟩
        have hLl : L.length = k := by rw [hL, ofF_length]
        rw [← hL] at HO hsn
        have HSN := Lib.hid hsn
        have m1 : L.length + 1 ≤ maxLen := by unfold maxLen; omega
        have n1 : (L.length + 1) * 1 ≤ 140737488355328 := by omega
        have hbase : w1.heap.size ≤ (wr.alloc (.cells #[.int .u8 (x.toNat : Int)] 5)).heap.size := by rw [World.size_alloc]; exact Nat.le_succ_of_le hsm.size
        clear ho hsm hx hsn hL hLl
        go_wp2_with (at_builtin; refine wpList_append_src rfl (.tmp 37) (.tmp 47) 33 rfl w1.heap.size 5 i0 (.int .u8 0) 1 1 Tryz.underlying33 hi hz0 hz1 hz2 rfl (by decide) _ L.length _ rfl (HO.out.alloc _) _ 1 _ rfl (reads_one wr x) (one_u8l [x]) m1 n1 hbase ?_; intro v2 w5 hown hgrow hat; have HOWN := Lib.hid hown; have HGW := Lib.hid hgrow; clear hown hgrow hat)
        obtain ⟨q1, q2⟩ := OwnB.grow (HO.out.alloc _) (Nat.le_refl _) (HSM.out.alloc _) HOWN.out HGW.out
        go_roundw
        case rel => exact ⟨k + 1, by omega, by go_num, by rw [HSN.out]; exact q1, q2⟩
        case measure => simp [intOf]; omega
      · obtain rfl : k = R := by omega
        have h5i : ¬ (k : Int) < (k : Int) := by omega
        have hcv := ho.str
        clear ho hsm h5
        go_wp2_with fail
        go_ret2
        exact ⟨rfl, ⟨false, H1.out.quiet HSM.out⟩, S1.out.trans_nil HSM.out⟩
set_option maxRecDepth 100000 in
theorem row_bad {bl : List Nat} {p R C K : Nat} {D : List ByteArray} {old : Bool} {w : World} (n : Int) (h : FrAt w bl p R C K D old) (hn : n < 0 ∨ (R : Int) ≤ n) :
    Calls Tryz.prog 9 #[.pointer (some ⟨p, 0, none⟩), .int .i64 n] w (FrPost (.tuple #[.string ⟨#[]⟩, .int .i64 15]) bl p R C K D w) := by
  have H := Lib.hid h
  obtain ⟨G, lv, M, hF⟩ := h
  obtain ⟨c0, c1, c2, c3, c4, c5, c6, cf0⟩ := hF.c0
  clear hF cf0
  have hn2 : n < 0 ∨ (¬ n < 0 ∧ (R : Int) ≤ n) := by omega
  clear hn
  rcases hn2 with h1 | ⟨h1, h2⟩
  all_goals
    go_enter Tryz.func9, Tryz.ntmps9
    go_wp2_with fail
    go_ret2
    exact ⟨rfl, frP_quiet H.out (Same.refl _ _)⟩
set_option maxRecDepth 100000 in
theorem row_ok {bl : List Nat} {p R C K : Nat} {D : List ByteArray} {old : Bool} {w : World} (n : Nat) (h : FrAt w bl p R C K D old) (hn : n < R) :
    Calls Tryz.prog 9 #[.pointer (some ⟨p, 0, none⟩), .int .i64 (n : Int)] w (FrPost (.tuple #[.string (bs (rowW R (txt D) n)), .int .i64 0]) bl p R C K D w) := by
  have HFR := Lib.hid (fresh_any h)
  obtain ⟨G, lv, M, hF⟩ := h
  obtain ⟨c0, c1, c2, c3, c4, c5, c6, cf0⟩ := hF.c0
  have hn0 : ¬ (n : Int) < 0 := by omega
  have hn5 : ¬ (R : Int) ≤ (n : Int) := by omega
  have hn6 : (n : Int) < (R : Int) := by omega
  clear hF cf0
  go_enter Tryz.func9, Tryz.ntmps9
  go_wp2_with fail
  (with_reducible refine HFR.out.mono ?_)
  rintro e w1 ⟨rfl, hf1, s1⟩
  have H1 := Lib.hid hf1; have S1 := Lib.hid s1
  clear c0 c1 c2 c3 c4 c5 c6
  obtain ⟨G, lv, M, hF⟩ := hf1
  obtain ⟨c0, c1, c2, c3, c4, c5, c6, cf0⟩ := hF.c0
  have hcv := row_conv (m := 255) (cap := 255) hF.grid hn (Nat.le_refl _) (rowW R (txt D) n) (by
    refine List.ext_getElem (by rw [rowW_length, ofF_length]) fun i h1 h2 => ?_
    rw [ofF_length] at h2
    rw [ofF_get, hF.holds.2 rfl n i hn h2]
    unfold full
    rw [cf_lt h1])
  clear hF cf0 s1
  go_wp2_with fail
  go_ret2
  exact ⟨rfl, ⟨false, H1.out⟩, S1.out⟩
end Go.Proofs.YtpkpfebhdgbgbaaGreatDoor.K
namespace Go.Proofs.YtpkpfebhdgbgbaaGreatDoor.K
open Go.RowKit
set_option linter.unusedSimpArgs false
set_option linter.unusedVariables false

theorem zc_row : Tryz.zeroCells97 = zRow := by kernel_rfl
theorem zero_list (R : Nat) : (Builtin.zeroCells zRow R).toList = List.replicate (R * 255) (.int .u8 0) := by
  have hz : zRow.size = 255 := by unfold zRow; rw [Array.size_replicate]
  have hm : Builtin.zeroCells zRow R = madeCells zRow (R * 255) := by unfold Builtin.zeroCells madeCells; rw [hz]
  rw [hm]
  refine List.ext_getElem (by rw [Array.length_toList, size_madeCells, List.length_replicate]) fun i h1 h2 => ?_
  rw [List.length_replicate] at h2
  have h := zrow_at (R * 255) i h2
  rw [List.getElem_replicate, Array.getElem_toList]
  rw [Array.getElem?_eq_getElem (by rw [size_madeCells]; exact h2)] at h
  exact Option.some.inj h
theorem run_clear_rows (w : World) (ty : TypeId) (G R c : Nat) (hR : 0 < R) (hc : ∀ j, j < R * 255 → (w.cell? ⟨G, j, none⟩).isSome = true) (hf : ∀ j, j < R * 255 → w.frozen? ⟨G, j, none⟩ = false) :
    (Builtin.clear_ #[93] ty #[.slice (some ⟨G, 0, none⟩) R c]).run Tryz.prog w = .ok (.tuple #[]) (w.setCells G 0 (List.replicate (R * 255) (.int .u8 0))) := by
  have hst := run_storeCells_cells (P := Tryz.prog) G 0 (List.replicate (R * 255) (.int .u8 0)) 0 w (by simpa using hc) (by simpa using hf) (by intro v hv'; rw [List.eq_of_mem_replicate hv']; rfl)
  simp only [Nat.add_zero] at hst
  have hzl := zero_list R
  rw [← zc_row] at hzl
  obtain ⟨m, rfl⟩ : ∃ m, R = m + 1 := ⟨R - 1, by omega⟩
  have hv := Tryz.zeroValue97
  simp only [Builtin.clear_, Sem.run_bind, run_underlying Tryz.underlying93, hv, Result.andThen_ok]
  simp [hzl, hst, Value.cells]
theorem sets_zero (v : Value) (m : Nat) : ∀ {w : World} {G o : Nat} {C : Array Value} {t : TypeId}, w.heap[G]? = some (.cells C t (0, 0)) → o + m ≤ C.size →
    ∃ C', (w.setCells G o (List.replicate m v)).heap[G]? = some (.cells C' t (0, 0)) ∧ C'.size = C.size ∧ ∀ j, C'[j]? = if o ≤ j ∧ j < o + m then some v else C[j]? := by
  induction m with
  | zero => intro w G o C t h _; exact ⟨C, h, rfl, fun j => by rw [if_neg (by omega)]⟩
  | succ m ih =>
    intro w G o C t h hm
    obtain ⟨C', h1, h2, h3⟩ := ih (o := o + 1) (set_same (i := o) h v) (by rw [Array.size_setIfInBounds]; omega)
    refine ⟨C', h1, by rw [h2, Array.size_setIfInBounds], fun j => ?_⟩
    rw [h3]
    by_cases e : o + 1 ≤ j ∧ j < o + 1 + m
    · rw [if_pos e, if_pos (by omega)]
    · rw [if_neg e, Array.getElem?_setIfInBounds]
      by_cases e2 : o = j
      · rw [if_pos e2, if_pos (by omega), if_pos (by omega)]
      · rw [if_neg e2, if_neg (by omega)]
theorem grid_clear {w : World} {G R : Nat} {M : Nat → Nat → UInt8} (h : GridAt w G R M) : GridAt (w.setCells G 0 (List.replicate (R * 255) (.int .u8 0))) G R (fun _ _ => 0) := by
  obtain ⟨C, h1, h2, h3⟩ := h
  obtain ⟨C', k1, k2, k3⟩ := sets_zero (.int .u8 0) (R * 255) (o := 0) h1 (by omega)
  refine ⟨C', k1, k2.trans h2, fun r c hr hc => ?_⟩
  have : r * 255 + 255 ≤ R * 255 := by omega
  rw [k3, if_pos (by omega)]; rfl
theorem clear_fin {w : World} {bl : List Nat} {p R C K : Nat} {D : List ByteArray} {old : Bool} {G : Nat} {lv : Value} {M : Nat → Nat → UInt8} (HF : FrIn w bl p R C K D old G lv M) :
    FrAt ((((w.setCells G 0 (List.replicate (R * 255) (.int .u8 0))).setCell ⟨p, 3, none⟩ (.slice none 0 0)).setCell ⟨p, 4, none⟩ (.int .i64 0)).setCell ⟨p, 6, none⟩ (.bool false)) bl p R C K [] false ∧
      Same bl w ((((w.setCells G 0 (List.replicate (R * 255) (.int .u8 0))).setCell ⟨p, 3, none⟩ (.slice none 0 0)).setCell ⟨p, 4, none⟩ (.int .i64 0)).setCell ⟨p, 6, none⟩ (.bool false)) := by
  have h1 : Same [G] w (w.setCells G 0 (List.replicate (R * 255) (.int .u8 0))) := sets_same _ (Same.refl _ _) (fun _ => by simp)
  obtain ⟨w1, hw1⟩ : ∃ w1, w1 = w.setCells G 0 (List.replicate (R * 255) (.int .u8 0)) := ⟨_, rfl⟩
  have hg := grid_clear HF.grid
  rw [← hw1] at h1 hg ⊢
  have hhead := h1.heap HF.head (by simpa using HF.neG)
  have hset : Same [p] w1 (((w1.setCell ⟨p, 3, none⟩ (.slice none 0 0)).setCell ⟨p, 4, none⟩ (.int .i64 0)).setCell ⟨p, 6, none⟩ (.bool false)) :=
    (((Same.refl [p] w1).setCell (fun _ => by simp) _).setCell (fun _ => by simp) _).setCell (fun _ => by simp) _
  refine ⟨⟨G, .slice none 0 0, fun _ _ => 0, ?_⟩, ((h1.mono (T := [G, p]) (fun x hx _ => by simp at hx; simp [hx])).trans hset (fun x hx _ => by simp at hx; simp [hx])).mono (fun x hx _ => ?_)⟩
  · exact
      { head := (set_same (set_same (set_same hhead _) _) _).trans (by simp [frC, txt_nil])
        grid := hg.same hset (by simpa using fun h => HF.neG h.symm)
        holds := ⟨fun r c _ _ => rfl, fun _ r c _ _ => (full_nil R r c).symm⟩
        row := World.ownsRow_nil _ _ _ _
        inP := HF.inP
        inG := HF.inG
        neG := HF.neG
        own := fun q hq => by simp [Value.ownBlock] at hq
        low := HF.low
        room := Nat.zero_le _
        few := Nat.zero_le _
        below := fun x hx => Nat.lt_of_lt_of_le (HF.below x hx) (Nat.le_trans h1.size hset.size) }
  · have hx2 : x = G ∨ x = p := by simpa using hx
    rcases hx2 with rfl | rfl
    · exact HF.inG
    · exact HF.inP
def ClearPost (bl : List Nat) (p R C K : Nat) (w : World) (e : Ending) (w' : World) : Prop := e = .returned (.tuple #[]) ∧ FrAt w' bl p R C K [] false ∧ Same bl w w'
end Go.Proofs.YtpkpfebhdgbgbaaGreatDoor.K
namespace Go.Proofs.YtpkpfebhdgbgbaaGreatDoor.K
open Go.RowKit
open Dg (StrsAt)
set_option linter.unusedSimpArgs false
set_option linter.unusedVariables false

theorem Tryz.infoS : (Tryz.prog.info? 9).map (fun i => (i.zero, i.size, i.bytes)) = some (some (.string ByteArray.empty), 1, 16) := by kernel_rfl
def sl (xs : List ByteArray) : List Value := xs.map Value.string
def OwnS (B : Nat) (w : World) (v : Value) (xs : List ByteArray) : Prop := w.ownsRow B 9 1 v xs.length (sl xs)
theorem OwnS.strs {B : Nat} {w : World} {v : Value} {xs : List ByteArray} (h : OwnS B w v xs) : StrsAt w v xs := by
  rcases h.2 with ⟨rfl, h0⟩ | ⟨g, cap, cur, rfl, _, hg, hnc, hcm, hcs, ht⟩
  · have : xs = [] := List.eq_nil_of_length_eq_zero h0
    subst this
    exact ⟨none, 0, rfl, Nat.le_refl _, Nat.zero_le _, fun i hi => absurd hi (Nat.not_lt_zero _)⟩
  · refine ⟨_, cap, rfl, hnc, hcm, fun i hi => ⟨_, rfl, rfl, ?_⟩⟩
    have h1 := congrArg (fun z => z[i]?) ht
    simp only [List.getElem?_take] at h1
    rw [if_pos (by omega)] at h1
    rw [cell_of hg, ← Array.getElem?_toList, Nat.zero_add, h1]
    simp [sl, hi]
theorem OwnS.keep {B : Nat} {S : List Nat} {A C : World} {v : Value} {xs : List ByteArray} (h : OwnS B A v xs) (hs : Same S A C) (hB : ∀ x ∈ S, x < B) : OwnS B C v xs :=
  own_same h hs (fun k hk hm => by have := (World.ownsRow.lt h k hk).1; have := hB k hm; omega)
theorem OwnS.alloc {B : Nat} {w : World} {v : Value} {xs : List ByteArray} (h : OwnS B w v xs) (o : Obj) : OwnS B (w.alloc o) v xs := World.ownsRow.alloc h o
theorem readsS_one (wr : World) (s : ByteArray) : Reads (wr.alloc (.cells #[.string s] 9)) 1 (.slice (some ⟨wr.heap.size, 0, none⟩) 1 1) 1 (sl [s]) :=
  Reads.of_own (row_new wr #[.string s] 9 1 rfl (by decide))
theorem one_sl (xs : List ByteArray) : ∀ u ∈ sl xs, u.oneCell' = true := by
  intro u hu
  simp only [sl, List.mem_map] at hu
  obtain ⟨a, _, rfl⟩ := hu
  rfl
theorem FrAt.below {w : World} {bl : List Nat} {p R C K : Nat} {D : List ByteArray} {old : Bool} (h : FrAt w bl p R C K D old) : ∀ x ∈ bl, x < w.heap.size := by
  obtain ⟨G, lv, M, h⟩ := h
  exact h.below
/-- Columns of parity. -/
def parK (R : Nat) (X : List UInt8) (k : Nat) : List ByteArray := (List.range k).map fun j => bs (colW R X (191 + j))
theorem parK_succ (R : Nat) (X : List UInt8) (k : Nat) : parK R X (k + 1) = parK R X k ++ [bs (colW R X (191 + k))] := by unfold parK; rw [List.range_succ, List.map_append]; rfl
theorem parK_length (R : Nat) (X : List UInt8) (k : Nat) : (parK R X k).length = k := by unfold parK; rw [List.length_map, List.length_range]
def ParPost (xs : List ByteArray) (bl : List Nat) (p R C K : Nat) (D : List ByteArray) (w : World) (e : Ending) (w' : World) : Prop :=
  (∃ u, e = .returned u ∧ StrsAt w' u xs ∧ OwnS w.heap.size w' u xs) ∧ (∃ o, FrAt w' bl p R C K D o) ∧ Same bl w w'
set_option maxRecDepth 100000 in
set_option maxHeartbeats 4000000 in
theorem parity_any {bl : List Nat} {p R C K : Nat} {D : List ByteArray} {old : Bool} {w : World} (h : FrAt w bl p R C K D old) :
    Calls Tryz.prog 61 #[.pointer (some ⟨p, 0, none⟩)] w (ParPost (parK R (txt D) (64 - K)) bl p R C K D w) := by
  obtain ⟨i0, hi, hz0, hz1, hz2⟩ := info_parts Tryz.infoS
  have H := Lib.hid h
  have HB := Lib.hid h.below
  have hK : K ≤ 64 := by obtain ⟨G, lv, M, h9⟩ := h; exact h9.low.2.2.2.1
  obtain ⟨m, hm⟩ : ∃ m, m = 64 - K := ⟨_, rfl⟩
  have hmk : (255 : Int) - (K : Int) = ((191 + m : Nat) : Int) := by omega
  obtain ⟨e0, he0⟩ : ∃ e0, e0 = 191 + m := ⟨_, rfl⟩
  rw [← he0] at hmk
  rw [← hm]
  have HM := Lib.hid hm; have HE0 := Lib.hid he0
  clear h hm he0
  go_enter Tryz.func61, Tryz.ntmps61
  go_wp2_with fail
  go_loopw [4, 3] (fun i v wr => ∃ k n : Nat, k ≤ m ∧ n = 191 + k ∧ i = .int .i64 (n : Int) ∧ OwnS w.heap.size wr v (parK R (txt D) k) ∧ (∃ o, FrAt wr bl p R C K D o) ∧ Same bl w wr) (fun i _ _ => 300 - (intOf i).toNat)
  case atStart => exact ⟨0, 191, Nat.zero_le _, rfl, rfl, World.ownsRow_nil _ _ _ _, ⟨old, H.out⟩, Same.refl _ _⟩
  case round =>
    obtain ⟨k, n, hk, hn, rfl, ho, ⟨o, hf⟩, hsm⟩ := hrel
    have HO := Lib.hid ho; have HSM := Lib.hid hsm; have HF := Lib.hid hf
    have c2 : wr.cell? ⟨p, 2, none⟩ = some (.int .i64 (K : Int)) := by obtain ⟨G, lv, M, h9⟩ := hf; exact h9.c0.2.2.1
    by_cases h5 : k < m
    · have h5i : (n : Int) < (e0 : Int) := by have := HE0.out; omega
      have hn5 : n < 255 := by have := HM.out; omega
      have HC := Lib.hid (column_ok n hf hn5)
      obtain ⟨S, hS⟩ : ∃ S, S = bs (colW R (txt D) n) := ⟨_, rfl⟩
      have hsn : parK R (txt D) (k + 1) = parK R (txt D) k ++ [S] := by rw [parK_succ, hS, hn]
      rw [← hS] at HC
      obtain ⟨L, hL⟩ : ∃ L, L = parK R (txt D) k := ⟨_, rfl⟩
      have hLl : L.length ≤ 64 := by rw [hL, parK_length]; have := HM.out; omega
      rw [← hL] at HO hsn
      have HSN := Lib.hid hsn
      have m1 : L.length + 1 ≤ maxLen := by unfold maxLen; omega
      have n1 : (L.length + 1) * 16 ≤ 140737488355328 := by omega
      have HN := Lib.hid hn
      clear ho hsm hf hS hsn hL hn
      go_wp2_with fail
      (with_reducible refine HC.out.mono ?_)
      rintro e w3 ⟨rfl, ⟨o3, hf3⟩, s3⟩
      have HF3 := Lib.hid hf3; have S3 := Lib.hid s3
      have HO3 := Lib.hid (HO.out.keep s3 HB.out)
      have HSM3 := Lib.hid (HSM.out.trans s3 (fun x hx _ => hx))
      have hbase : w.heap.size ≤ (w3.alloc (.cells #[.string S] 9)).heap.size := by rw [World.size_alloc]; exact Nat.le_succ_of_le HSM3.out.size
      clear hf3 s3 c2
      go_wp2_with (at_builtin; refine wpList_append_src rfl (.tmp 25) (.tmp 27) 74 rfl w.heap.size 9 i0 (.string ByteArray.empty) 1 16 Tryz.underlying74 hi hz0 hz1 hz2 rfl (by decide) _ L.length _ rfl (HO3.out.alloc _) _ 1 _ rfl (readsS_one w3 S) (one_sl [S]) m1 n1 hbase ?_; intro v2 w7 hown hgrow hat; have HOWN := Lib.hid hown; have HGW := Lib.hid hgrow; clear hown hgrow hat)
      have hs7 : Same _ w3 w7 := ((Same.refl _ w3).alloc _).trans (Same.of_grown HGW.out) (fun x hx _ => hx)
      have hb7 : ∀ x ∈ bl, x ∉ (Value.ownBlock _).toList := fun x hx hm => by have := (World.ownsRow.lt HO3.out x (by simpa using hm)).1; have := HB.out x hx; omega
      have hf7 := HF3.out.same hs7 hb7
      have hsm7 : Same bl w w7 := (HSM3.out.alloc _).grown HGW.out (fun k hk hlt => by have := (World.ownsRow.lt HO3.out k hk).1; omega)
      go_roundw
      case rel => exact ⟨k + 1, n + 1, by omega, by have := HN.out; omega, by go_num, by rw [HSN.out]; unfold OwnS sl; rw [List.length_append, List.map_append]; exact HOWN.out, ⟨o3, hf7⟩, hsm7⟩
      case measure => simp [intOf]; omega
    · have h5i : ¬ (n : Int) < (e0 : Int) := by have := HE0.out; omega
      obtain rfl : k = m := by omega
      have HST := Lib.hid ho.strs
      have HOS := Lib.hid ho
      obtain ⟨ad, cp, rfl, _, _, _⟩ := ho.strs
      clear ho hsm hf h5 hn
      go_wp2_with fail
      go_ret
      exact ⟨⟨_, rfl, HST.out, HOS.out⟩, ⟨o, HF.out⟩, HSM.out⟩
theorem row_new2 (w : World) : (w.alloc (.cells #[] 158)).ownsRow 0 158 2 (.slice (some ⟨w.heap.size, 0, none⟩) 0 0) 0 [] :=
  ⟨rfl, .inr ⟨w.heap.size, 0, #[], rfl, Nat.zero_le _, heap_alloc_new w _, Nat.le_refl _, by decide, rfl, rfl⟩⟩
def ClonePost (n : Nat) (xs : List Value) (w : World) (e : Ending) (w' : World) : Prop := (∃ u, e = .returned u ∧ Reads w' 2 u n xs) ∧ Same [] w w'
set_option maxRecDepth 100000 in
theorem clone_any (v : Value) (n : Nat) (xs : List Value) (w : World) (h : w.ownsRow 0 158 2 v n xs) (h1 : ∀ u ∈ xs, u.oneCell' = true) (hn : n ≤ 1000) :
    Calls Tryz.prog 133 #[v] w (ClonePost n xs w) := by
  obtain ⟨j0, hj, hy0, hy1, hy2⟩ := info_parts Tryz.infoPl
  have HO := Lib.hid h
  have H1 := Lib.hid h1
  rcases h.2 with ⟨rfl, h0⟩ | ⟨g, cap, cur, rfl, _⟩
  · have hx : xs = [] := List.eq_nil_of_length_eq_zero (by rw [h.1, h0])
    subst hx h0
    have heq : ∀ W, (binOp .eql 92 (.slice none 0 0) (.slice none 0 0)).run Tryz.prog W = .ok (.bool true) W := fun W => run_eql_slice_nil W _ _ _ _ _ Tryz.underlying92
    clear h h1
    go_enter Tryz.func133, Tryz.ntmps133
    go_wp2_with fail
    go_ret
    exact ⟨⟨_, rfl, ⟨rfl, .inr ⟨rfl, rfl⟩⟩⟩, Same.refl _ _⟩
  · have heq : ∀ W, (binOp .eql 92 (.slice (some ⟨g, 0, none⟩) n cap) (.slice none 0 0)).run Tryz.prog W = .ok (.bool false) W := fun W => run_eql_slice_nil W _ _ _ _ _ Tryz.underlying92
    have m1 : 0 + n ≤ maxLen := by unfold maxLen; omega
    have n1 : (0 + n) * 24 ≤ 140737488355328 := by omega
    clear h h1
    go_enter Tryz.func133, Tryz.ntmps133
    go_wp2_with (at_builtin; refine wpList_append_src rfl (.tmp 5) (.tmp 6) 92 rfl 0 158 j0 (.agg #[.int .i64 0, .string ByteArray.empty]) 2 24 Tryz.underlying92 hj hy0 hy1 hy2 plZ_cells (by decide) _ 0 [] rfl (row_new2 w) _ n xs rfl (by exact (Reads.of_own HO.out).same (S := []) ((Same.refl [] w).alloc _) (fun _ _ => by simp)) H1.out m1 n1 (Nat.zero_le _) ?_; intro v2 w7 hown hgrow hat; have HOWN := Lib.hid hown; have HGW := Lib.hid hgrow; clear hown hgrow hat)
    go_ret
    refine ⟨⟨_, rfl, ?_⟩, (((Same.refl [] w).alloc _).grown HGW.out (fun k hk hlt => by cases hk; exact absurd hlt (Nat.lt_irrefl _)))⟩
    have h9 := Reads.of_own HOWN.out
    rw [Nat.zero_add, List.nil_append] at h9
    exact h9
theorem plL_one (D : List ByteArray) : ∀ u ∈ plL D, u.oneCell' = true := by
  intro u hu
  unfold plL at hu
  obtain ⟨q, _, hq⟩ := List.mem_flatMap.1 hu
  simp only [List.mem_cons, List.not_mem_nil, or_false] at hq
  rcases hq with rfl | rfl <;> rfl
theorem placed_any {bl : List Nat} {p R C K : Nat} {D : List ByteArray} {old : Bool} {w : World} (h : FrAt w bl p R C K D old) :
    Calls Tryz.prog 96 #[.pointer (some ⟨p, 0, none⟩)] w (ClonePost D.length (plL D) w) := by
  obtain ⟨G, lv, M, h⟩ := h
  obtain ⟨c0, c1, c2, c3, c4, c5, c6, cf0⟩ := h.c0
  have HC := Lib.hid (clone_any lv D.length (plL D) w h.row (plL_one D) (by have := h.few; omega))
  clear h cf0
  go_enter Tryz.func96, Tryz.ntmps96
  go_wp2_with fail
  (with_reducible refine HC.out.mono ?_)
  rintro e w1 ⟨⟨u, rfl, hr⟩, s1⟩
  have HR := Lib.hid hr; have S1 := Lib.hid s1
  clear hr s1
  go_wp2_with fail
  go_ret
  exact ⟨⟨u, rfl, HR.out⟩, S1.out⟩
end Go.Proofs.YtpkpfebhdgbgbaaGreatDoor.K
