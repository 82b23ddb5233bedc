/- mend.scaled. Condition: the reach of strings. -/
import Derived.Test.YtahjpjhkbohpnaaDoorMw2
namespace Go.Proofs.YtahjpjhkbohpnaaDoor
open Go.RowKit
set_option linter.unusedSimpArgs false
set_option linter.unusedVariables false

theorem make_cap (u c : Nat) (hu : u ≤ c) (hc : c < 549755813888) (w : World) :
    (Instr.makeSlice 38 (.int .i64 (u : Int)) (.int .i64 (c : Int))).run Tryd.prog w = .ok (.slice (some ⟨w.heap.size, 0, none⟩) u c) (w.alloc (.cells (madeCells #[.int .u8 0] c) 5)) := by
  obtain ⟨i0, hi, hz0, hz1, hz2⟩ := info_parts Tryd.infoB
  have hr := run_make (P := Tryd.prog) w 38 5 i0 (.int .u8 0) Tryd.underlying38 hi hz0 .i64 .i64 (u : Int) (c : Int) (by omega) (by omega) (by rw [hz2]; omega) (by omega)
  simp only [Int.toNat_natCast, hz1, Nat.mul_one] at hr
  exact hr
theorem own_cap {B u c : Nat} {w : World} (hu : u ≤ c) (hc : c < 549755813888) (hB : B ≤ w.heap.size) : OwnB B (w.alloc (.cells (madeCells #[.int .u8 0] c) 5)) (.slice (some ⟨w.heap.size, 0, none⟩) u c) (List.replicate u 0) := by
  have hl : (List.replicate u (0 : UInt8)).length = u := List.length_replicate
  unfold OwnB
  rw [hl]
  have hm : (madeCells #[.int .u8 0] c).toList = List.replicate c (.int .u8 0) := toList_madeCells_one _ _
  refine ⟨by rw [u8l_length, hl, Nat.mul_one], .inr ⟨w.heap.size, c, _, rfl, hB, heap_alloc_new w _, hu, by unfold maxLen; omega, ?_, ?_⟩⟩
  · rw [← Array.length_toList, hm, List.length_replicate, Nat.mul_one]
  · rw [hm, Nat.mul_one, List.take_replicate, Nat.min_eq_left hu, u8l, List.map_replicate]; rfl
def scalL (p : List UInt8) (x : UInt8) (up : Nat) : List UInt8 := List.replicate up 0 ++ sclL x p
def scalS (p : ByteArray) (x : UInt8) (up : Nat) : ByteArray := bs (scalL (lb p) x up)
theorem scalL_length (p : List UInt8) (x : UInt8) (up : Nat) : (scalL p x up).length = up + p.length := by unfold scalL sclL; rw [List.length_append, List.length_replicate, List.length_map]
theorem scalL_snoc (p : List UInt8) (x : UInt8) (up k : Nat) (h : k < p.length) : scalL (p.take (k + 1)) x up = scalL (p.take k) x up ++ [gm (cf p k) x] := by
  unfold scalL sclL
  rw [take_snoc p k h, List.map_append, ← List.append_assoc]; rfl
set_option maxRecDepth 100000 in
set_option maxHeartbeats 4000000 in
theorem scaled_any (g : Nat) (p : ByteArray) (x : UInt8) (up : Nat) (w : World) (hf : FieldAt w g) (hp : p.size < 100000000000) (hu : up < 100000000000) :
    Calls Tryd.prog 52 #[.pointer (some ⟨g, 0, none⟩), .string p, .int .u8 (x.toNat : Int), .int .i64 (up : Int)] w (Ret (.string (scalS p x up)) w) := by
  obtain ⟨i0, hi, hz0, hz1, hz2⟩ := info_parts Tryd.infoB
  obtain ⟨B, hB⟩ : ∃ B, B = w.heap.size := ⟨_, rfl⟩
  have HB := Lib.hid hB
  obtain ⟨c, hc⟩ : ∃ c, c = up + p.size := ⟨_, rfl⟩
  have hci : (up : Int) + (p.size : Int) = (c : Int) := by omega
  have hmk := make_cap up c (by omega) (by omega)
  have own0 := own_cap (B := B) (u := up) (c := c) (w := w) (by omega) (by omega) (by omega)
  have HO0 := Lib.hid own0; have HF := Lib.hid hf
  clear hB own0 hf hc
  go_enter Tryd.func52, Tryd.ntmps52
  go_wp2_with fail
  go_loopw [19, 9] (fun i v wr => ∃ k : Nat, k ≤ p.size ∧ i = .int .i64 k ∧ OwnB B wr v (scalL ((lb p).take k) x up) ∧ Same [] w wr) (fun i _ _ => p.size - (intOf i).toNat)
  case atStart => exact ⟨0, Nat.zero_le _, rfl, by rw [List.take_zero]; unfold scalL; rw [show sclL x [] = [] from rfl, List.append_nil]; exact HO0.out, (Same.refl [] w).alloc _⟩
  case round =>
    obtain ⟨k, hk, rfl, ho, hsm⟩ := hrel
    by_cases h1 : k < p.size
    · have h1i : (k : Int) < (p.size : Int) := by omega
      have hbt := bt_at p k h1
      obtain ⟨y, hy⟩ : ∃ y, y = cf (lb p) k := ⟨_, rfl⟩
      rw [← hy] at hbt
      obtain ⟨z, hz⟩ : ∃ z, z = gm y x := ⟨_, rfl⟩
      have hfr : FieldAt wr g := HF.out.same hsm (by simp)
      have HM := Lib.hid (fmul_any g y x wr hfr)
      rw [← hz] at HM
      have hsn := scalL_snoc (lb p) x up k (by rw [lb_length]; exact h1)
      rw [← hy, ← hz] at hsn
      obtain ⟨L, hL⟩ : ∃ L, L = scalL ((lb p).take k) x up := ⟨_, rfl⟩
      rw [← hL] at ho hsn
      have hl : L.length ≤ up + p.size := by rw [hL, scalL_length, List.length_take, lb_length]; omega
      have m1 : L.length + 1 ≤ maxLen := by unfold maxLen; omega
      have n1 : (L.length + 1) * 1 ≤ 140737488355328 := by omega
      have hbw : B ≤ wr.heap.size := by rw [HB.out]; exact hsm.size
      have HO := Lib.hid ho; have HS := Lib.hid hsm; have HSN := Lib.hid hsn
      clear ho hsm hsn hL hy hz hfr
      go_wp2_with fail
      (with_reducible refine HM.out.mono ?_)
      rintro e w' ⟨rfl, nd, rfl⟩
      have hd := (show OwnB B (wr.drewN nd) _ L from HO.out).alloc (.cells #[.int .u8 (z.toNat : Int)] 5)
      have hbase : B ≤ ((wr.drewN nd).alloc (.cells #[.int .u8 (z.toNat : Int)] 5)).heap.size := by rw [World.size_alloc]; exact Nat.le_succ_of_le hbw
      have HD := Lib.hid hd
      clear hd
      go_wp2_with (at_builtin; refine wpList_append_src rfl (.tmp 22) (.tmp 29) 38 rfl B 5 i0 (.int .u8 0) 1 1 Tryd.underlying38 hi hz0 hz1 hz2 rfl (by decide) _ L.length _ rfl HD.out _ 1 _ rfl (reads_one (wr.drewN nd) z) (one_u8l [z]) m1 n1 hbase ?_; intro v2 w5 hown hgrow hat; have HOWN := Lib.hid hown; have HGW := Lib.hid hgrow; clear hown hgrow hat)
      obtain ⟨q1, q2⟩ := OwnB.grow HD.out (by have := HB.out; omega) ((HS.out.drewN nd).alloc _) HOWN.out HGW.out
      go_roundw
      case rel => exact ⟨k + 1, by omega, by go_num, by rw [HSN.out]; exact q1, q2⟩
      case measure => simp [intOf]; omega
    · obtain rfl : k = p.size := by omega
      have h1i : ¬ (p.size : Int) < (p.size : Int) := by omega
      have hcv := ho.str
      rw [← lb_length p, List.take_length] at hcv
      have hc2 : bs (scalL (lb p) x up) = scalS p x up := rfl
      rw [hc2] at hcv
      have HS := Lib.hid hsm
      clear ho hsm h1 hc2
      go_wp2_with fail
      go_ret
      exact ⟨rfl, HS.out⟩
end Go.Proofs.YtahjpjhkbohpnaaDoor
