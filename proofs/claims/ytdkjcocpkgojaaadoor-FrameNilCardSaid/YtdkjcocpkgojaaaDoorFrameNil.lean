/- The methods of a nil frame. No condition. The walk of FrameNil. Condition: the table of sizes is laid. -/
import Derived.Test.YtdkjcocpkgojaaaDoorFw8
import Derived.Test.YtdkjcocpkgojaaaDoorLw2
import Derived.Deep.RegionHeld3
namespace Go.Proofs.YtdkjcocpkgojaaaDoor
open Go.RowKit
set_option linter.unusedSimpArgs false
set_option linter.unusedVariables false

theorem add_nil (d : ByteArray) (w : World) : Calls Tryd.prog 15 #[.pointer none, .string d] w fun e w' => e = .returned (.tuple #[.int .i64 0, .int .i64 2]) ∧ w = w' := by
  go_enter Tryd.func15, Tryd.ntmps15
  go_wp2_with fail
  go_ret2
  exact ⟨rfl, rfl⟩
theorem column_nil (n : Int) (w : World) : Calls Tryd.prog 17 #[.pointer none, .int .i64 n] w fun e w' => e = .returned (.tuple #[.string ⟨#[]⟩, .int .i64 2]) ∧ w = w' := by
  go_enter Tryd.func17, Tryd.ntmps17
  go_wp2_with fail
  go_ret2
  exact ⟨rfl, rfl⟩
theorem row_nil (n : Int) (w : World) : Calls Tryd.prog 25 #[.pointer none, .int .i64 n] w fun e w' => e = .returned (.tuple #[.string ⟨#[]⟩, .int .i64 2]) ∧ w = w' := by
  go_enter Tryd.func25, Tryd.ntmps25
  go_wp2_with fail
  go_ret2
  exact ⟨rfl, rfl⟩
theorem clear_nil (w : World) : Calls Tryd.prog 28 #[.pointer none] w fun e w' => e = .returned (.tuple #[]) ∧ w = w' := by
  go_enter Tryd.func28, Tryd.ntmps28
  go_wp2_with fail
  refine bodyPost_end (v := .tuple #[]) (by simp [results, Tryd.results28, go_sem]) rfl ⟨rfl, rfl⟩
theorem used_nil (w : World) : Calls Tryd.prog 18 #[.pointer none] w fun e w' => e = .returned (.int .i64 0) ∧ w = w' := by
  go_enter Tryd.func18, Tryd.ntmps18
  go_wp2_with fail
  go_ret
  exact ⟨rfl, rfl⟩
theorem padding_nil (w : World) : Calls Tryd.prog 19 #[.pointer none] w fun e w' => e = .returned (.int .i64 0) ∧ w = w' := by
  go_enter Tryd.func19, Tryd.ntmps19
  go_wp2_with fail
  go_ret
  exact ⟨rfl, rfl⟩
theorem placed_nil (w : World) : Calls Tryd.prog 23 #[.pointer none] w fun e w' => e = .returned (.slice none 0 0) ∧ w = w' := by
  go_enter Tryd.func23, Tryd.ntmps23
  go_wp2_with fail
  go_ret
  exact ⟨rfl, rfl⟩
theorem parity_nil (w : World) : Calls Tryd.prog 20 #[.pointer none] w fun e w' => e = .returned (.slice none 0 0) ∧ w = w' := by
  go_enter Tryd.func20, Tryd.ntmps20
  go_wp2_with fail
  go_ret
  exact ⟨rfl, rfl⟩
end Go.Proofs.YtdkjcocpkgojaaaDoor
namespace Go.Proofs.YtdkjcocpkgojaaaDoor
open Go.RowKit
set_option linter.unusedSimpArgs false
set_option linter.unusedVariables false

theorem parts_one (x : PartT) (w : World) (t : TypeId) : PartsAt (w.alloc (.cells #[.int .i64 x.n, .int .u8 (x.b.toNat : Int), .string x.s, .bool x.is] t)) (.slice (some ⟨w.heap.size, 0, none⟩) 1 1) [x] := by
  refine ⟨_, 1, rfl, Nat.le_refl _, by decide, fun i hi => ⟨_, rfl, rfl, ?_⟩⟩
  obtain rfl : i = 0 := by simp at hi; omega
  refine ⟨?_, ?_, ?_, ?_⟩ <;> (rw [cell_of (heap_alloc_new w _)]; rfl)
set_option maxRecDepth 100000 in
set_option maxHeartbeats 4000000 in
theorem frameNil_any (x : PartT) (n : Int) (w : World) (ht : Tab w) : Calls Tryd.prog 9 #[partV x, .int .i64 n] w (Ret (.bool true) w) := by
  obtain ⟨N, b, s, is⟩ := x
  show Calls _ _ #[.agg #[.int .i64 N, .int .u8 (b.toNat : Int), .string s, .bool is], .int .i64 n] w _
  have HT := Lib.hid (fun W (h : Same [] w W) => text_any ⟨N, b, s, is⟩ W)
  have htx : ∀ W, Calls Tryd.prog 14 #[.agg #[.int .i64 N, .int .u8 (b.toNat : Int), .string s, .bool is]] W (Ret (.string (textS ⟨N, b, s, is⟩)) W) := fun W => text_any ⟨N, b, s, is⟩ W
  have HA := Lib.hid (fun W (h : Same [] w W) => awake12_any W (ht.same h (by simp)))
  obtain ⟨q, hq⟩ : ∃ q, q = decide (FewP [⟨N, b, s, is⟩]) := ⟨_, rfl⟩
  obtain ⟨T, hT⟩ : ∃ T, T = textS ⟨N, b, s, is⟩ := ⟨_, rfl⟩
  rw [← hT] at htx
  have HTX := Lib.hid htx
  have HF := Lib.hid (fun (W : World) (t : TypeId) (g : Nat) (hg : g = W.heap.size) => (by subst hg; have h9 := few_any [⟨N, b, s, is⟩] _ _ (parts_one ⟨N, b, s, is⟩ W t); rw [← hq] at h9; exact h9 : Calls Tryd.prog 11 #[.slice (some ⟨g, 0, none⟩) 1 1] (W.alloc (.cells #[.int .i64 N, .int .u8 (b.toNat : Int), .string s, .bool is] t)) (Ret (.bool q) (W.alloc (.cells #[.int .i64 N, .int .u8 (b.toNat : Int), .string s, .bool is] t)))))
  have HSZ := Lib.hid (fun o : Obj => (by unfold World.alloc; exact (Array.size_push _).symm : w.heap.size + 1 = (w.alloc o).heap.size))
  have S0 := Lib.hid (((Same.refl [] w).alloc (.cells #[.int .i64 N, .int .u8 (b.toNat : Int), .string s, .bool is] 34)).alloc (.cells #[.int .i64 N, .int .u8 (b.toNat : Int), .string s, .bool is] 34))
  have S0b := Lib.hid ((Same.refl [] (w.alloc (.cells #[.int .i64 N, .int .u8 (b.toNat : Int), .string s, .bool is] 34))).alloc (.cells #[.int .i64 N, .int .u8 (b.toNat : Int), .string s, .bool is] 34))
  have K0 := Lib.hid (show (w.alloc (.cells #[.int .i64 N, .int .u8 (b.toNat : Int), .string s, .bool is] 34)).cell? ⟨w.heap.size, 0, none⟩ = some (.int .i64 N) by rw [cell_of (heap_alloc_new w _)]; rfl)
  have K1 := Lib.hid (show (w.alloc (.cells #[.int .i64 N, .int .u8 (b.toNat : Int), .string s, .bool is] 34)).cell? ⟨w.heap.size, 1, none⟩ = some (.int .u8 (b.toNat : Int)) by rw [cell_of (heap_alloc_new w _)]; rfl)
  have K2 := Lib.hid (show (w.alloc (.cells #[.int .i64 N, .int .u8 (b.toNat : Int), .string s, .bool is] 34)).cell? ⟨w.heap.size, 2, none⟩ = some (.string s) by rw [cell_of (heap_alloc_new w _)]; rfl)
  have K3 := Lib.hid (show (w.alloc (.cells #[.int .i64 N, .int .u8 (b.toNat : Int), .string s, .bool is] 34)).cell? ⟨w.heap.size, 3, none⟩ = some (.bool is) by rw [cell_of (heap_alloc_new w _)]; rfl)
  clear ht hq hT HT htx
  go_enter Tryd.func9, Tryd.ntmps9
  go_wp2_with fail
  (with_reducible refine (HF.out _ _ _ (HSZ.out _)).mono ?_)
  rintro e w1 ⟨rfl, s1⟩
  have S1 := Lib.hid (S0.out.trans_nil s1)
  have c0 := (S0b.out.trans_nil s1).cell K0.out (by simp)
  have c1 := (S0b.out.trans_nil s1).cell K1.out (by simp)
  have c2 := (S0b.out.trans_nil s1).cell K2.out (by simp)
  have c3 := (S0b.out.trans_nil s1).cell K3.out (by simp)
  clear s1
  cases q with
  | false =>
    go_wp2_with fail
    (with_reducible refine (HA.out _ S1.out).mono ?_)
    rintro e w2 ⟨rfl, s2⟩
    go_wp2_with fail
    go_ret
    exact ⟨rfl, S1.out.trans_nil s2⟩
  | true =>
    go_wp2_with fail
    (with_reducible refine (HTX.out _).mono ?_)
    rintro e w2 ⟨rfl, s2⟩
    have S2 := Lib.hid (S1.out.trans_nil s2)
    clear s2
    go_wp2_with fail
    (with_reducible refine (add_nil _ _).mono ?_)
    rintro e w3 ⟨rfl, rfl⟩
    go_wp2_with fail
    (with_reducible refine (column_nil _ _).mono ?_)
    rintro e w3 ⟨rfl, rfl⟩
    go_wp2_with fail
    (with_reducible refine (row_nil _ _).mono ?_)
    rintro e w3 ⟨rfl, rfl⟩
    go_wp2_with fail
    (with_reducible refine (clear_nil _).mono ?_)
    rintro e w3 ⟨rfl, rfl⟩
    go_wp2_with fail
    (with_reducible refine (used_nil _).mono ?_)
    rintro e w3 ⟨rfl, rfl⟩
    go_wp2_with fail
    (with_reducible refine (padding_nil _).mono ?_)
    rintro e w3 ⟨rfl, rfl⟩
    go_wp2_with fail
    (with_reducible refine (placed_nil _).mono ?_)
    rintro e w3 ⟨rfl, rfl⟩
    go_wp2_with fail
    (with_reducible refine (parity_nil _).mono ?_)
    rintro e w3 ⟨rfl, rfl⟩
    go_wp2_with fail
    (with_reducible refine (HA.out _ S2.out).mono ?_)
    rintro e w3 ⟨rfl, s3⟩
    have S3 := Lib.hid (S2.out.trans_nil s3)
    clear s3
    go_wp2_with fail
    go_ret
    exact ⟨rfl, S3.out⟩
end Go.Proofs.YtdkjcocpkgojaaaDoor
