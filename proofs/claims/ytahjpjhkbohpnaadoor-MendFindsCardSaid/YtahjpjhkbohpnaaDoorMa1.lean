/- The examples that each statement of layer 04 asks (awake). No condition. -/
import Derived.Test.YtahjpjhkbohpnaaDoorMw7
namespace Go.Proofs.YtahjpjhkbohpnaaDoor
open Go.RowKit
set_option linter.unusedSimpArgs false
set_option linter.unusedVariables false

def oneW : ByteArray := bs (List.replicate 9 0 ++ [120] ++ List.replicate 245 0)
theorem oneW_size : oneW.size = 255 := by unfold oneW; rw [size_bs, List.length_append, List.length_append, List.length_replicate, List.length_replicate]; rfl
theorem zw_eq : wordS (zerosS 191) = zerosS 255 := by unfold wordS; rw [parS_zeros]; unfold zerosS; rw [bs_app, List.replicate_append_replicate]
theorem one_unl : unl oneW (zerosS 255) = [9] := by decide +kernel
theorem one_oth : oth oneW (zerosS 255) [] = [9] := by decide +kernel
theorem good_nil : GoodP [] := ⟨fun x hx => by simp at hx, List.nodup_nil⟩
theorem ans_one : ansW oneW [] = (zerosS 255, [9], 0) := by
  rw [ans_found oneW_size (isB_true.1 is_zeros) good_nil (by decide) (by rw [one_oth]; decide), one_unl]
theorem one_cut : (zerosS 255).extract 0 9 ++ (⟨#[120]⟩ : ByteArray) ++ (zerosS 255).extract 10 255 = oneW := by
  rw [← lb_inj, lb_append, lb_append, lb_extract, lb_extract]; decide +kernel
set_option maxRecDepth 100000 in
set_option maxHeartbeats 4000000 in
theorem awake04_any (w : World) : Calls Tryd.prog 9 #[] w (Ret (.bool true) w) := by
  have hmk : ∀ w, (Instr.makeSlice 38 (.int .i64 191) (.int .i64 191)).run Tryd.prog w = .ok (.slice (some ⟨w.heap.size, 0, none⟩) 191 191) (w.alloc (.cells (Zn 191) 5)) := fun _ => by kernel_rfl
  have hcv1 := fun W => conv_n (n := 191) (by decide) (Same.refl [] (World.alloc W (.cells (Zn 191) 5)))
  obtain ⟨Z, hZ⟩ : ∃ Z, Z = zerosS 191 := ⟨_, rfl⟩
  obtain ⟨U, hU⟩ : ∃ U, U = zerosS 255 := ⟨_, rfl⟩
  have hUs : U.size = 255 := by rw [hU]; exact zerosS_size 255
  have C1 := Lib.hid (fun W => by have h9 := word_ok (zerosS 191) W (zerosS_size 191); rw [zw_eq, ← hZ, ← hU] at h9; exact h9)
  have C2 := Lib.hid (fun W => by have h9 := mword_any oneW [] (.slice none 0 0) W (by rw [oneW_size]; decide) (nums_nil W) (by decide); rw [ans_one, ← one_cut, ← hU] at h9; exact h9)
  rw [← hZ] at hcv1
  have hUi : (U.size : Int) = 255 := by omega
  have R0 := Lib.hid (fun W => room_any 0 W)
  have R1 := Lib.hid (fun W => room_any 63 W)
  have R2 := Lib.hid (fun W => room_any 64 W)
  have R3 := Lib.hid (fun W => room_any 65 W)
  have hUg : 10 ≤ U.size := by omega
  have hUh : 9 ≤ U.size := by omega
  have hUgi : (10 : Int) ≤ (U.size : Int) := by omega
  have hUhi : (9 : Int) ≤ (U.size : Int) := by omega
  clear hZ hU
  go_enter Tryd.func9, Tryd.ntmps9
  go_wp2_with fail
  (with_reducible refine (C1.out _).mono ?_)
  rintro e w1 ⟨rfl, s1⟩
  have S1 := Lib.hid (((Same.refl [] w).alloc _).trans_nil s1)
  clear s1 hmk hcv1
  go_wp2_with fail
  go_region_with (go_at_call 16; (with_reducible refine (C2.out _).mono ?_); rintro e w2 ⟨u, rfl, hn, s2⟩; have HN := Lib.hid hn; have S2 := Lib.hid (S1.out.drew.trans_nil s2); clear hn s2)
  all_goals
    go_wp2_with fail
    (with_reducible refine (R0.out _).mono ?_)
    rintro e w' ⟨rfl, rfl⟩
    go_wp2_with fail
    (with_reducible refine (R1.out _).mono ?_)
    rintro e w' ⟨rfl, rfl⟩
    go_wp2_with fail
    (with_reducible refine (R2.out _).mono ?_)
    rintro e w' ⟨rfl, rfl⟩
    go_wp2_with fail
    (with_reducible refine (R3.out _).mono ?_)
    rintro e w' ⟨rfl, rfl⟩
    go_wp2_with fail
    (with_reducible refine (ints_any [9] [9] _ _ _ (HN.out.same ((Same.refl [] _).alloc _)) (nums_one _ 9)).mono ?_)
    rintro e w3 ⟨rfl, s3⟩
    have S3 := Lib.hid ((S2.out.alloc _).trans_nil s3)
    clear s3
    go_wp2_with fail
    go_ret
    exact ⟨rfl, S3.out⟩
end Go.Proofs.YtahjpjhkbohpnaaDoor
