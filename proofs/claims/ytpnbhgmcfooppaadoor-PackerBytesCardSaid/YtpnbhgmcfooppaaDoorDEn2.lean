/- The adaptation of a packet (stuffed). Condition: the body is no longer than 184 bytes. -/
import Derived.Test.YtpnbhgmcfooppaaDoorEn1
import Derived.Test.YtpnbhgmcfooppaaDoorShelfD15
import Derived.Deep.DeepCutAuto
namespace Go.Proofs.YtpnbhgmcfooppaaDoor
open Go.RowKit
set_option linter.unusedSimpArgs false
set_option linter.unusedVariables false

noncomputable def slowC (g n c : Nat) (W : World) : Result Value := (convert 48 9 (.slice (some ⟨g, 0, none⟩) n c)).run Tryd.prog W
theorem cv2 (W : World) (g c : Nat) : (convert 48 9 (.slice (some ⟨g, 0, none⟩) 2 c)).run Tryd.prog W =
    (match W.cell? ⟨g, 0, none⟩, W.cell? ⟨g, 1, none⟩ with | some (.int .u8 a0), some (.int .u8 a1) => .ok (.string (strOfNums [a0, a1])) W | _, _ => slowC g 2 c W) := by
  split
  · rename_i a0 a1 h0 h1
    refine run_convert_bytes_arg W _ 5 Tryd.underlying48 Tryd.underlying5 g 0 2 c [a0, a1] rfl (fun i hi => ?_) _ Tryd.underlying9
    have hi' : i = 0 ∨ i = 1 := by omega
    rcases hi' with rfl | rfl
    · exact h0
    · exact h1
  · rfl

theorem sce1 {W w1 : World} (hs : Same [] W w1) : ∀ b o, b < W.heap.size → w1.cell? ⟨b, o, none⟩ = W.cell? ⟨b, o, none⟩ :=
  fun b o h => World.cell?_of_block (hs.block b h (by simp))
theorem rep_255 : ∀ n : Nat, (⟨(Lib.repeatL (⟨#[255]⟩ : ByteArray).data.toList n).toArray⟩ : ByteArray) = strOfNums (List.replicate n 255) := fun n => by
  have h : ∀ n, Lib.repeatL ([255] : List UInt8) n = (List.replicate n (255 : Int)).map fun n => UInt8.ofNat n.toNat := fun n => by
    induction n with
    | zero => rfl
    | succ n ih => rw [Lib.repeatL, ih, List.replicate_succ, List.map_cons]; rfl
  unfold strOfNums
  rw [← h n]
theorem rep_any (x : Int) (n : Nat) (hx : x = n) (w : World) (hn : n ≤ 1000000) : Calls Tryd.prog 35 #[.string ⟨#[255]⟩, .int .i64 x] w (Ret (.string (strOfNums (List.replicate n 255))) w) :=
  hx ▸ (Tryd.strings_Repeat ⟨#[255]⟩ n w (by omega) (by show 1 * n ≤ _; omega)).mono fun e w' ⟨he, hb⟩ => ⟨by rw [he, rep_255], Same.of_below hb⟩

set_option maxRecDepth 100000 in
theorem stuffed_any (n : Nat) (hn : n ≤ 184) (w : World) : Calls Tryd.prog 45 #[.int .i64 n] w (Ret (.string (strOfNums (adL n))) w) := by
  by_cases h1 : n = 184
  · subst h1
    go_enter Tryd.func45, Tryd.ntmps45
    go_wp2_with fail
    go_ret
    exact ⟨rfl, Same.refl _ _⟩
  by_cases h2 : n = 183
  · subst h2
    go_enter Tryd.func45, Tryd.ntmps45
    go_wp2_with fail
    go_ret
    exact ⟨by rfl, Same.refl _ _⟩
  have e1 : ((n : Int) == 184) = false := by simp; omega
  have e2 : ((183 : Int) - (n : Int) == 0) = false := by simp; omega
  obtain ⟨m, hm⟩ : ∃ m : Nat, m = 182 - n := ⟨_, rfl⟩
  have ha : adL n = ((m + 1 : Nat) : Int) :: 0 :: List.replicate m 255 := by
    unfold adL
    rw [if_neg h1, if_neg h2, hm, show 183 - n = 182 - n + 1 by omega]
  have HR := Lib.hid (fun (x : Int) (hx : x = m) W => rep_any x m hx W (by omega))
  have HA := Lib.hid ha
  have hc2 := cv2
  have hmi : (183 : Int) - (n : Int) = (m : Int) + 1 := by omega
  have hw : IntKind.u8.wrap ((m : Int) + 1) = (m : Int) + 1 := IntWalk.u8_in _ (by omega)
  have hwi : IntKind.i64.wrap (m : Int) = (m : Int) := IntWalk.i64_in _ (by omega)
  have hsn : ∀ xs : List Int, (strOfNums xs).size = xs.length := strOfNums_size
  have hsa : ∀ a b : ByteArray, (a ++ b).size = a.size + b.size := fun a b => ByteArray.size_append
  have hlr : (List.replicate m (255 : Int)).length = m := List.length_replicate
  have hm9 : m ≤ 182 := by omega
  have e3 : ((m : Int) + 1 == 0) = false := by simp; omega
  have HE := Lib.hid (show strOfNums [(m : Int) + 1, 0] ++ strOfNums (List.replicate m 255) = strOfNums (adL n) by rw [ha, ← nums_append]; rfl)
  clear hm ha h1 h2
  go_enter Tryd.func45, Tryd.ntmps45
  go_upto_region 6 with fail
  go_region_with (go_at_call 35; (with_reducible refine (HR.out _ (by omega) _).mono ?_); rintro e w' ⟨rfl, hs⟩; have sc1 := sce1 hs; have hz := hs.size; (try simp only [drew_heap, World.size_alloc] at hz sc1); have HS := Lib.hid hs; clear hs)
  all_goals (go_wp2_with fail)
  all_goals (go_ret; exact ⟨by rw [HE.out]; rfl, by repeat (first | exact Same.refl _ _ | refine Same.drew ?_ | refine Same.alloc ?_ _ | refine Same.trans_nil ?_ HS.out)⟩)

end Go.Proofs.YtpnbhgmcfooppaaDoor
