/- The program's generator; whether a text is a word by the reference; bytes 0; texts of a given length. Condition: the reach of strings. -/
import Derived.Test.YtdkjcocpkgojaaaDoorHFRs3
namespace Go.Proofs.YtdkjcocpkgojaaaDoor
open Go.RowKit
set_option linter.unusedSimpArgs false
set_option linter.unusedVariables false

set_option maxRecDepth 100000 in
set_option maxHeartbeats 4000000 in
theorem gen_any (w : World) : Calls Tryd.prog 41 #[] w (Ret (.string genS) w) := by
  obtain ⟨i0, hi, hz0, hz1, hz2⟩ := info_parts Tryd.infoB
  obtain ⟨B, hB⟩ : ∃ B, B = w.heap.size := ⟨_, rfl⟩
  have HB := Lib.hid hB
  clear hB
  go_enter Tryd.func41, Tryd.ntmps41
  go_wp2_with fail
  (with_reducible refine (new_any _).mono ?_)
  rintro e w1 ⟨rfl, f1, s1⟩
  rw [← HB.out] at f1 ⊢
  have F1 := Lib.hid f1; have S1 := Lib.hid s1
  clear f1 s1
  go_wp2_with fail
  go_loopw [5, 2] (fun i v wr => ∃ k : Nat, k ≤ 64 ∧ i = .int .i64 k ∧ OwnB (B + 1) wr v (ofF k ex) ∧ B + 1 ≤ wr.heap.size ∧ FieldAt wr B ∧ Same [] w wr) (fun i _ _ => 64 - (intOf i).toNat)
  case atStart => exact ⟨0, Nat.zero_le _, rfl, OwnB.nil _ _, by have := F1.out.lt; omega, F1.out, S1.out⟩
  case round =>
    obtain ⟨k, hk, rfl, ho, hgz, hf, hsm⟩ := hrel
    have hsz := hsm.size
    by_cases h1 : k < 64
    · have h1i : (k : Int) < 64 := by omega
      obtain ⟨x, hx⟩ : ∃ x, x = ex k := ⟨_, rfl⟩
      have HE := Lib.hid (fexp_any B k wr hf (by omega))
      rw [← hx] at HE
      have hl := ofF_length k ex
      have hl63 : (ofF k ex).length + 1 ≤ maxLen := by rw [hl]; unfold maxLen; omega
      have hlen : ((ofF k ex).length + 1) * 1 ≤ 140737488355328 := by rw [hl]; omega
      have hd := ho.alloc (.cells #[.int .u8 (x.toNat : Int)] 5)
      have hbase : B + 1 ≤ (wr.alloc (.cells #[.int .u8 (x.toNat : Int)] 5)).heap.size := by simp; omega
      have HO := Lib.hid ho; have HS := Lib.hid hsm; have HX := Lib.hid hx; have HD := Lib.hid hd; have HF := Lib.hid hf
      clear ho hsm hl hx hd hf
      go_wp2_with fail
      (with_reducible refine HE.out.mono ?_)
      rintro e w' ⟨rfl, rfl⟩
      go_wp2_with (at_builtin; refine wpList_append_src rfl (.tmp 8) (.tmp 12) 38 rfl (B + 1) 5 i0 (.int .u8 0) 1 1 Tryd.underlying38 hi hz0 hz1 hz2 rfl (by decide) _ (ofF k ex).length _ rfl HD.out _ 1 _ rfl (reads_one wr _) (one_u8l _) hl63 hlen hbase ?_; intro v' w3 hown hgrow hat; have HOWN := Lib.hid hown; have HG := Lib.hid hgrow; clear hown hgrow hat)
      obtain ⟨q1, q2⟩ := OwnB.grow HD.out (by have := HB.out; omega) (HS.out.alloc _) HOWN.out HG.out
      have hsg := Same.of_grown HG.out
      have hz3 := hsg.size
      have hb3 : B ∉ u2.ownBlock.toList := fun hm => by have := (HO.out.lt B (by simpa using hm)).1; omega
      have hf3 := (HF.out.same ((Same.refl [] wr).alloc (.cells #[.int .u8 (x.toNat : Int)] 5)) (by simp)).same hsg hb3
      go_roundw
      case rel => exact ⟨k + 1, by omega, by go_num, by rw [ofF_succ, ← HX.out]; exact q1, by simp at hz3; omega, hf3, q2⟩
      case measure => simp [intOf]; omega
    · obtain rfl : k = 64 := by omega
      have h1i : ¬ ((64 : Nat) : Int) < 64 := by omega
      have hcv := ho.str
      have hr : bs (ofF 64 ex) = bs roots64 := rfl
      rw [hr] at hcv
      have HR := Lib.hid (fun W => by have h9 := proots_any (bs roots64) W (by rw [size_bs]; unfold roots64; rw [ofF_length]; decide); rw [genS_roots] at h9; exact h9)
      have HS := Lib.hid hsm
      clear ho hsm h1 hf hr
      go_wp2_with fail
      (with_reducible refine (HR.out _).mono ?_)
      rintro e w2 ⟨rfl, s2⟩
      have HS2 := Lib.hid (HS.out.trans_nil s2)
      clear s2
      go_wp2_with fail
      go_ret
      exact ⟨rfl, HS2.out⟩

/-! ## Bytes 0 -/
theorem zeros_conv {W : World} {g n c : Nat} (h : W.ownsRow 0 5 1 (.slice (some ⟨g, 0, none⟩) n c) n (madeCells (Value.int .u8 0).cells (n * 1)).toList) :
    (convert 38 9 (.slice (some ⟨g, 0, none⟩) n c)).run Tryd.prog W = .ok (.string (zerosS n)) W := OwnB.str (own_zeros h)
def fullL (l : List UInt8) (n : Nat) : List UInt8 := if n < l.length then l.take n else l ++ List.replicate (n - l.length) 0
def fullS (s : ByteArray) (n : Nat) : ByteArray := bs (fullL (lb s) n)
theorem fullS_size (s : ByteArray) (n : Nat) : (fullS s n).size = n := by
  unfold fullS fullL; rw [size_bs]
  split
  · rw [List.length_take]; omega
  · rw [List.length_append, List.length_replicate]; omega
theorem str_beq (a b : ByteArray) : (a.toList == b.toList) = decide (a = b) := by
  rw [ByteArray.toList_eq, ByteArray.toList_eq, Bool.eq_iff_iff, beq_iff_eq, decide_eq_true_eq]
  exact lb_inj
def Z64 : Array Value := Array.replicate 64 (.int .u8 0)
theorem z64_list : Z64.toList = u8l (List.replicate 64 0) := by unfold Z64 u8l; rw [Array.toList_replicate, List.map_replicate]; rfl
theorem conv64 {W w2 : World} (hs : Same [] (W.alloc (.cells Z64 5)) w2) : (convert 38 9 (.slice (some ⟨W.heap.size, 0, none⟩) 64 64)).run Tryd.prog w2 = .ok (.string (zerosS 64)) w2 := by
  have h : (W.alloc (.cells Z64 5)).ownsRow 0 5 1 (.slice (some ⟨W.heap.size, 0, none⟩) 64 64) 64 Z64.toList := row_new W Z64 5 64 (by simp [Z64]) (by decide)
  rw [z64_list] at h
  exact OwnB.str (B := 0) (l := List.replicate 64 0) (by unfold OwnB; rw [List.length_replicate]; exact own_same h hs (fun _ _ => by simp))
end Go.Proofs.YtdkjcocpkgojaaaDoor
