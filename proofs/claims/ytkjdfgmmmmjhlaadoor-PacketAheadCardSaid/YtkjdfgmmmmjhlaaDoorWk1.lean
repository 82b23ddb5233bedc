/- The small parts of the laws of layer 14: Plain, bytes, Empty, awake. Condition: the table 'widths' lies (Empty, awake). -/
import Derived.Test.YtkjdfgmmmmjhlaaDoorEn3
import Derived.Test.YtkjdfgmmmmjhlaaDoorBr1
import Derived.Test.YtkjdfgmmmmjhlaaDoorQk2
namespace Go.Proofs.YtkjdfgmmmmjhlaaDoor
open Go.RowKit
set_option linter.unusedSimpArgs false
set_option linter.unusedVariables false

theorem plain14 (pp : Int) (st : Bool) (c : Int) (bad : Bool) (body : ByteArray) (w : World) :
    Calls Tryd.prog 11 #[.agg #[.int .i64 pp, .bool st, .int .i64 c, .bool bad, .string body]] w (Ret (.agg #[.int .i64 pp, .bool st, .int .i64 c, .bool bad, .string body]) w) := by
  go_enter Tryd.func11, Tryd.ntmps11
  have hb := heap_alloc_new (w.alloc (.cells #[.int .i64 pp, .bool st, .int .i64 c, .bool bad, .string body] 23)) (.cells #[.int .i64 pp, .bool st, .int .i64 c, .bool bad, .string body] 27)
  rw [World.size_alloc] at hb
  obtain ⟨k0, k1, k2, k3, k4⟩ := rp_cells hb
  clear hb
  go_wp2
  refine bodyPost_ret (v := .agg #[.int .i64 pp, .bool st, .int .i64 c, .bool bad, .string body]) ?_ rfl ⟨rfl, ((Same.refl [] w).alloc _).alloc _⟩
  simp [results, Tryd.results11, go_sem, k0, k1, k2, k3, k4]

/-- So many of one byte. -/
def manyS (n b : Nat) : ByteArray := strOf (List.replicate n b)
theorem size_many (n b : Nat) : (manyS n b).size = n := by unfold manyS; rw [size_strOf, List.length_replicate]

theorem strOf_nums' (l : List Nat) : strOf l = strOfNums (l.map fun (n : Nat) => (n : Int)) := by simp [strOfNums, strOf, Function.comp_def]
theorem many_snoc (k b : Nat) : u8s (List.replicate (k + 1) b) = u8s (List.replicate k b) ++ [.int .u8 (b : Nat)] := by
  rw [List.replicate_succ']; simp [u8s]

set_option maxHeartbeats 1000000 in
theorem bytes14 (n b : Nat) (w : World) (hn : n < 1099511627776) :
    Calls Tryd.prog 16 #[.int .i64 n, .int .u8 b] w (Ret (.string (manyS n b)) w) := by
  obtain ⟨i0, hi, hz0, hz1, hz2⟩ := info_parts Tryd.infoB
  go_enter Tryd.func16, Tryd.ntmps16
  go_wp2_with (at_make; refine wpList_make_full w rfl (.tmp 7) (.tmp 7) 51 rfl 0 5 i0 (.int .u8 0) 1 Tryd.underlying51 hi hz0 hz1 .i64 .i64 n n n rfl rfl rfl rfl (by rw [hz2]; omega) (by unfold maxLen; omega) (by omega) ?_; intro w1 hown hgrow; have HOWN := Lib.hid hown; have HG := Lib.hid hgrow; clear hown hgrow)
  obtain ⟨cur0, hcur0, hsz0, _, _, hcm⟩ := row_cells HOWN.out
  have S1 : Same [] w w1 := Same.of_grown HG.out
  have HC0 := Lib.hid hcur0; have HZ0 := Lib.hid hsz0; have HS1 := Lib.hid S1
  clear hcur0 hsz0 S1 HOWN HG
  obtain ⟨g, hg⟩ : ∃ g, g = w.heap.size := ⟨_, rfl⟩
  rw [← hg] at HC0 ⊢
  have HGG := Lib.hid hg
  clear hg
  go_loopw [6] (fun i wr => ∃ (k : Nat) (cur : Array Value), k ≤ n ∧ i = .int .i64 k ∧ wr.heap[g]? = some (.cells cur 5 (0, 0)) ∧ cur.size = n ∧ cur.toList.take k = u8s (List.replicate k b) ∧ Same [] w wr) (fun i _ => n - (intOf i).toNat)
  case atStart => exact ⟨0, cur0, Nat.zero_le _, rfl, HC0.out, HZ0.out, by simp [u8s], HS1.out⟩
  case round =>
    obtain ⟨k, cur, hk, rfl, hcur, hsz, htk, hsame⟩ := hrel
    have HCU := Lib.hid hcur; have HSZ := Lib.hid hsz; have HTK := Lib.hid htk; have HSA := Lib.hid hsame
    clear hcur hsz htk hsame
    by_cases hlt : k < n
    · obtain ⟨old, hold⟩ : ∃ old, cur[k]? = some old := ⟨cur[k]'(by rw [HSZ.out]; exact hlt), by rw [Array.getElem?_eq_getElem]⟩
      have c3 : wr.cell? ⟨g, k, none⟩ = some old := by rw [cell_of HCU.out]; exact hold
      have f3 : wr.frozen? ⟨g, k, none⟩ = false := free_of HCU.out k
      go_wp2_with fail
      go_roundw
      case rel =>
        refine ⟨k + 1, cur.setIfInBounds k (.int .u8 (b : Nat)), by omega, by go_num, set_same HCU.out _, by simp [HSZ.out], ?_, HSA.out.setCell (fun h => by have := HGG.out; simp at h; omega) _⟩
        have e := HTK.out
        rw [Array.toList_setIfInBounds, List.take_add_one, List.take_set_of_le (Nat.le_refl _), e]
        have : (cur.toList.set k (.int .u8 (b : Nat)))[k]? = some (.int .u8 (b : Nat)) := by
          rw [List.getElem?_set_self (by simp [HSZ.out]; exact hlt)]
        rw [this, many_snoc]; rfl
      case measure => simp [intOf]; omega
    · obtain rfl : k = n := by omega
      have hrow := row_mk (c := k) HCU.out HSZ.out (Nat.le_refl _) hcm
      rw [HTK.out] at hrow
      have hcv := own_string (P := Tryd.prog) (src := 51) (dst := 9) Tryd.underlying51 Tryd.underlying5 Tryd.underlying9 hrow
      clear hrow
      go_wp2
      go_ret
      exact ⟨rfl, HSA.out⟩

theorem many_nums (n b : Nat) : manyS n b = strOfNums (List.replicate n (b : Int)) := by unfold manyS; rw [strOf_nums']; simp
theorem awake_enc : (⟨#[71, 64, 17, 19]⟩ : ByteArray) ++ manyS 184 97 = encG 17 true 3 false (manyS 184 97) := by
  unfold encG
  rw [size_many]; rfl

set_option maxRecDepth 100000 in
set_option maxHeartbeats 4000000 in
theorem awake14_any (w : World) (ht : Tab w) : Calls Tryd.prog 9 #[] w (Ret (.bool true) w) := by
  have HT := Lib.hid ht
  clear ht
  have hz := size_many 184 97
  have he : ∀ W, Tab W → Calls Tryd.prog 12 #[.agg #[.int .i64 17, .bool true, .int .i64 3, .bool false, .string (manyS 184 97)]] W (fun e w' => Same [] W w' ∧ e = .returned (.tuple #[.string (encG 17 true 3 false (manyS 184 97)), .int .i64 0])) :=
    fun W ht => encode_ok 17 true 3 false (manyS 184 97) W (by omega) (by omega) (by omega) ht
  have b14 : ∀ W, Calls Tryd.prog 16 #[.int .i64 184, .int .u8 97] W (Ret (.string (manyS 184 97)) W) := fun W => bytes14 184 97 W (by omega)
  go_enter Tryd.func9, Tryd.ntmps9
  go_wp2_with fail
  (with_reducible refine (b14 _).mono ?_)
  rintro e w1 ⟨rfl, s1⟩
  have HT1 := Lib.hid (HT.out.same s1 (by simp))
  have S1 := Lib.hid s1
  clear s1 HT
  go_wp2_with fail
  (with_reducible refine (he _ HT1.out).mono ?_)
  rintro e w2 ⟨s2, rfl⟩
  have S2 := Lib.hid (S1.out.trans_nil s2)
  clear s2 S1 HT1
  go_wp2_with fail
  (with_reducible refine (b14 _).mono ?_)
  rintro e w3 ⟨rfl, s3⟩
  have S3 := Lib.hid (S2.out.trans_nil s3)
  clear s3 S2
  go_wp2_with fail
  go_ret
  exact ⟨by rw [awake_enc, beq_self_eq_true]; rfl, S3.out⟩

/-- What is nothing. -/
def emptyS : ByteArray := encG 8191 false 0 false (manyS 184 255)
theorem empty14 (w : World) (ht : Tab w) : Calls Tryd.prog 14 #[] w (Ret (.string emptyS) w) := by
  have HT := Lib.hid ht
  clear ht
  have hr : ∀ W, Calls Tryd.prog 27 #[.string ⟨#[255]⟩, .int .i64 184] W (Ret (.string (manyS 184 255)) W) := fun W => by
    have := rep_any 184 184 rfl W (by omega)
    rw [many_nums]; exact this
  have he : ∀ W, Tab W → Calls Tryd.prog 12 #[.agg #[.int .i64 8191, .bool false, .int .i64 0, .bool false, .string (manyS 184 255)]] W (fun e w' => Same [] W w' ∧ e = .returned (.tuple #[.string emptyS, .int .i64 0])) :=
    fun W ht => encode_ok 8191 false 0 false (manyS 184 255) W (by omega) (by omega) (by rw [size_many]; omega) ht
  go_enter Tryd.func14, Tryd.ntmps14
  go_wp2_with fail
  (with_reducible refine (hr _).mono ?_)
  rintro e w1 ⟨rfl, s1⟩
  have HT1 := Lib.hid (HT.out.same s1 (by simp))
  have S1 := Lib.hid s1
  clear s1 HT
  go_wp2_with fail
  (with_reducible refine (he _ HT1.out).mono ?_)
  rintro e w2 ⟨s2, rfl⟩
  have S2 := Lib.hid (S1.out.trans_nil s2)
  clear s2 S1 HT1
  go_wp2_with fail
  go_ret
  exact ⟨rfl, S2.out⟩

end Go.Proofs.YtkjdfgmmmmjhlaaDoor
