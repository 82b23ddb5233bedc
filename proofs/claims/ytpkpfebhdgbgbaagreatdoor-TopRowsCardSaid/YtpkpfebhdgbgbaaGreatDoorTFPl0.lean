/- The program's sum of polynomials. Condition: fewer than 2^20 polynomials of fewer than 2^38 bytes. The laws of polynomials, on strings: plain, no program in sight. What the laws of layer 02 call: few, awake, sums of two and three, the division by its law. Condition: the reach of strings. -/
import Derived.Test.YtpkpfebhdgbgbaaGreatDoorTPm1
import Derived.RegionTactic
import Derived.Deep.Cut
import Derived.BigRegion
import Derived.Test.YtpkpfebhdgbgbaaGreatDoorTFPm3
namespace Go.Proofs.YtpkpfebhdgbgbaaGreatDoor
open Go.RowKit
set_option linter.unusedSimpArgs false
set_option linter.unusedVariables false

/-- A slice of texts. -/
def TextsAt (w : World) (v : Value) (xs : List ByteArray) : Prop :=
  ∃ ad c, v = .slice ad xs.length c ∧ xs.length ≤ c ∧ c ≤ maxLen ∧ ∀ (i : Nat) (h : i < xs.length), ∃ a : Addr, ad = some a ∧ a.spot = none ∧ w.cell? ⟨a.block, a.off + i, none⟩ = some (.string xs[i])
theorem texts_nil (w : World) : TextsAt w (.slice none 0 0) [] := ⟨none, 0, rfl, Nat.le_refl _, Nat.zero_le _, fun i h => absurd h (Nat.not_lt_zero _)⟩
theorem texts_two (w : World) (a b : ByteArray) : TextsAt (w.alloc (.cells #[.string a, .string b] 9)) (.slice (some ⟨w.heap.size, 0, none⟩) 2 2) [a, b] := by
  refine ⟨_, 2, rfl, Nat.le_refl _, by decide, fun i hi => ⟨_, rfl, rfl, ?_⟩⟩
  rw [cell_of (heap_alloc_new w _)]
  have : i = 0 ∨ i = 1 := by simp at hi; omega
  rcases this with rfl | rfl <;> rfl
theorem texts_three (w : World) (a b c : ByteArray) : TextsAt (w.alloc (.cells #[.string a, .string b, .string c] 9)) (.slice (some ⟨w.heap.size, 0, none⟩) 3 3) [a, b, c] := by
  refine ⟨_, 3, rfl, Nat.le_refl _, by decide, fun i hi => ⟨_, rfl, rfl, ?_⟩⟩
  rw [cell_of (heap_alloc_new w _)]
  have : i = 0 ∨ i = 1 ∨ i = 2 := by simp at hi; omega
  rcases this with rfl | rfl | rfl <;> rfl
def accL (D : List UInt8) : List ByteArray → List UInt8 | [] => D | x :: l => accL (addL D (lb x)) l
theorem accL_snoc (D : List UInt8) (l : List ByteArray) (x : ByteArray) : accL D (l ++ [x]) = addL (accL D l) (lb x) := by
  induction l generalizing D with
  | nil => rfl
  | cons y l ih => rw [List.cons_append, accL, accL, ih]
def sumS (xs : List ByteArray) : ByteArray := bs (trimL (accL [] xs))
theorem addL_nil (D : List UInt8) : addL D [] = D := by cases D <;> rfl
theorem sumS_two (a b : ByteArray) : sumS [a, b] = addS a b := rfl
theorem sumS_three (a b c : ByteArray) : sumS [a, b, c] = addS (addS a b) c := by
  unfold sumS addS
  rw [lb_bs]
  congr 1
  refine trim_ext ?_
  show cf (addL (addL (lb a) (lb b)) (lb c)) = _
  rw [cf_addL, cf_addL, cf_addL, cf_trim, cf_addL]
theorem add_in (D P : List UInt8) (m : Nat) (h : m < P.length) (hl : m < (addL D (P.take m)).length) :
    addL D (P.take (m + 1)) = (addL D (P.take m)).set m (cf (addL D (P.take m)) m ^^^ cf P m) := by
  have h1 := hl
  rw [addL_length, List.length_take] at h1
  refine ext_cf ?_ ?_
  · rw [List.length_set, addL_length, addL_length, List.length_take, List.length_take]; omega
  · funext j
    rw [cf_set hl, cf_addL, cf_addL]
    show cf D j ^^^ cf (P.take (m + 1)) j = if j = m then (cf D m ^^^ cf (P.take m) m) ^^^ cf P m else cf D j ^^^ cf (P.take m) j
    simp only [cf_take]
    by_cases e : j = m
    · subst e; rw [if_pos (by omega), if_pos rfl, if_neg (by omega), xzero]
    · rw [if_neg e]
      by_cases e2 : j < m
      · rw [if_pos (by omega), if_pos e2]
      · rw [if_neg (by omega), if_neg e2]
theorem add_out (D P : List UInt8) (m : Nat) (h : m < P.length) (hl : m = (addL D (P.take m)).length) :
    addL D (P.take (m + 1)) = (addL D (P.take m) ++ [0]).set m (cf (addL D (P.take m) ++ [0]) m ^^^ cf P m) := by
  have h1 := hl
  rw [addL_length, List.length_take] at h1
  refine ext_cf ?_ ?_
  · rw [List.length_set, List.length_append, addL_length, addL_length, List.length_take, List.length_take, List.length_singleton]; omega
  · funext j
    have hap : ∀ i, cf (addL D (P.take m) ++ [0]) i = cf (addL D (P.take m)) i := fun i => by
      rw [cf_append]
      show _ ^^^ shn _ (cf [0]) i = _
      rw [shn_apply]
      split
      · exact xzero _
      · have : cf [0] (i - (addL D (P.take m)).length) = 0 := by
          generalize i - (addL D (P.take m)).length = q
          cases q with
          | zero => rfl
          | succ q => rw [cf_succ]; rfl
        rw [this, xzero]
    rw [cf_set (by rw [List.length_append, List.length_singleton]; omega), hap, hap, cf_addL, cf_addL]
    show cf D j ^^^ cf (P.take (m + 1)) j = if j = m then (cf D m ^^^ cf (P.take m) m) ^^^ cf P m else cf D j ^^^ cf (P.take m) j
    simp only [cf_take]
    by_cases e : j = m
    · subst e; rw [if_pos (by omega), if_pos rfl, if_neg (by omega), xzero]
    · rw [if_neg e]
      by_cases e2 : j < m
      · rw [if_pos (by omega), if_pos e2]
      · rw [if_neg (by omega), if_neg e2]
theorem reads_nought (wr : World) : Reads (wr.alloc (.cells #[.int .u8 0] 5)) 1 (.slice (some ⟨wr.heap.size, 0, none⟩) 1 1) 1 (u8l [0]) :=
  Reads.of_own (row_new wr #[.int .u8 0] 5 1 rfl (by decide))
theorem OwnB.form {B : Nat} {w : World} {v : Value} {l : List UInt8} (h : OwnB B w v l) : ∃ ad c, v = .slice ad l.length c := by
  rcases h.2 with ⟨rfl, h0⟩ | ⟨g, cap, cur, rfl, _⟩
  · exact ⟨none, 0, by rw [h0]⟩
  · exact ⟨_, _, rfl⟩
/-- No text has more than so many bytes. -/
def AllLe (M : Nat) (xs : List ByteArray) : Prop := ∀ x ∈ xs, x.size ≤ M
theorem accL_length (M : Nat) (D : List UInt8) (xs : List ByteArray) (hD : D.length ≤ M) (h : AllLe M xs) : (accL D xs).length ≤ M := by
  induction xs generalizing D with
  | nil => exact hD
  | cons x xs ih =>
    refine ih _ ?_ (fun y hy => h y (List.mem_cons_of_mem _ hy))
    rw [addL_length, lb_length]
    have := h x List.mem_cons_self
    omega

set_option maxRecDepth 100000 in
set_option maxHeartbeats 8000000 in
theorem padd_any (M : Nat) (xs : List ByteArray) (v : Value) (w : World) (hx : TextsAt w v xs) (hM : M < 274877906944) (hall : AllLe M xs) :
    Calls Tryz.prog 115 #[v] w (Ret (.string (sumS xs)) w) := by
  obtain ⟨i0, hi, hz0, hz1, hz2⟩ := info_parts Tryz.infoB
  obtain ⟨B, hB⟩ : ∃ B, B = w.heap.size := ⟨_, rfl⟩
  obtain ⟨ad, cp, rfl, hlc, hcm, hcell⟩ := hx
  have hlm : xs.length ≤ 9223372036854775807 := by unfold maxLen at hcm; omega
  have HB := Lib.hid hB; have HC := Lib.hid hcell; have HALL := Lib.hid hall
  clear hB hcell hall
  go_enter Tryz.func115, Tryz.ntmps115
  go_wp2_with fail
  go_loopw [9, 3] (fun i v wr => ∃ k : Nat, k ≤ xs.length ∧ i = .int .i64 k ∧ OwnB B wr v (accL [] (xs.take k)) ∧ Same [] w wr) (fun i _ _ => xs.length - (intOf i).toNat)
  case atStart => exact ⟨0, Nat.zero_le _, rfl, OwnB.nil _ _, Same.refl _ _⟩
  case round =>
    obtain ⟨k, hk, rfl, ho, hs⟩ := hrel
    have HO := Lib.hid ho; have HS := Lib.hid hs
    clear ho hs
    by_cases h1 : k < xs.length
    · have h1i : (k : Int) < (xs.length : Int) := by omega
      obtain ⟨a, rfl, hsp, c0⟩ := HC.out k h1
      obtain ⟨g, o, sp⟩ := a
      simp only at hsp c0
      subst hsp
      have d0 := HS.out.cell c0 (by simp)
      obtain ⟨p, hp⟩ : ∃ p, p = xs[k] := ⟨_, rfl⟩
      rw [← hp] at d0
      have hpM : p.size ≤ M := by rw [hp]; exact HALL.out _ (List.getElem_mem h1)
      obtain ⟨D, hD⟩ : ∃ D, D = accL [] (xs.take k) := ⟨_, rfl⟩
      have hDn : accL [] (xs.take (k + 1)) = addL D (lb p) := by rw [List.take_succ_eq_append_getElem h1, accL_snoc, ← hD, ← hp]
      have hDl : D.length ≤ M := by rw [hD]; exact accL_length M _ _ (Nat.zero_le _) (fun y hy => HALL.out y (List.mem_of_mem_take hy))
      rw [← hD] at HO
      have HDN := Lib.hid hDn; have HP := Lib.hid hp
      clear hD hDn c0 hp
      go_wp2_with fail
      obtain ⟨wo, rfl⟩ : ∃ wo : World, wo = wr := ⟨_, rfl⟩
      go_loopw [15, 3] (fun i v wr => ∃ m : Nat, m ≤ p.size ∧ i = .int .i64 m ∧ OwnB B wr v (addL D ((lb p).take m)) ∧ Same [] w wr) (fun i _ _ => p.size - (intOf i).toNat)
      case atStart => exact ⟨0, Nat.zero_le _, rfl, by rw [List.take_zero, addL_nil]; exact HO.out, HS.out⟩
      case round =>
        obtain ⟨m, hm, rfl, ho, hs⟩ := hrel
        by_cases h3 : m < p.size
        · have h3i : (m : Int) < (p.size : Int) := by omega
          have hb := bt_at p m h3
          have hll := addL_length D ((lb p).take m)
          rw [List.length_take, lb_length, Nat.min_eq_left hm] at hll
          obtain ⟨L, hL⟩ : ∃ L, L = addL D ((lb p).take m) := ⟨_, rfl⟩
          rw [← hL] at ho hll
          by_cases h4 : m < L.length
          · have hne : ((m : Int) == (L.length : Int)) = false := by simp; omega
            obtain ⟨g', cap, cur, hcells⟩ := ho.cells (by omega)
            have c1 := hcells.cell m h4
            have f1 := free_of hcells.heap m
            have hval := hcells.val
            subst hval
            obtain ⟨x, hx⟩ : ∃ x, x = cf L m := ⟨_, rfl⟩
            rw [← hx] at c1
            have hbase := hcells.base
            have hnew := add_in D (lb p) m (by rw [lb_length]; exact h3) (by rw [← hL]; exact h4)
            rw [← hL, ← hx] at hnew
            have h4i : (m : Int) < (L.length : Int) := by omega
            have HN := Lib.hid hnew; have HCE := Lib.hid hcells; have HS2 := Lib.hid hs
            clear hL hx hnew ho hcells hs hll
            go_wp2_with fail
            go_region
            go_wp2_with fail
            have hown := CellsB.set HCE.out m h4 (x ^^^ cf (lb p) m)
            rw [← HN.out, ← u8_xor] at hown
            have hsm : Same [] w (wr.setCell ⟨g', m, none⟩ (.int .u8 (bits .xor .u8 (x.toNat : Int) ((cf (lb p) m).toNat : Int)))).drew :=
              (HS2.out.setCell (fun h => absurd (show g' < w.heap.size from h) (by have := HB.out; omega)) _).drew
            go_roundw
            case rel => exact ⟨m + 1, by omega, by go_num, hown.drew, hsm⟩
            case measure => simp [intOf]; omega
          · have heq : L.length = m := by omega
            have hnew := add_out D (lb p) m (by rw [lb_length]; exact h3) (by rw [← hL]; exact heq.symm)
            rw [← hL] at hnew
            have hne : ((m : Int) == (L.length : Int)) = true := by simp; omega
            obtain ⟨ad, cad, rfl⟩ := ho.form
            have hd := ho.alloc (.cells #[.int .u8 0] 5)
            have hl63 : L.length + 1 ≤ maxLen := by unfold maxLen; omega
            have hlen : (L.length + 1) * 1 ≤ 140737488355328 := by omega
            have hsz := hs.size
            have hbase : B ≤ (wr.alloc (.cells #[.int .u8 0] 5)).heap.size := by have := HB.out; simp; omega
            have HN := Lib.hid hnew; have HD := Lib.hid hd; have HS2 := Lib.hid hs; have HEQ := Lib.hid heq
            clear hL hnew ho hd hs hll heq h4
            go_upto_region 10 with (at_builtin; refine wpList_append_src rfl (.tmp 22) (.tmp 23) 33 rfl B 5 i0 (.int .u8 0) 1 1 Tryz.underlying33 hi hz0 hz1 hz2 rfl (by decide) _ L.length _ rfl HD.out _ 1 _ rfl (reads_nought wr) (one_u8l _) hl63 hlen hbase ?_; intro v' w2 hown hgrow hat; have HOWN := Lib.hid hown; have HG := Lib.hid hgrow; clear hown hgrow hat)
            obtain ⟨q1, q2⟩ := OwnB.grow HD.out (by have := HB.out; omega) (HS2.out.alloc _) HOWN.out HG.out
            obtain ⟨g', cap, cur, hcells⟩ := q1.cells (by simp)
            have hmm : m < (L ++ [0]).length := by simp; have := HEQ.out; omega
            have c1 := hcells.cell m hmm
            have f1 := free_of hcells.heap m
            have hval := hcells.val
            rw [List.length_append, List.length_singleton] at hval
            subst hval
            obtain ⟨x, hx⟩ : ∃ x, x = cf (L ++ [0]) m := ⟨_, rfl⟩
            rw [← hx] at c1
            have hbase2 := hcells.base
            have hnew := HN.out
            rw [← hx] at hnew
            have HN2 := Lib.hid hnew; have HCE := Lib.hid hcells; have HQ2 := Lib.hid q2
            have h4i : (m : Int) < ((L.length : Nat) : Int) + 1 := by have := HEQ.out; omega
            clear hnew hcells q2 q1 hx HOWN HG hne
            go_region
            go_wp2_with fail
            have hown := CellsB.set HCE.out m hmm (x ^^^ cf (lb p) m)
            rw [← HN2.out, ← u8_xor] at hown
            have hsm : Same [] w (w2.setCell ⟨g', m, none⟩ (.int .u8 (bits .xor .u8 (x.toNat : Int) ((cf (lb p) m).toNat : Int)))).drew :=
              (HQ2.out.setCell (fun h => absurd (show g' < w.heap.size from h) (by have := HB.out; omega)) _).drew
            go_roundw
            case rel => exact ⟨m + 1, by omega, by go_num, hown.drew, hsm⟩
            case measure => simp [intOf]; omega
        · obtain rfl : m = p.size := by omega
          have h3i : ¬ (p.size : Int) < (p.size : Int) := by omega
          have hfin : addL D ((lb p).take p.size) = accL [] (xs.take (k + 1)) := by rw [← lb_length, List.take_length, HDN.out]
          rw [hfin] at ho
          have HO2 := Lib.hid ho; have HS2 := Lib.hid hs
          clear hfin ho hs
          go_wp2_with fail
          go_roundw
          case rel => exact ⟨k + 1, by omega, by go_num, HO2.out, HS2.out⟩
          case measure => simp [intOf]; omega
    · obtain rfl : k = xs.length := by omega
      have h1i : ¬ (xs.length : Int) < (xs.length : Int) := by omega
      rw [List.take_length] at HO
      have hsz2 : (bs (accL [] xs)).size ≤ 9223372036854775807 := by
        rw [size_bs]
        have := accL_length M [] xs (Nat.zero_le _) HALL.out
        omega
      have HTR := Lib.hid (fun W => trim_any (bs (accL [] xs)) W hsz2)
      have hcv := HO.out.str
      clear h1 hk hsz2
      go_wp2_with fail
      (with_reducible refine (HTR.out _).mono ?_)
      rintro e w' ⟨rfl, rfl⟩
      go_wp2_with fail
      go_ret
      exact ⟨rfl, HS.out⟩
end Go.Proofs.YtpkpfebhdgbgbaaGreatDoor
namespace Go.Proofs.YtpkpfebhdgbgbaaGreatDoor
open Go.RowKit
set_option linter.unusedSimpArgs false
set_option linter.unusedVariables false

theorem cf_lb_bs (l : List UInt8) : cf (lb (bs l)) = cf l := rfl
theorem cf_addS (a b : ByteArray) : cf (lb (addS a b)) = pad (cf (lb a)) (cf (lb b)) := by unfold addS; rw [lb_bs, cf_trim, cf_addL]
theorem cf_mulS (a b : ByteArray) : cf (lb (mulS a b)) = mulL (lb a) (cf (lb b)) := by unfold mulS; rw [lb_bs, cf_trim, cf_prodL]
theorem cf_trimS (a : ByteArray) : cf (lb (trimS a)) = cf (lb a) := by unfold trimS; rw [lb_bs, cf_trim]
theorem cf_slopeS (a : ByteArray) : cf (lb (slopeS a)) = der (cf (lb a)) := by unfold slopeS; rw [lb_bs, cf_trim, cf_slope]
theorem addS_of {a b s : ByteArray} (h : pad (cf (lb a)) (cf (lb b)) = cf (lb s)) : addS a b = trimS s := by
  unfold addS trimS; rw [trim_ext (b := lb s) (by rw [cf_addL, h])]
theorem mulS_of {a b s : ByteArray} (h : mulL (lb a) (cf (lb b)) = cf (lb s)) : mulS a b = trimS s := by
  unfold mulS trimS; rw [trim_ext (b := lb s) (by rw [cf_prodL, h])]
theorem slopeS_of {a s : ByteArray} (h : der (cf (lb a)) = cf (lb s)) : slopeS a = trimS s := by
  unfold slopeS trimS; rw [trim_ext (b := lb s) (by rw [cf_slope, h])]
theorem trimS_addS (a b : ByteArray) : trimS (addS a b) = addS a b := by unfold trimS addS; rw [lb_bs, trim_trim]
theorem trimS_mulS (a b : ByteArray) : trimS (mulS a b) = mulS a b := by unfold trimS mulS; rw [lb_bs, trim_trim]
theorem trimS_nil {a : ByteArray} (h : cf (lb a) = pz) : trimS a = ⟨#[]⟩ := by unfold trimS; rw [trim_eq_nil h]; rfl
theorem cf_empty : cf (lb ⟨#[]⟩) = pz := cf_nil
theorem trimS_empty : trimS ⟨#[]⟩ = ⟨#[]⟩ := rfl

theorem addS_comm (a b : ByteArray) : addS a b = addS b a := by
  rw [addS_of (s := addS b a) (by rw [cf_addS, pad_comm]), trimS_addS]
theorem addS_assoc (a b c : ByteArray) : addS a (addS b c) = addS (addS a b) c := by
  rw [addS_of (s := addS (addS a b) c) (by rw [cf_addS, cf_addS, cf_addS, pad_assoc]), trimS_addS]
theorem addS_self (a : ByteArray) : addS a a = ⟨#[]⟩ := by
  rw [addS_of (s := ⟨#[]⟩) (by rw [pad_self, cf_empty])]; rfl
theorem mulS_comm (a b : ByteArray) : mulS a b = mulS b a := by
  rw [mulS_of (s := mulS b a) (by rw [cf_mulS, mulL_comm]), trimS_mulS]
theorem mulS_assoc (a b c : ByteArray) : mulS (mulS a b) c = mulS a (mulS b c) := by
  rw [mulS_of (s := mulS a (mulS b c)) (by rw [cf_mulS, cf_mulS, mulL_comm, cf_mulS, mulL_swap, mulL_comm (lb c)]), trimS_mulS]
theorem mulS_one (a : ByteArray) : mulS a ⟨#[1]⟩ = trimS a := mulS_of (by show mulL (lb a) p1 = _; rw [mulL_one])
theorem mulS_addS (a b c : ByteArray) : mulS a (addS b c) = addS (mulS a b) (mulS a c) := by
  rw [mulS_of (s := addS (mulS a b) (mulS a c)) (by rw [cf_addS, cf_addS, cf_mulS, cf_mulS, mulL_pad]), trimS_addS]
theorem dl_mulS {a b : ByteArray} (ha : dl (lb a) ≠ 0) (hb : dl (lb b) ≠ 0) : dl (lb (mulS a b)) = dl (lb a) + dl (lb b) - 1 := dl_mul (cf_mulS a b) ha hb
theorem dl_mulS_zero {a b : ByteArray} (h : dl (lb a) = 0 ∨ dl (lb b) = 0) : dl (lb (mulS a b)) = 0 := dl_mul_zero (cf_mulS a b) h
theorem degS_mul {a b : ByteArray} (ha : dl (lb a) ≠ 0) (hb : dl (lb b) ≠ 0) : degS (mulS a b) = degS a + degS b := by unfold degS; rw [dl_mulS ha hb]; omega
theorem degS_mul_zero {a b : ByteArray} (h : dl (lb a) = 0 ∨ dl (lb b) = 0) : degS (mulS a b) = -1 := by unfold degS; rw [dl_mulS_zero h]; rfl
theorem degS_zero {a : ByteArray} (h : dl (lb a) = 0) : degS a = -1 := by unfold degS; rw [h]; rfl
theorem degS_add (a b : ByteArray) : degS (addS a b) ≤ max (degS a) (degS b) := by
  have := dl_add (cf_addS a b)
  unfold degS; omega
theorem slopeS_add (a b : ByteArray) : slopeS (addS a b) = addS (slopeS a) (slopeS b) := by
  rw [slopeS_of (s := addS (slopeS a) (slopeS b)) (by rw [cf_addS, cf_addS, der_pad, cf_slopeS, cf_slopeS]), trimS_addS]
theorem slopeS_mul (a b : ByteArray) : slopeS (mulS a b) = addS (mulS (slopeS a) b) (mulS a (slopeS b)) := by
  rw [slopeS_of (s := addS (mulS (slopeS a) b) (mulS a (slopeS b))) (by
    rw [cf_addS, cf_mulS, cf_mulS, cf_mulS, der_mul, cf_slopeS]
    congr 1
    exact mulL_cf (by rw [cf_slope, cf_slopeS]) _), trimS_addS]
theorem slopeS_slope (a : ByteArray) : slopeS (slopeS a) = ⟨#[]⟩ := by
  rw [slopeS_of (s := ⟨#[]⟩) (by rw [cf_slopeS, der_der, cf_empty])]; rfl
theorem mulS_x_zero {a : ByteArray} (h : dl (lb a) = 0) : mulS a ⟨#[0, 1]⟩ = ⟨#[]⟩ := by
  rw [mulS_of (s := ⟨#[]⟩) (by rw [mulL_comm, dl_zero.1 h, mulL_pz, cf_empty])]; rfl
theorem mulL_x (g : Nat → UInt8) : mulL [0, 1] g = sh g := by
  show pad (scl 0 g) (sh (pad (scl 1 g) (sh pz))) = sh g
  rw [scl_zero, pz_pad, scl_one, sh_pz, pad_pz]
theorem lb_zero_app (s : ByteArray) : lb (⟨#[0]⟩ ++ s) = 0 :: lb s := by rw [lb_append]; rfl
theorem mulS_x {a : ByteArray} (h : dl (lb a) ≠ 0) : mulS a ⟨#[0, 1]⟩ = ⟨#[0]⟩ ++ trimS a := by
  have hc : cf (0 :: trimL (lb a)) = sh (cf (lb a)) := by
    rw [cf_cons, cf_trim]
    have : (fun n : Nat => if n = 0 then (0 : UInt8) else 0) = pz := by funext n; simp [pz]
    rw [this, pz_pad]
  have hl : lb (⟨#[0]⟩ ++ trimS a) = 0 :: trimL (lb a) := by rw [lb_zero_app]; rfl
  have h1 : mulS a ⟨#[0, 1]⟩ = trimS (⟨#[0]⟩ ++ trimS a) := mulS_of (by
    rw [hl, hc, mulL_comm]
    exact mulL_x _)
  rw [h1, ← lb_inj]
  unfold trimS
  rw [lb_bs]
  change trimL (lb (⟨#[0]⟩ ++ trimS a)) = lb (⟨#[0]⟩ ++ trimS a)
  rw [hl]
  refine trim_id (.inr ?_)
  have hd : (trimL (lb a)).length = dl (lb a) := rfl
  rw [List.length_cons, Nat.add_sub_cancel, hc, hd]
  obtain ⟨n, hn⟩ : ∃ n, dl (lb a) = n + 1 := ⟨dl (lb a) - 1, by omega⟩
  rw [hn]
  show cf (lb a) n ≠ 0
  have := dl_last h
  rwa [hn] at this
theorem ev_mulS (a b : ByteArray) (x : UInt8) : ev (lb (mulS a b)) x = gm (ev (lb a) x) (ev (lb b) x) := ev_mul x (cf_mulS a b)
theorem ev_addS (a b : ByteArray) (x : UInt8) : ev (lb (addS a b)) x = ev (lb a) x ^^^ ev (lb b) x := ev_add x (cf_addS a b)
theorem ev_rootsS (l : ByteArray) (x : UInt8) : ev (lb (rootsS l)) x = 0 ↔ x ∈ lb l := by
  unfold rootsS; rw [lb_bs, ev_rt, ev_single, one_gm, prx_zero]
theorem degS_roots (l : ByteArray) : degS (rootsS l) = (l.size : Int) := by
  have h1 : dl [1] = 1 := dl_eq (n := 0) (by decide) (fun m hm => cf_ge (by simp; omega))
  unfold degS rootsS
  rw [lb_bs, dl_rt [1] (lb l) one_dl, lb_length, h1]
  omega
theorem rootsS_size (l : ByteArray) : (rootsS l).size = l.size + 1 := by rw [← rtK_all, rtK_size l _ (Nat.le_refl _)]

end Go.Proofs.YtpkpfebhdgbgbaaGreatDoor
namespace Go.Proofs.YtpkpfebhdgbgbaaGreatDoor
open Go.RowKit
set_option linter.unusedSimpArgs false
set_option linter.unusedVariables false

theorem padd2 (M : Nat) (a b : ByteArray) (W : World) (hM : M < 274877906944) (ha : a.size ≤ M) (hb : b.size ≤ M) :
    Calls Tryz.prog 115 #[.slice (some ⟨W.heap.size, 0, none⟩) 2 2] (W.alloc (.cells #[.string a, .string b] 9)) (Ret (.string (addS a b)) (W.alloc (.cells #[.string a, .string b] 9))) :=
  padd_any M [a, b] _ _ (texts_two W a b) hM (by intro x hx; simp at hx; rcases hx with rfl | rfl <;> assumption)
theorem padd3 (M : Nat) (a b c : ByteArray) (W : World) (hM : M < 274877906944) (ha : a.size ≤ M) (hb : b.size ≤ M) (hc : c.size ≤ M) :
    Calls Tryz.prog 115 #[.slice (some ⟨W.heap.size, 0, none⟩) 3 3] (W.alloc (.cells #[.string a, .string b, .string c] 9)) (Ret (.string (addS (addS a b) c)) (W.alloc (.cells #[.string a, .string b, .string c] 9))) := by
  have := padd_any M [a, b, c] _ _ (texts_three W a b c) hM (by intro x hx; simp at hx; rcases hx with rfl | rfl | rfl <;> assumption)
  rwa [sumS_three] at this
theorem padd0 (W : World) : Calls Tryz.prog 115 #[.slice none 0 0] W (Ret (.string ⟨#[]⟩) W) :=
  padd_any 0 [] _ _ (texts_nil W) (by decide) (by intro x hx; simp at hx)
theorem degree_t (s : ByteArray) (w : World) (hs : s.size ≤ 9223372036854775807) :
    Calls Tryz.prog 87 #[.string s] w fun e w' => e = .returned (.int .i64 (((trimS s).size : Int) - 1)) ∧ w = w' := by
  have := degree_any s w hs
  unfold degS at this
  rwa [← trimS_len] at this

end Go.Proofs.YtpkpfebhdgbgbaaGreatDoor
