/- The program's product of polynomials. Condition: fewer than 2^38 bytes. The program's sum of polynomials. Condition: fewer than 2^20 polynomials of fewer than 2^38 bytes. -/
import Derived.Test.YtpkpfebhdgbgbaaGreatDoorTBr2
import Derived.Test.YtpkpfebhdgbgbaaGreatDoorRs1
import Derived.Deep.RegionLaw
import Derived.Laws.OwnMore
import Derived.RegionTactic
import Derived.Deep.Cut
import Derived.BigRegion
namespace Go.Proofs.YtpkpfebhdgbgbaaGreatDoor
open Go.RowKit
set_option linter.unusedSimpArgs false
set_option linter.unusedVariables false

theorem cf_take (l : List UInt8) (k j : Nat) : cf (l.take k) j = if j < k then cf l j else 0 := by
  by_cases h : j < k
  · rw [if_pos h]
    by_cases h2 : j < l.length
    · rw [cf_lt (by simp; omega), cf_lt h2]; simp
    · rw [cf_ge (by simp; omega), cf_ge (by omega)]
  · rw [if_neg h, cf_ge (by simp; omega)]
theorem take_snoc (l : List UInt8) (i : Nat) (h : i < l.length) : l.take (i + 1) = l.take i ++ [cf l i] := by
  rw [List.take_succ_eq_append_getElem h, cf_lt h]
/-- So much of the product: i bytes of the first one, and k bytes of the second one by the next. -/
def mulK (a b : List UInt8) (i k : Nat) : Nat → UInt8 := pad (mulL (a.take i) (cf b)) (shn i (scl (cf a i) (cf (b.take k))))
theorem mulK_zero (a b : List UInt8) (i : Nat) : mulK a b i 0 = mulL (a.take i) (cf b) := by
  funext j
  show _ ^^^ shn i _ j = _
  rw [shn_apply]
  split
  · exact xzero _
  · show _ ^^^ gm _ (cf (b.take 0) _) = _
    rw [cf_take, if_neg (by omega), gm_zero]; exact xzero _
theorem mulK_all (a b : List UInt8) (i : Nat) (h : i < a.length) : mulK a b i b.length = mulL (a.take (i + 1)) (cf b) := by
  unfold mulK
  rw [take_snoc a i h, mulL_append, mulL_single, List.take_length, List.length_take, Nat.min_eq_left (by omega)]
theorem mulK_succ (a b : List UInt8) (i k j : Nat) : mulK a b i (k + 1) j = if j = i + k then mulK a b i k j ^^^ gm (cf a i) (cf b k) else mulK a b i k j := by
  unfold mulK
  show mulL (a.take i) (cf b) j ^^^ shn i (scl (cf a i) (cf (b.take (k + 1)))) j = if j = i + k then (mulL (a.take i) (cf b) j ^^^ shn i (scl (cf a i) (cf (b.take k))) j) ^^^ gm (cf a i) (cf b k) else mulL (a.take i) (cf b) j ^^^ shn i (scl (cf a i) (cf (b.take k))) j
  simp only [shn_apply, scl, cf_take]
  by_cases h1 : j < i
  · rw [if_pos h1, if_pos h1, if_neg (by omega)]
  · rw [if_neg h1, if_neg h1]
    by_cases h2 : j = i + k
    · subst h2
      rw [if_pos rfl, Nat.add_sub_cancel_left, if_pos (by omega), if_neg (by omega), gm_zero, xzero]
    · rw [if_neg h2]
      by_cases h3 : j - i < k
      · rw [if_pos h3, if_pos (by omega)]
      · rw [if_neg h3, if_neg (by omega)]
theorem mul_fin (a b : List UInt8) : mulL (a.take a.length) (cf b) = mulL a (cf b) := by rw [List.take_length]

theorem own_zeros {B : Nat} {w : World} {v : Value} {n : Nat} (h : w.ownsRow B 5 1 v n (madeCells (Value.int .u8 0).cells (n * 1)).toList) : OwnB B w v (List.replicate n 0) := by
  unfold OwnB
  have e : (madeCells (Value.int .u8 0).cells (n * 1)).toList = u8l (List.replicate n 0) := by
    rw [Nat.mul_one]
    show (madeCells #[Value.int .u8 0] n).toList = _
    rw [toList_madeCells_one, u8l, List.map_replicate]; rfl
  rw [e] at h
  rwa [List.length_replicate]
theorem cf_zeros (n : Nat) : cf (List.replicate n 0) = pz := by
  funext j
  by_cases h : j < n
  · rw [cf_lt (by simpa using h)]; simp [pz]
  · rw [cf_ge (by simpa using Nat.le_of_not_lt h)]; rfl
set_option maxRecDepth 100000 in
set_option maxHeartbeats 4000000 in
theorem pmul_any (a b : ByteArray) (w : World) (ha : a.size < 274877906944) (hb : b.size < 274877906944) :
    Calls Tryz.prog 114 #[.string a, .string b] w (Ret (.string (mulS a b)) w) := by
  obtain ⟨i0, hi, hz0, hz1, hz2⟩ := info_parts Tryz.infoB
  obtain ⟨B, hB⟩ : ∃ B, B = w.heap.size := ⟨_, rfl⟩
  have HB := Lib.hid hB
  clear hB
  go_enter Tryz.func114, Tryz.ntmps114
  go_wp2_with fail
  (with_reducible refine (new_any _).mono ?_)
  rintro e w1 ⟨rfl, f1, s1⟩
  rw [← HB.out] at f1 ⊢
  have hsz1 := s1.size
  have hlt1 := f1.lt
  obtain ⟨n, hn⟩ : ∃ n, n = a.size + b.size := ⟨_, rfl⟩
  have hn1 : (a.size : Int) + (b.size : Int) = (n : Int) := by omega
  have hn2 : n < 549755813888 := by omega
  have hbase : B ≤ w1.heap.size := by omega
  have hl1 : i0.bytes * n ≤ 281474976710656 := by rw [hz2]; omega
  have hl2 : n ≤ maxLen := by unfold maxLen; omega
  have HF := Lib.hid f1; have HS := Lib.hid s1; have HN := Lib.hid hn
  clear f1 s1 hn
  go_wp2_with (at_make; refine wpList_make_full w1 rfl (.tmp 14) (.tmp 14) 33 rfl B 5 i0 (.int .u8 0) 1 Tryz.underlying33 hi hz0 hz1 .i64 .i64 n n n rfl rfl rfl rfl hl1 hl2 hbase ?_; intro w2 hown hgrow; have HOWN := Lib.hid hown; have HG := Lib.hid hgrow; clear hown hgrow)
  obtain ⟨G, hG⟩ : ∃ G, G = w1.heap.size := ⟨_, rfl⟩
  rw [← hG] at HOWN ⊢
  have s2 : Same [] w w2 := HS.out.trans_nil (Same.of_grown HG.out)
  have f2 : FieldAt w2 B := HF.out.same (Same.of_grown HG.out) (by simp)
  have HO := Lib.hid (own_zeros HOWN.out); have HS2 := Lib.hid s2; have HF2 := Lib.hid f2
  have hBG : B < G := by omega
  obtain ⟨f, hf⟩ : ∃ f, f = cf (lb b) := ⟨_, rfl⟩
  have HFF := Lib.hid hf
  clear s2 f2 HF HS HOWN HG hG hlt1 hsz1 hbase hi hz0 hz1 hz2 hl1 hf
  go_loopw [18] (fun i wr => ∃ (k : Nat) (L : List UInt8), k ≤ a.size ∧ i = .int .i64 k ∧ L.length = n ∧ cf L = mulL ((lb a).take k) f ∧ OwnB B wr (.slice (some ⟨G, 0, none⟩) n n) L ∧ FieldAt wr B ∧ Same [] w wr) (fun i _ => a.size - (intOf i).toNat)
  case atStart => exact ⟨0, List.replicate n 0, Nat.zero_le _, rfl, by simp, cf_zeros n, HO.out, HF2.out, HS2.out⟩
  case round =>
    obtain ⟨k, L, hk, rfl, hL, hc, ho, hf, hs⟩ := hrel
    have HL := Lib.hid hL; have HC := Lib.hid hc; have HOO := Lib.hid ho; have HFI := Lib.hid hf; have HSS := Lib.hid hs
    clear hL hc ho hf hs
    by_cases h1 : k < a.size
    · have h1i : (k : Int) < (a.size : Int) := by omega
      have hba := bt_at a k h1
      go_wp2_with fail
      obtain ⟨wo, rfl⟩ : ∃ wo : World, wo = wr := ⟨_, rfl⟩
      go_loopw [23] (fun i wr => ∃ (m : Nat) (L : List UInt8), m ≤ b.size ∧ i = .int .i64 m ∧ L.length = n ∧ cf L = mulK (lb a) (lb b) k m ∧ OwnB B wr (.slice (some ⟨G, 0, none⟩) n n) L ∧ FieldAt wr B ∧ Same [] w wr) (fun i _ => b.size - (intOf i).toNat)
      case atStart => exact ⟨0, L, Nat.zero_le _, rfl, HL.out, by rw [HC.out, mulK_zero, HFF.out], HOO.out, HFI.out, HSS.out⟩
      case round =>
        obtain ⟨m, L2, hm, rfl, hL2, hc2, ho2, hf2, hs2⟩ := hrel
        by_cases h3 : m < b.size
        · have h3i : (m : Int) < (b.size : Int) := by omega
          have hbb := bt_at b m h3
          have hkm : k + m < n := by have := HN.out; omega
          obtain ⟨g', cap, cur, hcells⟩ := ho2.cells (by omega)
          have hgG : g' = G := by have := hcells.val; simp at this; exact this.1.symm
          subst hgG
          have c0 := hcells.cell (k + m) (by omega)
          have f0 := free_of hcells.heap (k + m)
          obtain ⟨x, hx⟩ : ∃ x, x = cf L2 (k + m) := ⟨_, rfl⟩
          rw [← hx] at c0
          obtain ⟨z, hz⟩ : ∃ z, z = gm (cf (lb a) k) (cf (lb b) m) := ⟨_, rfl⟩
          have HM := Lib.hid (fmul_any B (cf (lb a) k) (cf (lb b) m) wr.drew hf2.drew)
          rw [← hz] at HM
          have HZ := Lib.hid hz
          have HX := Lib.hid hx; have HL2 := Lib.hid hL2; have HC2 := Lib.hid hc2; have HF2 := Lib.hid hf2; have HS2 := Lib.hid hs2; have HCE := Lib.hid hcells
          have hw : IntKind.i64.wrap ((k : Int) + (m : Int)) = (k : Int) + (m : Int) := IntWalk.i64_in _ (by omega)
          have hn0 : (0 : Int) ≤ (k : Int) + (m : Int) := by omega
          have hn1 : (k : Int) + (m : Int) < (n : Int) := by omega
          have hnn : ((k : Int) + (m : Int)).toNat = k + m := by omega
          clear hx hL2 hc2 hf2 hs2 ho2 hcells hz
          go_wp2_with fail
          go_region_law (first | (go_simp; go_at_call 108; (with_reducible refine HM.out.mono ?_); rintro e w' ⟨rfl, nd, rfl⟩))
          all_goals
            go_wp2_with fail
            have hown := CellsB.set (HCE.out.drewN (1 + nd)) (k + m) (by rw [HL2.out]; exact hkm) (x ^^^ z)
            rw [← u8_xor] at hown
            have hsm : Same [] w ((wr.drewN (1 + nd)).setCell ⟨g', k + m, none⟩ (.int .u8 (bits .xor .u8 (x.toNat : Int) (z.toNat : Int)))) :=
              (HS2.out.drewN _).setCell (fun h => absurd (show g' < w.heap.size from h) (by have := HCE.out.base; have := HB.out; omega)) _
            have hfd : FieldAt ((wr.drewN (1 + nd)).setCell ⟨g', k + m, none⟩ (.int .u8 (bits .xor .u8 (x.toNat : Int) (z.toNat : Int)))) B :=
              (HF2.out.drewN (1 + nd)).same (S := [g']) ((Same.refl _ _).setCell (fun _ => by simp) _) (by simp; omega)
            go_roundw
            case rel =>
              refine ⟨m + 1, L2.set (k + m) (x ^^^ z), by omega, by go_num, by rw [List.length_set]; exact HL2.out, ?_, hown, hfd, hsm⟩
              funext j
              rw [cf_set (by rw [HL2.out]; exact hkm), mulK_succ, HX.out, HZ.out, HC2.out]
              split
              · rename_i e; rw [e]
              · rfl
            case measure => simp [intOf]; omega
        · obtain rfl : m = b.size := by omega
          have h3i : ¬ (b.size : Int) < (b.size : Int) := by omega
          have HL2 := Lib.hid hL2; have HC2 := Lib.hid hc2; have HF2 := Lib.hid hf2; have HS2 := Lib.hid hs2; have HO2 := Lib.hid ho2
          clear hL2 hc2 hf2 hs2 ho2
          go_wp2_with fail
          go_roundw
          case rel => exact ⟨k + 1, L2, by omega, by go_num, HL2.out, by rw [HC2.out, ← lb_length b, mulK_all _ _ _ (by rw [lb_length]; exact h1), HFF.out], HO2.out, HF2.out, HS2.out⟩
          case measure => simp [intOf]; omega
    · obtain rfl : k = a.size := by omega
      have h1i : ¬ (a.size : Int) < (a.size : Int) := by omega
      have hsz2 : (bs L).size ≤ 9223372036854775807 := by rw [size_bs, HL.out]; omega
      have ht : trimS (bs L) = mulS a b := by
        unfold trimS mulS
        rw [lb_bs, trim_ext (b := prodL (lb a) (lb b))]
        rw [cf_prodL, HC.out, ← lb_length a, List.take_length, HFF.out]
      have HT := Lib.hid ht
      have HTR := Lib.hid (fun W => trim_any (bs L) W hsz2)
      have hcv := HOO.out.str
      clear ht h1 hk hsz2
      go_wp2_with fail
      (with_reducible refine (HTR.out _).mono ?_)
      rintro e w' ⟨rfl, rfl⟩
      go_wp2_with fail
      go_ret
      exact ⟨by rw [← HT.out]; rfl, HSS.out⟩
end Go.Proofs.YtpkpfebhdgbgbaaGreatDoor
namespace Go.Proofs.YtpkpfebhdgbgbaaGreatDoor
open Go.RowKit
set_option linter.unusedSimpArgs false
set_option linter.unusedVariables false

/-- A slice of texts. -/
def TextsAt (w : World) (v : Value) (xs : List ByteArray) : Prop :=
  ∃ ad c, v = .slice ad xs.length c ∧ xs.length ≤ c ∧ c ≤ maxLen ∧ ∀ (i : Nat) (h : i < xs.length), ∃ a : Addr, ad = some a ∧ a.spot = none ∧ w.cell? ⟨a.block, a.off + i, none⟩ = some (.string xs[i])
theorem texts_nil (w : World) : TextsAt w (.slice none 0 0) [] := ⟨none, 0, rfl, Nat.le_refl _, Nat.zero_le _, fun i h => absurd h (Nat.not_lt_zero _)⟩
theorem texts_two (w : World) (a b : ByteArray) : TextsAt (w.alloc (.cells #[.string a, .string b] 9)) (.slice (some ⟨w.heap.size, 0, none⟩) 2 2) [a, b] := by
  refine ⟨_, 2, rfl, Nat.le_refl _, by decide, fun i hi => ⟨_, rfl, rfl, ?_⟩⟩
  rw [cell_of (heap_alloc_new w _)]
  have : i = 0 ∨ i = 1 := by simp at hi; omega
  rcases this with rfl | rfl <;> rfl
theorem texts_three (w : World) (a b c : ByteArray) : TextsAt (w.alloc (.cells #[.string a, .string b, .string c] 9)) (.slice (some ⟨w.heap.size, 0, none⟩) 3 3) [a, b, c] := by
  refine ⟨_, 3, rfl, Nat.le_refl _, by decide, fun i hi => ⟨_, rfl, rfl, ?_⟩⟩
  rw [cell_of (heap_alloc_new w _)]
  have : i = 0 ∨ i = 1 ∨ i = 2 := by simp at hi; omega
  rcases this with rfl | rfl | rfl <;> rfl
def accL (D : List UInt8) : List ByteArray → List UInt8 | [] => D | x :: l => accL (addL D (lb x)) l
theorem accL_snoc (D : List UInt8) (l : List ByteArray) (x : ByteArray) : accL D (l ++ [x]) = addL (accL D l) (lb x) := by
  induction l generalizing D with
  | nil => rfl
  | cons y l ih => rw [List.cons_append, accL, accL, ih]
def sumS (xs : List ByteArray) : ByteArray := bs (trimL (accL [] xs))
theorem addL_nil (D : List UInt8) : addL D [] = D := by cases D <;> rfl
theorem sumS_two (a b : ByteArray) : sumS [a, b] = addS a b := rfl
theorem sumS_three (a b c : ByteArray) : sumS [a, b, c] = addS (addS a b) c := by
  unfold sumS addS
  rw [lb_bs]
  congr 1
  refine trim_ext ?_
  show cf (addL (addL (lb a) (lb b)) (lb c)) = _
  rw [cf_addL, cf_addL, cf_addL, cf_trim, cf_addL]
theorem add_in (D P : List UInt8) (m : Nat) (h : m < P.length) (hl : m < (addL D (P.take m)).length) :
    addL D (P.take (m + 1)) = (addL D (P.take m)).set m (cf (addL D (P.take m)) m ^^^ cf P m) := by
  have h1 := hl
  rw [addL_length, List.length_take] at h1
  refine ext_cf ?_ ?_
  · rw [List.length_set, addL_length, addL_length, List.length_take, List.length_take]; omega
  · funext j
    rw [cf_set hl, cf_addL, cf_addL]
    show cf D j ^^^ cf (P.take (m + 1)) j = if j = m then (cf D m ^^^ cf (P.take m) m) ^^^ cf P m else cf D j ^^^ cf (P.take m) j
    simp only [cf_take]
    by_cases e : j = m
    · subst e; rw [if_pos (by omega), if_pos rfl, if_neg (by omega), xzero]
    · rw [if_neg e]
      by_cases e2 : j < m
      · rw [if_pos (by omega), if_pos e2]
      · rw [if_neg (by omega), if_neg e2]
theorem add_out (D P : List UInt8) (m : Nat) (h : m < P.length) (hl : m = (addL D (P.take m)).length) :
    addL D (P.take (m + 1)) = (addL D (P.take m) ++ [0]).set m (cf (addL D (P.take m) ++ [0]) m ^^^ cf P m) := by
  have h1 := hl
  rw [addL_length, List.length_take] at h1
  refine ext_cf ?_ ?_
  · rw [List.length_set, List.length_append, addL_length, addL_length, List.length_take, List.length_take, List.length_singleton]; omega
  · funext j
    have hap : ∀ i, cf (addL D (P.take m) ++ [0]) i = cf (addL D (P.take m)) i := fun i => by
      rw [cf_append]
      show _ ^^^ shn _ (cf [0]) i = _
      rw [shn_apply]
      split
      · exact xzero _
      · have : cf [0] (i - (addL D (P.take m)).length) = 0 := by
          generalize i - (addL D (P.take m)).length = q
          cases q with
          | zero => rfl
          | succ q => rw [cf_succ]; rfl
        rw [this, xzero]
    rw [cf_set (by rw [List.length_append, List.length_singleton]; omega), hap, hap, cf_addL, cf_addL]
    show cf D j ^^^ cf (P.take (m + 1)) j = if j = m then (cf D m ^^^ cf (P.take m) m) ^^^ cf P m else cf D j ^^^ cf (P.take m) j
    simp only [cf_take]
    by_cases e : j = m
    · subst e; rw [if_pos (by omega), if_pos rfl, if_neg (by omega), xzero]
    · rw [if_neg e]
      by_cases e2 : j < m
      · rw [if_pos (by omega), if_pos e2]
      · rw [if_neg (by omega), if_neg e2]
theorem reads_nought (wr : World) : Reads (wr.alloc (.cells #[.int .u8 0] 5)) 1 (.slice (some ⟨wr.heap.size, 0, none⟩) 1 1) 1 (u8l [0]) :=
  Reads.of_own (row_new wr #[.int .u8 0] 5 1 rfl (by decide))
theorem OwnB.form {B : Nat} {w : World} {v : Value} {l : List UInt8} (h : OwnB B w v l) : ∃ ad c, v = .slice ad l.length c := by
  rcases h.2 with ⟨rfl, h0⟩ | ⟨g, cap, cur, rfl, _⟩
  · exact ⟨none, 0, by rw [h0]⟩
  · exact ⟨_, _, rfl⟩
/-- No text has more than so many bytes. -/
def AllLe (M : Nat) (xs : List ByteArray) : Prop := ∀ x ∈ xs, x.size ≤ M
theorem accL_length (M : Nat) (D : List UInt8) (xs : List ByteArray) (hD : D.length ≤ M) (h : AllLe M xs) : (accL D xs).length ≤ M := by
  induction xs generalizing D with
  | nil => exact hD
  | cons x xs ih =>
    refine ih _ ?_ (fun y hy => h y (List.mem_cons_of_mem _ hy))
    rw [addL_length, lb_length]
    have := h x List.mem_cons_self
    omega

set_option maxRecDepth 100000 in
set_option maxHeartbeats 8000000 in
theorem padd_any (M : Nat) (xs : List ByteArray) (v : Value) (w : World) (hx : TextsAt w v xs) (hM : M < 274877906944) (hall : AllLe M xs) :
    Calls Tryz.prog 115 #[v] w (Ret (.string (sumS xs)) w) := by
  obtain ⟨i0, hi, hz0, hz1, hz2⟩ := info_parts Tryz.infoB
  obtain ⟨B, hB⟩ : ∃ B, B = w.heap.size := ⟨_, rfl⟩
  obtain ⟨ad, cp, rfl, hlc, hcm, hcell⟩ := hx
  have hlm : xs.length ≤ 9223372036854775807 := by unfold maxLen at hcm; omega
  have HB := Lib.hid hB; have HC := Lib.hid hcell; have HALL := Lib.hid hall
  clear hB hcell hall
  go_enter Tryz.func115, Tryz.ntmps115
  go_wp2_with fail
  go_loopw [9, 3] (fun i v wr => ∃ k : Nat, k ≤ xs.length ∧ i = .int .i64 k ∧ OwnB B wr v (accL [] (xs.take k)) ∧ Same [] w wr) (fun i _ _ => xs.length - (intOf i).toNat)
  case atStart => exact ⟨0, Nat.zero_le _, rfl, OwnB.nil _ _, Same.refl _ _⟩
  case round =>
    obtain ⟨k, hk, rfl, ho, hs⟩ := hrel
    have HO := Lib.hid ho; have HS := Lib.hid hs
    clear ho hs
    by_cases h1 : k < xs.length
    · have h1i : (k : Int) < (xs.length : Int) := by omega
      obtain ⟨a, rfl, hsp, c0⟩ := HC.out k h1
      obtain ⟨g, o, sp⟩ := a
      simp only at hsp c0
      subst hsp
      have d0 := HS.out.cell c0 (by simp)
      obtain ⟨p, hp⟩ : ∃ p, p = xs[k] := ⟨_, rfl⟩
      rw [← hp] at d0
      have hpM : p.size ≤ M := by rw [hp]; exact HALL.out _ (List.getElem_mem h1)
      obtain ⟨D, hD⟩ : ∃ D, D = accL [] (xs.take k) := ⟨_, rfl⟩
      have hDn : accL [] (xs.take (k + 1)) = addL D (lb p) := by rw [List.take_succ_eq_append_getElem h1, accL_snoc, ← hD, ← hp]
      have hDl : D.length ≤ M := by rw [hD]; exact accL_length M _ _ (Nat.zero_le _) (fun y hy => HALL.out y (List.mem_of_mem_take hy))
      rw [← hD] at HO
      have HDN := Lib.hid hDn; have HP := Lib.hid hp
      clear hD hDn c0 hp
      go_wp2_with fail
      obtain ⟨wo, rfl⟩ : ∃ wo : World, wo = wr := ⟨_, rfl⟩
      go_loopw [15, 3] (fun i v wr => ∃ m : Nat, m ≤ p.size ∧ i = .int .i64 m ∧ OwnB B wr v (addL D ((lb p).take m)) ∧ Same [] w wr) (fun i _ _ => p.size - (intOf i).toNat)
      case atStart => exact ⟨0, Nat.zero_le _, rfl, by rw [List.take_zero, addL_nil]; exact HO.out, HS.out⟩
      case round =>
        obtain ⟨m, hm, rfl, ho, hs⟩ := hrel
        by_cases h3 : m < p.size
        · have h3i : (m : Int) < (p.size : Int) := by omega
          have hb := bt_at p m h3
          have hll := addL_length D ((lb p).take m)
          rw [List.length_take, lb_length, Nat.min_eq_left hm] at hll
          obtain ⟨L, hL⟩ : ∃ L, L = addL D ((lb p).take m) := ⟨_, rfl⟩
          rw [← hL] at ho hll
          by_cases h4 : m < L.length
          · have hne : ((m : Int) == (L.length : Int)) = false := by simp; omega
            obtain ⟨g', cap, cur, hcells⟩ := ho.cells (by omega)
            have c1 := hcells.cell m h4
            have f1 := free_of hcells.heap m
            have hval := hcells.val
            subst hval
            obtain ⟨x, hx⟩ : ∃ x, x = cf L m := ⟨_, rfl⟩
            rw [← hx] at c1
            have hbase := hcells.base
            have hnew := add_in D (lb p) m (by rw [lb_length]; exact h3) (by rw [← hL]; exact h4)
            rw [← hL, ← hx] at hnew
            have h4i : (m : Int) < (L.length : Int) := by omega
            have HN := Lib.hid hnew; have HCE := Lib.hid hcells; have HS2 := Lib.hid hs
            clear hL hx hnew ho hcells hs hll
            go_wp2_with fail
            go_region
            go_wp2_with fail
            have hown := CellsB.set HCE.out m h4 (x ^^^ cf (lb p) m)
            rw [← HN.out, ← u8_xor] at hown
            have hsm : Same [] w (wr.setCell ⟨g', m, none⟩ (.int .u8 (bits .xor .u8 (x.toNat : Int) ((cf (lb p) m).toNat : Int)))).drew :=
              (HS2.out.setCell (fun h => absurd (show g' < w.heap.size from h) (by have := HB.out; omega)) _).drew
            go_roundw
            case rel => exact ⟨m + 1, by omega, by go_num, hown.drew, hsm⟩
            case measure => simp [intOf]; omega
          · have heq : L.length = m := by omega
            have hnew := add_out D (lb p) m (by rw [lb_length]; exact h3) (by rw [← hL]; exact heq.symm)
            rw [← hL] at hnew
            have hne : ((m : Int) == (L.length : Int)) = true := by simp; omega
            obtain ⟨ad, cad, rfl⟩ := ho.form
            have hd := ho.alloc (.cells #[.int .u8 0] 5)
            have hl63 : L.length + 1 ≤ maxLen := by unfold maxLen; omega
            have hlen : (L.length + 1) * 1 ≤ 140737488355328 := by omega
            have hsz := hs.size
            have hbase : B ≤ (wr.alloc (.cells #[.int .u8 0] 5)).heap.size := by have := HB.out; simp; omega
            have HN := Lib.hid hnew; have HD := Lib.hid hd; have HS2 := Lib.hid hs; have HEQ := Lib.hid heq
            clear hL hnew ho hd hs hll heq h4
            go_upto_region 10 with (at_builtin; refine wpList_append_src rfl (.tmp 22) (.tmp 23) 33 rfl B 5 i0 (.int .u8 0) 1 1 Tryz.underlying33 hi hz0 hz1 hz2 rfl (by decide) _ L.length _ rfl HD.out _ 1 _ rfl (reads_nought wr) (one_u8l _) hl63 hlen hbase ?_; intro v' w2 hown hgrow hat; have HOWN := Lib.hid hown; have HG := Lib.hid hgrow; clear hown hgrow hat)
            obtain ⟨q1, q2⟩ := OwnB.grow HD.out (by have := HB.out; omega) (HS2.out.alloc _) HOWN.out HG.out
            obtain ⟨g', cap, cur, hcells⟩ := q1.cells (by simp)
            have hmm : m < (L ++ [0]).length := by simp; have := HEQ.out; omega
            have c1 := hcells.cell m hmm
            have f1 := free_of hcells.heap m
            have hval := hcells.val
            rw [List.length_append, List.length_singleton] at hval
            subst hval
            obtain ⟨x, hx⟩ : ∃ x, x = cf (L ++ [0]) m := ⟨_, rfl⟩
            rw [← hx] at c1
            have hbase2 := hcells.base
            have hnew := HN.out
            rw [← hx] at hnew
            have HN2 := Lib.hid hnew; have HCE := Lib.hid hcells; have HQ2 := Lib.hid q2
            have h4i : (m : Int) < ((L.length : Nat) : Int) + 1 := by have := HEQ.out; omega
            clear hnew hcells q2 q1 hx HOWN HG hne
            go_region
            go_wp2_with fail
            have hown := CellsB.set HCE.out m hmm (x ^^^ cf (lb p) m)
            rw [← HN2.out, ← u8_xor] at hown
            have hsm : Same [] w (w2.setCell ⟨g', m, none⟩ (.int .u8 (bits .xor .u8 (x.toNat : Int) ((cf (lb p) m).toNat : Int)))).drew :=
              (HQ2.out.setCell (fun h => absurd (show g' < w.heap.size from h) (by have := HB.out; omega)) _).drew
            go_roundw
            case rel => exact ⟨m + 1, by omega, by go_num, hown.drew, hsm⟩
            case measure => simp [intOf]; omega
        · obtain rfl : m = p.size := by omega
          have h3i : ¬ (p.size : Int) < (p.size : Int) := by omega
          have hfin : addL D ((lb p).take p.size) = accL [] (xs.take (k + 1)) := by rw [← lb_length, List.take_length, HDN.out]
          rw [hfin] at ho
          have HO2 := Lib.hid ho; have HS2 := Lib.hid hs
          clear hfin ho hs
          go_wp2_with fail
          go_roundw
          case rel => exact ⟨k + 1, by omega, by go_num, HO2.out, HS2.out⟩
          case measure => simp [intOf]; omega
    · obtain rfl : k = xs.length := by omega
      have h1i : ¬ (xs.length : Int) < (xs.length : Int) := by omega
      rw [List.take_length] at HO
      have hsz2 : (bs (accL [] xs)).size ≤ 9223372036854775807 := by
        rw [size_bs]
        have := accL_length M [] xs (Nat.zero_le _) HALL.out
        omega
      have HTR := Lib.hid (fun W => trim_any (bs (accL [] xs)) W hsz2)
      have hcv := HO.out.str
      clear h1 hk hsz2
      go_wp2_with fail
      (with_reducible refine (HTR.out _).mono ?_)
      rintro e w' ⟨rfl, rfl⟩
      go_wp2_with fail
      go_ret
      exact ⟨rfl, HS.out⟩
end Go.Proofs.YtpkpfebhdgbgbaaGreatDoor
