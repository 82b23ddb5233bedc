/- The program's product of polynomials. Condition: fewer than 2^38 bytes. -/
import Derived.Test.YtpkpfebhdgbgbaaGreatDoorTBr2
import Derived.Test.YtpkpfebhdgbgbaaGreatDoorRs1
import Derived.Deep.RegionLaw
import Derived.Laws.OwnMore
namespace Go.Proofs.YtpkpfebhdgbgbaaGreatDoor
open Go.RowKit
set_option linter.unusedSimpArgs false
set_option linter.unusedVariables false

theorem cf_take (l : List UInt8) (k j : Nat) : cf (l.take k) j = if j < k then cf l j else 0 := by
  by_cases h : j < k
  · rw [if_pos h]
    by_cases h2 : j < l.length
    · rw [cf_lt (by simp; omega), cf_lt h2]; simp
    · rw [cf_ge (by simp; omega), cf_ge (by omega)]
  · rw [if_neg h, cf_ge (by simp; omega)]
theorem take_snoc (l : List UInt8) (i : Nat) (h : i < l.length) : l.take (i + 1) = l.take i ++ [cf l i] := by
  rw [List.take_succ_eq_append_getElem h, cf_lt h]
/-- So much of the product: i bytes of the first one, and k bytes of the second one by the next. -/
def mulK (a b : List UInt8) (i k : Nat) : Nat → UInt8 := pad (mulL (a.take i) (cf b)) (shn i (scl (cf a i) (cf (b.take k))))
theorem mulK_zero (a b : List UInt8) (i : Nat) : mulK a b i 0 = mulL (a.take i) (cf b) := by
  funext j
  show _ ^^^ shn i _ j = _
  rw [shn_apply]
  split
  · exact xzero _
  · show _ ^^^ gm _ (cf (b.take 0) _) = _
    rw [cf_take, if_neg (by omega), gm_zero]; exact xzero _
theorem mulK_all (a b : List UInt8) (i : Nat) (h : i < a.length) : mulK a b i b.length = mulL (a.take (i + 1)) (cf b) := by
  unfold mulK
  rw [take_snoc a i h, mulL_append, mulL_single, List.take_length, List.length_take, Nat.min_eq_left (by omega)]
theorem mulK_succ (a b : List UInt8) (i k j : Nat) : mulK a b i (k + 1) j = if j = i + k then mulK a b i k j ^^^ gm (cf a i) (cf b k) else mulK a b i k j := by
  unfold mulK
  show mulL (a.take i) (cf b) j ^^^ shn i (scl (cf a i) (cf (b.take (k + 1)))) j = if j = i + k then (mulL (a.take i) (cf b) j ^^^ shn i (scl (cf a i) (cf (b.take k))) j) ^^^ gm (cf a i) (cf b k) else mulL (a.take i) (cf b) j ^^^ shn i (scl (cf a i) (cf (b.take k))) j
  simp only [shn_apply, scl, cf_take]
  by_cases h1 : j < i
  · rw [if_pos h1, if_pos h1, if_neg (by omega)]
  · rw [if_neg h1, if_neg h1]
    by_cases h2 : j = i + k
    · subst h2
      rw [if_pos rfl, Nat.add_sub_cancel_left, if_pos (by omega), if_neg (by omega), gm_zero, xzero]
    · rw [if_neg h2]
      by_cases h3 : j - i < k
      · rw [if_pos h3, if_pos (by omega)]
      · rw [if_neg h3, if_neg (by omega)]
theorem mul_fin (a b : List UInt8) : mulL (a.take a.length) (cf b) = mulL a (cf b) := by rw [List.take_length]

theorem own_zeros {B : Nat} {w : World} {v : Value} {n : Nat} (h : w.ownsRow B 5 1 v n (madeCells (Value.int .u8 0).cells (n * 1)).toList) : OwnB B w v (List.replicate n 0) := by
  unfold OwnB
  have e : (madeCells (Value.int .u8 0).cells (n * 1)).toList = u8l (List.replicate n 0) := by
    rw [Nat.mul_one]
    show (madeCells #[Value.int .u8 0] n).toList = _
    rw [toList_madeCells_one, u8l, List.map_replicate]; rfl
  rw [e] at h
  rwa [List.length_replicate]
theorem cf_zeros (n : Nat) : cf (List.replicate n 0) = pz := by
  funext j
  by_cases h : j < n
  · rw [cf_lt (by simpa using h)]; simp [pz]
  · rw [cf_ge (by simpa using Nat.le_of_not_lt h)]; rfl
set_option maxRecDepth 100000 in
set_option maxHeartbeats 4000000 in
theorem pmul_any (a b : ByteArray) (w : World) (ha : a.size < 274877906944) (hb : b.size < 274877906944) :
    Calls Tryz.prog 114 #[.string a, .string b] w (Ret (.string (mulS a b)) w) := by
  obtain ⟨i0, hi, hz0, hz1, hz2⟩ := info_parts Tryz.infoB
  obtain ⟨B, hB⟩ : ∃ B, B = w.heap.size := ⟨_, rfl⟩
  have HB := Lib.hid hB
  clear hB
  go_enter Tryz.func114, Tryz.ntmps114
  go_wp2_with fail
  (with_reducible refine (new_any _).mono ?_)
  rintro e w1 ⟨rfl, f1, s1⟩
  rw [← HB.out] at f1 ⊢
  have hsz1 := s1.size
  have hlt1 := f1.lt
  obtain ⟨n, hn⟩ : ∃ n, n = a.size + b.size := ⟨_, rfl⟩
  have hn1 : (a.size : Int) + (b.size : Int) = (n : Int) := by omega
  have hn2 : n < 549755813888 := by omega
  have hbase : B ≤ w1.heap.size := by omega
  have hl1 : i0.bytes * n ≤ 281474976710656 := by rw [hz2]; omega
  have hl2 : n ≤ maxLen := by unfold maxLen; omega
  have HF := Lib.hid f1; have HS := Lib.hid s1; have HN := Lib.hid hn
  clear f1 s1 hn
  go_wp2_with (at_make; refine wpList_make_full w1 rfl (.tmp 14) (.tmp 14) 33 rfl B 5 i0 (.int .u8 0) 1 Tryz.underlying33 hi hz0 hz1 .i64 .i64 n n n rfl rfl rfl rfl hl1 hl2 hbase ?_; intro w2 hown hgrow; have HOWN := Lib.hid hown; have HG := Lib.hid hgrow; clear hown hgrow)
  obtain ⟨G, hG⟩ : ∃ G, G = w1.heap.size := ⟨_, rfl⟩
  rw [← hG] at HOWN ⊢
  have s2 : Same [] w w2 := HS.out.trans_nil (Same.of_grown HG.out)
  have f2 : FieldAt w2 B := HF.out.same (Same.of_grown HG.out) (by simp)
  have HO := Lib.hid (own_zeros HOWN.out); have HS2 := Lib.hid s2; have HF2 := Lib.hid f2
  have hBG : B < G := by omega
  obtain ⟨f, hf⟩ : ∃ f, f = cf (lb b) := ⟨_, rfl⟩
  have HFF := Lib.hid hf
  clear s2 f2 HF HS HOWN HG hG hlt1 hsz1 hbase hi hz0 hz1 hz2 hl1 hf
  go_loopw [18] (fun i wr => ∃ (k : Nat) (L : List UInt8), k ≤ a.size ∧ i = .int .i64 k ∧ L.length = n ∧ cf L = mulL ((lb a).take k) f ∧ OwnB B wr (.slice (some ⟨G, 0, none⟩) n n) L ∧ FieldAt wr B ∧ Same [] w wr) (fun i _ => a.size - (intOf i).toNat)
  case atStart => exact ⟨0, List.replicate n 0, Nat.zero_le _, rfl, by simp, cf_zeros n, HO.out, HF2.out, HS2.out⟩
  case round =>
    obtain ⟨k, L, hk, rfl, hL, hc, ho, hf, hs⟩ := hrel
    have HL := Lib.hid hL; have HC := Lib.hid hc; have HOO := Lib.hid ho; have HFI := Lib.hid hf; have HSS := Lib.hid hs
    clear hL hc ho hf hs
    by_cases h1 : k < a.size
    · have h1i : (k : Int) < (a.size : Int) := by omega
      have hba := bt_at a k h1
      go_wp2_with fail
      obtain ⟨wo, rfl⟩ : ∃ wo : World, wo = wr := ⟨_, rfl⟩
      go_loopw [23] (fun i wr => ∃ (m : Nat) (L : List UInt8), m ≤ b.size ∧ i = .int .i64 m ∧ L.length = n ∧ cf L = mulK (lb a) (lb b) k m ∧ OwnB B wr (.slice (some ⟨G, 0, none⟩) n n) L ∧ FieldAt wr B ∧ Same [] w wr) (fun i _ => b.size - (intOf i).toNat)
      case atStart => exact ⟨0, L, Nat.zero_le _, rfl, HL.out, by rw [HC.out, mulK_zero, HFF.out], HOO.out, HFI.out, HSS.out⟩
      case round =>
        obtain ⟨m, L2, hm, rfl, hL2, hc2, ho2, hf2, hs2⟩ := hrel
        by_cases h3 : m < b.size
        · have h3i : (m : Int) < (b.size : Int) := by omega
          have hbb := bt_at b m h3
          have hkm : k + m < n := by have := HN.out; omega
          obtain ⟨g', cap, cur, hcells⟩ := ho2.cells (by omega)
          have hgG : g' = G := by have := hcells.val; simp at this; exact this.1.symm
          subst hgG
          have c0 := hcells.cell (k + m) (by omega)
          have f0 := free_of hcells.heap (k + m)
          obtain ⟨x, hx⟩ : ∃ x, x = cf L2 (k + m) := ⟨_, rfl⟩
          rw [← hx] at c0
          obtain ⟨z, hz⟩ : ∃ z, z = gm (cf (lb a) k) (cf (lb b) m) := ⟨_, rfl⟩
          have HM := Lib.hid (fmul_any B (cf (lb a) k) (cf (lb b) m) wr.drew hf2.drew)
          rw [← hz] at HM
          have HZ := Lib.hid hz
          have HX := Lib.hid hx; have HL2 := Lib.hid hL2; have HC2 := Lib.hid hc2; have HF2 := Lib.hid hf2; have HS2 := Lib.hid hs2; have HCE := Lib.hid hcells
          have hw : IntKind.i64.wrap ((k : Int) + (m : Int)) = (k : Int) + (m : Int) := IntWalk.i64_in _ (by omega)
          have hn0 : (0 : Int) ≤ (k : Int) + (m : Int) := by omega
          have hn1 : (k : Int) + (m : Int) < (n : Int) := by omega
          have hnn : ((k : Int) + (m : Int)).toNat = k + m := by omega
          clear hx hL2 hc2 hf2 hs2 ho2 hcells hz
          go_wp2_with fail
          go_region_law (first | (go_simp; go_at_call 108; (with_reducible refine HM.out.mono ?_); rintro e w' ⟨rfl, nd, rfl⟩))
          all_goals
            go_wp2_with fail
            have hown := CellsB.set (HCE.out.drewN (1 + nd)) (k + m) (by rw [HL2.out]; exact hkm) (x ^^^ z)
            rw [← u8_xor] at hown
            have hsm : Same [] w ((wr.drewN (1 + nd)).setCell ⟨g', k + m, none⟩ (.int .u8 (bits .xor .u8 (x.toNat : Int) (z.toNat : Int)))) :=
              (HS2.out.drewN _).setCell (fun h => absurd (show g' < w.heap.size from h) (by have := HCE.out.base; have := HB.out; omega)) _
            have hfd : FieldAt ((wr.drewN (1 + nd)).setCell ⟨g', k + m, none⟩ (.int .u8 (bits .xor .u8 (x.toNat : Int) (z.toNat : Int)))) B :=
              (HF2.out.drewN (1 + nd)).same (S := [g']) ((Same.refl _ _).setCell (fun _ => by simp) _) (by simp; omega)
            go_roundw
            case rel =>
              refine ⟨m + 1, L2.set (k + m) (x ^^^ z), by omega, by go_num, by rw [List.length_set]; exact HL2.out, ?_, hown, hfd, hsm⟩
              funext j
              rw [cf_set (by rw [HL2.out]; exact hkm), mulK_succ, HX.out, HZ.out, HC2.out]
              split
              · rename_i e; rw [e]
              · rfl
            case measure => simp [intOf]; omega
        · obtain rfl : m = b.size := by omega
          have h3i : ¬ (b.size : Int) < (b.size : Int) := by omega
          have HL2 := Lib.hid hL2; have HC2 := Lib.hid hc2; have HF2 := Lib.hid hf2; have HS2 := Lib.hid hs2; have HO2 := Lib.hid ho2
          clear hL2 hc2 hf2 hs2 ho2
          go_wp2_with fail
          go_roundw
          case rel => exact ⟨k + 1, L2, by omega, by go_num, HL2.out, by rw [HC2.out, ← lb_length b, mulK_all _ _ _ (by rw [lb_length]; exact h1), HFF.out], HO2.out, HF2.out, HS2.out⟩
          case measure => simp [intOf]; omega
    · obtain rfl : k = a.size := by omega
      have h1i : ¬ (a.size : Int) < (a.size : Int) := by omega
      have hsz2 : (bs L).size ≤ 9223372036854775807 := by rw [size_bs, HL.out]; omega
      have ht : trimS (bs L) = mulS a b := by
        unfold trimS mulS
        rw [lb_bs, trim_ext (b := prodL (lb a) (lb b))]
        rw [cf_prodL, HC.out, ← lb_length a, List.take_length, HFF.out]
      have HT := Lib.hid ht
      have HTR := Lib.hid (fun W => trim_any (bs L) W hsz2)
      have hcv := HOO.out.str
      clear ht h1 hk hsz2
      go_wp2_with fail
      (with_reducible refine (HTR.out _).mono ?_)
      rintro e w' ⟨rfl, rfl⟩
      go_wp2_with fail
      go_ret
      exact ⟨by rw [← HT.out]; rfl, HSS.out⟩
end Go.Proofs.YtpkpfebhdgbgbaaGreatDoor
