/- The program's words: values at powers of 2, whether a text is a word, the generator. Condition: the reach of strings. -/
import Derived.Test.YtahjpjhkbohpnaaDoorFRs2
import Derived.Deep.RegionLaw
namespace Go.Proofs.YtahjpjhkbohpnaaDoor
open Go.RowKit
set_option linter.unusedSimpArgs false
set_option linter.unusedVariables false

def synK (s : ByteArray) (k m : Nat) : List UInt8 := ofF 64 (fun j => if j < k then hv (lb s) (ex j) else if j = k then hv ((lb s).take m) (ex j) else 0)
theorem synK_length (s : ByteArray) (k m : Nat) : (synK s k m).length = 64 := ofF_length _ _
theorem synK_start (s : ByteArray) : synK s 0 0 = List.replicate 64 0 := by
  refine List.ext_getElem (by rw [synK_length]; simp) fun i h1 h2 => ?_
  rw [List.getElem_replicate, ← cf_lt h1]
  unfold synK
  rw [cf_ofF, if_pos (by rw [synK_length] at h1; exact h1), if_neg (by omega)]
  split
  · rfl
  · rfl
theorem synK_next (s : ByteArray) (k : Nat) : synK s k s.size = synK s (k + 1) 0 := by
  unfold synK ofF
  refine List.map_congr_left fun j _ => ?_
  by_cases h1 : j < k
  · rw [if_pos h1, if_pos (by omega)]
  · rw [if_neg h1]
    by_cases h2 : j = k
    · rw [if_pos h2, if_pos (by omega), ← lb_length, List.take_length]
    · rw [if_neg h2, if_neg (by omega)]
      split <;> rfl
theorem synK_all (s : ByteArray) : synK s 64 0 = syn (lb s) := by
  unfold synK syn ofF
  refine List.map_congr_left fun j hj => ?_
  rw [if_pos (List.mem_range.1 hj)]
theorem cf_synK (s : ByteArray) (k m : Nat) (h : k < 64) : cf (synK s k m) k = hv ((lb s).take m) (ex k) := by
  unfold synK; rw [cf_ofF, if_pos h, if_neg (by omega), if_pos rfl]
theorem synK_set (s : ByteArray) (k m : Nat) (h : k < 64) (hm : m < s.size) : (synK s k m).set k (gm (hv ((lb s).take m) (ex k)) (ex k) ^^^ cf (lb s) m) = synK s k (m + 1) := by
  refine ext_cf (by rw [List.length_set, synK_length, synK_length]) ?_
  funext j
  rw [cf_set (by rw [synK_length]; exact h)]
  by_cases hj : j = k
  · subst hj
    rw [if_pos rfl, cf_synK s j _ h, take_snoc _ _ (by rw [lb_length]; exact hm), hv_snoc]
  · rw [if_neg hj]
    unfold synK
    rw [cf_ofF, cf_ofF]
    split
    · split
      · rfl
      · first | rfl | rw [if_neg hj]
    · rfl

theorem syn_bad (s : ByteArray) (w : World) (hs : s.size ≤ 9223372036854775807) (h : s.size ≠ 255) :
    Calls Tryd.prog 39 #[.string s] w fun e w' => e = .returned (.tuple #[.string ⟨#[]⟩, .int .i64 1]) ∧ w = w' := by
  have hne : ((s.size : Int) != 255) = true := by simp; omega
  go_enter Tryd.func39, Tryd.ntmps39
  go_wp2_with fail
  go_ret2
  exact ⟨rfl, rfl⟩

set_option maxRecDepth 100000 in
set_option maxHeartbeats 8000000 in
theorem syn_ok (s : ByteArray) (w : World) (h : s.size = 255) :
    Calls Tryd.prog 39 #[.string s] w (Ret (.tuple #[.string (synS s), .int .i64 0]) w) := by
  obtain ⟨i0, hi, hz0, hz1, hz2⟩ := info_parts Tryd.infoB
  obtain ⟨B, hB⟩ : ∃ B, B = w.heap.size := ⟨_, rfl⟩
  have hne : ((s.size : Int) != 255) = false := by simp; omega
  have HB := Lib.hid hB; have HSZ := Lib.hid h
  have hs64 : s.size ≤ 255 := by omega
  clear hB h
  go_enter Tryd.func39, Tryd.ntmps39
  go_wp2_with fail
  (with_reducible refine (new_any _).mono ?_)
  rintro e w1 ⟨rfl, f1, s1⟩
  rw [← HB.out] at f1 ⊢
  have hsz1 := s1.size
  have hlt1 := f1.lt
  have hbase : B ≤ w1.heap.size := by omega
  have hl1 : i0.bytes * 64 ≤ 281474976710656 := by rw [hz2]; decide
  have HF := Lib.hid f1; have HS := Lib.hid s1
  clear f1 s1
  go_wp2_with (at_make; refine wpList_make_full w1 rfl (.const (.int .i64 64)) (.const (.int .i64 64)) 38 rfl B 5 i0 (.int .u8 0) 1 Tryd.underlying38 hi hz0 hz1 .i64 .i64 64 64 64 rfl rfl rfl rfl hl1 (by decide) hbase ?_; intro w2 hown hgrow; have HOWN := Lib.hid hown; have HG := Lib.hid hgrow; clear hown hgrow)
  obtain ⟨G, hG⟩ : ∃ G, G = w1.heap.size := ⟨_, rfl⟩
  rw [← hG] at HOWN ⊢
  have s2 : Same [] w w2 := HS.out.trans_nil (Same.of_grown HG.out)
  have f2 : FieldAt w2 B := HF.out.same (Same.of_grown HG.out) (by simp)
  have HO := Lib.hid (own_zeros HOWN.out); have HS2 := Lib.hid s2; have HF2 := Lib.hid f2
  have hBG : B < G := by omega
  clear s2 f2 HF HS HOWN HG hG hlt1 hsz1 hbase hi hz0 hz1 hz2 hl1
  go_loopw [16] (fun i wr => ∃ k : Nat, k ≤ 64 ∧ i = .int .i64 k ∧ OwnB B wr (.slice (some ⟨G, 0, none⟩) 64 64) (synK s k 0) ∧ FieldAt wr B ∧ Same [] w wr) (fun i _ => 64 - (intOf i).toNat)
  case atStart => exact ⟨0, Nat.zero_le _, rfl, by rw [synK_start]; exact HO.out, HF2.out, HS2.out⟩
  case round =>
    obtain ⟨k, hk, rfl, ho, hf, hs⟩ := hrel
    have HOO := Lib.hid ho; have HFI := Lib.hid hf; have HSS := Lib.hid hs
    clear ho hs
    by_cases h1 : k < 64
    · have h1i : (k : Int) < 64 := by omega
      obtain ⟨x, hx⟩ : ∃ x, x = ex k := ⟨_, rfl⟩
      have HE := Lib.hid (fexp_any B k wr hf (by omega))
      rw [← hx] at HE
      have HX := Lib.hid hx
      clear hf hx
      go_wp2_with fail
      (with_reducible refine HE.out.mono ?_)
      rintro e w' ⟨rfl, rfl⟩
      go_wp2_with fail
      obtain ⟨wo, rfl⟩ : ∃ wo : World, wo = wr := ⟨_, rfl⟩
      go_loopw [24] (fun i wr => ∃ m : Nat, m ≤ s.size ∧ i = .int .i64 m ∧ OwnB B wr (.slice (some ⟨G, 0, none⟩) 64 64) (synK s k m) ∧ FieldAt wr B ∧ Same [] w wr) (fun i _ => s.size - (intOf i).toNat)
      case atStart => exact ⟨0, Nat.zero_le _, rfl, HOO.out, HFI.out, HSS.out⟩
      case round =>
        obtain ⟨m, hm, rfl, ho2, hf2, hs2⟩ := hrel
        by_cases h3 : m < s.size
        · have h3i : (m : Int) < (s.size : Int) := by omega
          have hbb := bt_at s m h3
          obtain ⟨g', cap, cur, hcells⟩ := ho2.cells (by rw [synK_length]; decide)
          have hgG : g' = G := by have := hcells.val; simp at this; exact this.1.symm
          subst hgG
          have c0 := hcells.cell k (by rw [synK_length]; exact h1)
          rw [cf_synK s k m h1] at c0
          have f0 := free_of hcells.heap k
          obtain ⟨y, hy⟩ : ∃ y, y = hv ((lb s).take m) (ex k) := ⟨_, rfl⟩
          rw [← hy] at c0
          obtain ⟨z, hz⟩ : ∃ z, z = gm y x := ⟨_, rfl⟩
          have HM := Lib.hid (fmul_any B y x wr.drew hf2.drew)
          rw [← hz] at HM
          have hset := synK_set s k m h1 h3
          rw [← hy, ← HX.out, ← hz] at hset
          have HST := Lib.hid hset; have HF2 := Lib.hid hf2; have HS2 := Lib.hid hs2; have HCE := Lib.hid hcells
          clear hy hz hset hf2 hs2 ho2 hcells
          go_wp2_with fail
          go_region_law (first | (go_simp; go_at_call 33; (with_reducible refine HM.out.mono ?_); rintro e w' ⟨rfl, nd, rfl⟩))
          all_goals
            go_wp2_with fail
            have hown := CellsB.set (HCE.out.drewN (1 + nd)) k (by rw [synK_length]; exact h1) (z ^^^ cf (lb s) m)
            rw [HST.out, ← u8_xor] at hown
            have hsm : Same [] w ((wr.drewN (1 + nd)).setCell ⟨g', k, none⟩ (.int .u8 (bits .xor .u8 (z.toNat : Int) ((cf (lb s) m).toNat : Int)))) :=
              (HS2.out.drewN _).setCell (fun h => absurd (show g' < w.heap.size from h) (by have := HCE.out.base; have := HB.out; omega)) _
            have hfd : FieldAt ((wr.drewN (1 + nd)).setCell ⟨g', k, none⟩ (.int .u8 (bits .xor .u8 (z.toNat : Int) ((cf (lb s) m).toNat : Int)))) B :=
              (HF2.out.drewN (1 + nd)).same (S := [g']) ((Same.refl _ _).setCell (fun _ => by simp) _) (by simp; omega)
            go_roundw
            case rel => exact ⟨m + 1, by omega, by go_num, hown, hfd, hsm⟩
            case measure => simp [intOf]; omega
        · obtain rfl : m = s.size := by omega
          have h3i : ¬ (s.size : Int) < (s.size : Int) := by omega
          rw [synK_next] at ho2
          have HF2 := Lib.hid hf2; have HS2 := Lib.hid hs2; have HO2 := Lib.hid ho2
          clear hf2 hs2 ho2
          go_wp2_with fail
          go_roundw
          case rel => exact ⟨k + 1, by omega, by go_num, HO2.out, HF2.out, HS2.out⟩
          case measure => simp [intOf]; omega
    · obtain rfl : k = 64 := by omega
      have h1i : ¬ ((64 : Nat) : Int) < 64 := by omega
      rw [synK_all] at HOO
      have hcv := HOO.out.str
      clear h1 hf hk
      go_wp2_with fail
      go_ret2
      exact ⟨rfl, HSS.out⟩

/-! ## Whether a text is a word -/
def zerosS (n : Nat) : ByteArray := bs (List.replicate n 0)
theorem zerosS_size (n : Nat) : (zerosS n).size = n := by unfold zerosS; rw [size_bs, List.length_replicate]
theorem synS_trim {s : ByteArray} : trimS (synS s) = ⟨#[]⟩ ↔ ∀ n, n < 64 → hv (lb s) (ex n) = 0 := by
  rw [← syn_zero, ← dl_zero]
  constructor
  · intro h
    have := trimS_len (synS s)
    rw [h] at this
    exact this.symm
  · intro h
    exact trimS_nil (dl_zero.1 h)
theorem synS_zeros {s : ByteArray} : synS s = zerosS 64 ↔ ∀ n, n < 64 → hv (lb s) (ex n) = 0 := by
  unfold synS zerosS; rw [bs_inj]; exact syn_zeros
def isB (s : ByteArray) : Bool := decide (s.size = 255 ∧ synS s = zerosS 64)
theorem isB_true {s : ByteArray} : isB s = true ↔ IsW (lb s) := by
  unfold isB IsW; rw [decide_eq_true_eq, synS_zeros, lb_length]
theorem is_bad (s : ByteArray) (w : World) (hs : s.size ≤ 9223372036854775807) (h : s.size ≠ 255) :
    Calls Tryd.prog 43 #[.string s] w (Ret (.bool (isB s)) w) := by
  have hb : isB s = false := by unfold isB; rw [decide_eq_false (fun h9 => h h9.1)]
  rw [hb]
  have HC := Lib.hid (fun W => syn_bad s W hs h)
  go_enter Tryd.func43, Tryd.ntmps43
  go_wp2_with fail
  (with_reducible refine (HC.out _).mono ?_)
  rintro e w' ⟨rfl, rfl⟩
  go_wp2_with fail
  go_ret
  exact ⟨rfl, Same.refl _ _⟩
theorem is_any (s : ByteArray) (w : World) (hs : s.size ≤ 9223372036854775807) :
    Calls Tryd.prog 43 #[.string s] w (Ret (.bool (isB s)) w) := by
  by_cases h : s.size = 255
  · obtain ⟨t, ht⟩ : ∃ t, t = trimS (synS s) := ⟨_, rfl⟩
    have HC := Lib.hid (fun W => syn_ok s W h)
    have HT := Lib.hid (fun W => trim_any (synS s) W (by rw [synS_size]; decide))
    rw [← ht] at HT
    have hiff : t = ⟨#[]⟩ ↔ isB s = true := by
      rw [ht, synS_trim, ← synS_zeros]; unfold isB; rw [decide_eq_true_eq]
      exact ⟨fun h9 => ⟨h, h9⟩, fun h9 => h9.2⟩
    have htl : t.toList.isEmpty = isB s := by
      cases hb : isB s with
      | true => rw [hiff.2 hb]; exact (is_empty ⟨#[]⟩ rfl).1
      | false =>
        refine (ne_empty t (fun h9 => ?_)).1
        have : t = ⟨#[]⟩ := by rw [← lb_inj]; exact List.eq_nil_of_length_eq_zero (by rw [lb_length, h9])
        rw [hiff.1 this] at hb; cases hb
    clear ht hiff h
    go_enter Tryd.func43, Tryd.ntmps43
    go_wp2_with fail
    (with_reducible refine (HC.out _).mono ?_)
    rintro e w2 ⟨rfl, s2⟩
    have S2 := Lib.hid s2; clear s2
    go_wp2_with fail
    (with_reducible refine (HT.out _).mono ?_)
    rintro e w' ⟨rfl, rfl⟩
    go_wp2_with fail
    go_ret
    exact ⟨rfl, S2.out⟩
  · exact is_bad s w hs h
end Go.Proofs.YtahjpjhkbohpnaaDoor
