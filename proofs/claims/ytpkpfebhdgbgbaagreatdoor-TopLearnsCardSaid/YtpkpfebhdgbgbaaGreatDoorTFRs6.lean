/- The program's parity of data (Encode). Condition: the reach of strings. Word, Short, and the chapter's examples. Condition: the reach of strings. -/
import Derived.Test.YtpkpfebhdgbgbaaGreatDoorTFRs4
import Derived.Laws.CopyOwn
import Derived.ChangeKeysEq
import Derived.Deep.Cut
import Derived.Outline
import Derived.Deep.MidRow
import Derived.Deep.RegionLaw
namespace Go.Proofs.YtpkpfebhdgbgbaaGreatDoor
open Go.RowKit
set_option linter.unusedSimpArgs false
set_option linter.unusedVariables false

theorem idx64 (cs : Array Value) (i : Nat) (v : Value) (h : cs[i]? = some v) (hi : i < 64) (w : World) : (Instr.index 199 (.agg cs) (.int .i64 (i : Int))).run Tryz.prog w = .ok v w := by
  have hp := run_part_plain (P := Tryz.prog) (w := w) (e := 5) (by kernel_rfl) h
  have h1 : (0 : Int) ≤ (i : Int) ∧ (i : Int) < ((64 : Nat) : Int) := by omega
  have hs : (sizeOf 5).run Tryz.prog w = .ok 1 w := by kernel_rfl
  simp [Instr.index, run_underlying Tryz.underlying199, asIntOf, h1, hs, hp, go_sem]
  rw [if_pos hi, h]
  rfl
/-- An array of bytes. -/
def ArrAt (w : World) (g : Nat) (l : List UInt8) : Prop := w.heap[g]? = some (.cells (u8l l).toArray 199 (0, 0)) ∧ l.length = 64
theorem ArrAt.cell {w : World} {g : Nat} {l : List UInt8} (h : ArrAt w g l) (i : Nat) (hi : i < 64) : w.cell? ⟨g, i, none⟩ = some (.int .u8 ((cf l i).toNat : Int)) := by
  rw [cell_of h.1]
  have hl : i < l.length := by rw [h.2]; exact hi
  simp [u8l, u8v, hl, cf_lt hl]
theorem ArrAt.free {w : World} {g : Nat} {l : List UInt8} (h : ArrAt w g l) (i : Nat) : w.frozen? ⟨g, i, none⟩ = false := free_of h.1 i
theorem ArrAt.set {w : World} {g : Nat} {l : List UInt8} (h : ArrAt w g l) (i : Nat) (x : UInt8) : ArrAt (w.setCell ⟨g, i, none⟩ (.int .u8 (x.toNat : Int))) g (l.set i x) := by
  refine ⟨(set_same h.1 _).trans ?_, by rw [List.length_set]; exact h.2⟩
  congr 2
  apply Array.ext'
  simp [u8l, u8v]
theorem ArrAt.same {w w' : World} {g : Nat} {l : List UInt8} {S : List Nat} (h : ArrAt w g l) (hs : Same S w w') (hn : g ∉ S) : ArrAt w' g l := ⟨hs.heap h.1 hn, h.2⟩
theorem ArrAt.drewN {w : World} {g : Nat} {l : List UInt8} (h : ArrAt w g l) (n : Nat) : ArrAt (w.drewN n) g l := h
theorem ArrAt.row {w : World} {g : Nat} {l : List UInt8} (h : ArrAt w g l) : RowF w (.slice (some ⟨g, 0, none⟩) 64 64) g (u8l l) := by
  have hz : (u8l l).length = 64 := by rw [u8l_length, h.2]
  refine ⟨64, by rw [hz], by rw [hz]; exact Nat.le_refl _, by decide, fun j u hj => ?_, fun j hj => ⟨?_, h.free j⟩⟩
  · rw [cell_of h.1]; simpa using hj
  · rw [h.cell j hj]; rfl
theorem arr_src {w : World} {g : Nat} {l : List UInt8} (h : ArrAt w g l) : ∀ (j : Nat) (v : Value), (u8l (l.drop 1))[j]? = some v → w.cell? ((⟨g, 1, none⟩ : Addr).add j) = some v := by
  intro j v hj
  have hlt : j < 63 := by
    have := (List.getElem?_eq_some_iff.1 hj).1
    rw [u8l_length, List.length_drop, h.2] at this; omega
  rw [show ((⟨g, 1, none⟩ : Addr).add j) = ⟨g, 1 + j, none⟩ from by simp [Addr.add]]
  rw [h.cell (1 + j) (by omega), ← hj]
  have hl : 1 + j < l.length := by rw [h.2]; omega
  have hl2 : j + 1 < l.length := by omega
  have e : (u8l (l.drop 1))[j]? = some (u8v (cf l (1 + j))) := by
    rw [cf_lt hl, u8l, List.getElem?_map, List.getElem?_drop, List.getElem?_eq_getElem hl]; rfl
  rw [e]; rfl
theorem arr_range {w : World} {g : Nat} {l : List UInt8} (h : ArrAt w g l) : w.rangeAt g 0 (u8l l) := by
  intro j v hj
  have hlt : j < l.length := by
    have := (List.getElem?_eq_some_iff.1 hj).1
    rwa [u8l_length] at this
  rw [Nat.zero_add, h.cell j (by rw [← h.2]; exact hlt), ← hj, u8l, List.getElem?_map, List.getElem?_eq_getElem hlt, cf_lt hlt]; rfl
theorem u8l_at {l : List UInt8} (i : Nat) (h : i < l.length) : (u8l l).toArray[i]? = some (.int .u8 ((cf l i).toNat : Int)) := by
  rw [List.getElem?_toArray, u8l, List.getElem?_map, List.getElem?_eq_getElem h, cf_lt h]; rfl
theorem u8l_one (l : List UInt8) : ∀ v ∈ u8l l, v.oneCell' = true := by
  intro v hv
  simp [u8l, u8v] at hv
  obtain ⟨a, _, rfl⟩ := hv
  rfl
theorem arr_splice {w w5 : World} {g : Nat} {l : List UInt8} (h : ArrAt w g l) (h5 : w5.heap[g]? = some (.cells (splice (u8l l) 0 (u8l (l.drop 1))).toArray 199 (0, 0))) : ArrAt w5 g (splice l 0 (l.drop 1)) := by
  refine ⟨h5.trans ?_, ?_⟩
  · congr 2
    simp [u8l, splice]
  · have := h.2
    simp [splice]; omega
theorem u8_ne0 {x : UInt8} (h : x ≠ 0) : ((x.toNat : Int) == 0) = false := by
  have : x.toNat ≠ 0 := fun e => h (UInt8.toNat_inj.1 e)
  simp; omega
def zeroV64 : Value := .agg (Array.replicate 64 (.int .u8 0))
theorem arr_zero (w : World) : ArrAt (w.alloc (.cells (Array.replicate 64 (.int .u8 0)) 199)) w.heap.size (List.replicate 64 0) := by
  refine ⟨(heap_alloc_new w _).trans ?_, by simp⟩
  congr 2
theorem same_below {w wr w' : World} {R : Nat} (h : Same [] w wr) (hb : Below R wr w') (hR : w.heap.size ≤ R) : Same [] w w' :=
  ⟨hb.os.trans h.os, hb.tape.trans h.tape, hb.output.trans h.output, Nat.le_trans h.size hb.size, fun k hk _ => (hb.block k (by omega)).trans (h.block k hk (by simp))⟩

theorem enc_bad (s : ByteArray) (w : World) (hs : s.size ≤ 9223372036854775807) (h : s.size ≠ 191) :
    Calls Tryz.prog 78 #[.string s] w fun e w' => e = .returned (.tuple #[.string ⟨#[]⟩, .int .i64 1]) ∧ w = w' := by
  have hne : ((s.size : Int) != 191) = true := by simp; omega
  go_enter Tryz.func78, Tryz.ntmps78
  go_wp2_with fail
  go_step3
  go_wp2_with fail
  rw [Exit.noGoto_ret]
  go_ret2
  exact ⟨rfl, rfl⟩

def tapK (k : Nat) : List UInt8 := ofF 64 (fun i => if i < k then cf gen (63 - i) else 0)
theorem tapK_zero : tapK 0 = List.replicate 64 0 := by
  refine List.ext_getElem (by unfold tapK; rw [ofF_length]; simp) fun i h1 h2 => ?_
  rw [List.getElem_replicate, ← cf_lt h1]
  unfold tapK
  rw [cf_ofF, if_pos (by unfold tapK at h1; rwa [ofF_length] at h1), if_neg (by omega)]
theorem tapK_set (k : Nat) (h : k < 64) : (tapK k).set k (cf gen (63 - k)) = tapK (k + 1) := by
  have hl : ∀ k, (tapK k).length = 64 := fun k => ofF_length _ _
  refine ext_cf (by rw [List.length_set, hl, hl]) ?_
  funext j
  rw [cf_set (by rw [hl]; exact h)]
  unfold tapK
  rw [cf_ofF, cf_ofF]
  by_cases hj : j = k
  · subst hj; rw [if_pos rfl, if_pos h, if_pos (by omega)]
  · rw [if_neg hj]
    split
    · by_cases h2 : j < k
      · rw [if_pos h2, if_pos (by omega)]
      · rw [if_neg h2, if_neg (by omega)]
    · rfl
theorem tapK_length (k : Nat) : (tapK k).length = 64 := ofF_length _ _
theorem cf_tap (k : Nat) (h : k < 64) : cf (tapK 64) k = cf gen (63 - k) := by unfold tapK; rw [cf_ofF, if_pos h, if_pos h]
/-- The register, shifted, and so many taps taken. -/
def regK (r : List UInt8) (x : UInt8) (k : Nat) : List UInt8 := ofF 64 (fun j => cf r (j + 1) ^^^ (if j < k then gm x (cf gen (63 - j)) else 0))
theorem regK_length (r : List UInt8) (x : UInt8) (k : Nat) : (regK r x k).length = 64 := ofF_length _ _
theorem regK_set (r : List UInt8) (x : UInt8) (k : Nat) (h : k < 64) : (regK r x k).set k (cf (regK r x k) k ^^^ gm x (cf gen (63 - k))) = regK r x (k + 1) := by
  refine ext_cf (by rw [List.length_set, regK_length, regK_length]) ?_
  funext j
  rw [cf_set (by rw [regK_length]; exact h)]
  unfold regK
  rw [cf_ofF, cf_ofF, cf_ofF]
  by_cases hj : j = k
  · subst hj; rw [if_pos rfl, if_pos h, if_pos h, if_neg (by omega), if_pos (by omega), xzero]
  · rw [if_neg hj]
    split
    · by_cases h2 : j < k
      · rw [if_pos h2, if_pos (by omega)]
      · rw [if_neg h2, if_neg (by omega)]
    · rfl
theorem regK_all (r : List UInt8) (d : UInt8) : regK r (d ^^^ cf r 0) 64 = nxt r d := by
  unfold regK nxt ofF
  refine List.map_congr_left fun j hj => ?_
  rw [if_pos (List.mem_range.1 hj)]
theorem regK_nought (r : List UInt8) (d : UInt8) (h : d ^^^ cf r 0 = 0) : regK r (d ^^^ cf r 0) 0 = nxt r d := by
  unfold regK nxt ofF
  refine List.map_congr_left fun j hj => ?_
  rw [h, if_neg (by omega), zero_gm]
/-- What the copy and the 0 behind it leave. -/
theorem reg_shift (r : List UInt8) (x : UInt8) (hr : r.length = 64) : (splice r 0 (r.drop 1)).set 63 0 = regK r x 0 := by
  have hs : splice r 0 (r.drop 1) = r.drop 1 ++ r.drop 63 := by
    unfold splice
    rw [List.take_zero, List.nil_append, Nat.zero_add, List.length_drop, hr]
  refine ext_cf (by rw [List.length_set, hs, regK_length, List.length_append, List.length_drop, List.length_drop, hr]) ?_
  funext j
  have hdr : ∀ m i, cf (r.drop m) i = cf r (m + i) := fun m i => by
    unfold cf; rw [List.getD_eq_getElem?_getD, List.getD_eq_getElem?_getD, List.getElem?_drop]
  rw [cf_set (by rw [hs, List.length_append, List.length_drop, List.length_drop, hr]; decide), hs, cf_append]
  unfold regK
  rw [cf_ofF]
  show (if j = 63 then 0 else cf (r.drop 1) j ^^^ shn _ (cf (r.drop 63)) j) = _
  rw [shn_apply, List.length_drop, hr, hdr, hdr]
  by_cases h1 : j = 63
  · subst h1
    rw [if_pos rfl, if_pos (by decide), if_neg (by omega), xzero]
    exact (cf_ge (by omega)).symm
  · rw [if_neg h1]
    by_cases h2 : j < 63
    · rw [if_pos h2, if_pos (by omega), if_neg (by omega), xzero, xzero, Nat.add_comm]
    · rw [if_neg h2, if_neg (by omega), cf_ge (l := r) (by omega), cf_ge (l := r) (by omega)]; exact xself 0

set_option maxRecDepth 100000 in
set_option maxHeartbeats 16000000 in
theorem enc_ok (s : ByteArray) (w : World) (hs : s.size = 191) :
    Calls Tryz.prog 78 #[.string s] w (Ret (.tuple #[.string (bs (par (lb s))), .int .i64 0]) w) := by
  have hne : ((s.size : Int) != 191) = false := by simp; omega
  obtain ⟨B, hB⟩ : ∃ B, B = w.heap.size := ⟨_, rfl⟩
  have HB := Lib.hid hB; have HSZ := Lib.hid hs
  have hs191 : s.size ≤ 191 := by omega
  clear hB hs
  have hz := (zero_of_info (P := Tryz.prog) (t := 199) (v := .agg (Array.replicate 64 (.int .u8 0))) (n := 64) (by kernel_rfl)).1
  go_enter Tryz.func78, Tryz.ntmps78
  go_wp2_with fail
  go_step3
  go_wp2_with fail
  (with_reducible refine (new_any _).mono ?_)
  rintro e w1 ⟨rfl, f1, s1⟩
  rw [← HB.out] at f1 ⊢
  have F1 := Lib.hid f1; have S1 := Lib.hid s1; have HLT := Lib.hid f1.lt
  clear f1 s1
  go_wp2_with fail
  (with_reducible refine (gen_any _).mono ?_)
  rintro e w2 ⟨rfl, s2⟩
  have F2 := Lib.hid (F1.out.same s2 (by simp)); have S2 := Lib.hid (S1.out.trans_nil s2)
  obtain ⟨T, hT⟩ : ∃ T, T = w2.heap.size := ⟨_, rfl⟩
  have hBT : B < T := by have := HLT.out; have := s2.size; omega
  clear s2 F1 S1
  go_wp2_with fail
  have at0 := arr_zero w2
  rw [← tapK_zero, ← hT] at at0
  have sa0 : Same [] w2 (w2.alloc (.cells (Array.replicate 64 (.int .u8 0)) 199)) := (Same.refl [] w2).alloc _
  have AT := Lib.hid at0; have S3 := Lib.hid (S2.out.trans_nil sa0); have F3 := Lib.hid (F2.out.same sa0 (by simp))
  have HTZ := Lib.hid (show T < (w2.alloc (.cells (Array.replicate 64 (.int .u8 0)) 199)).heap.size by rw [World.size_alloc, hT]; omega)
  have hwT : w.heap.size ≤ T := by have := HB.out; omega
  rw [← hT]
  clear at0 sa0 F2 S2 hT
  have hgs : (genS.size : Int) = 65 := by rw [genS_size]; rfl
  go_loopw [18] (fun i wr => ∃ k : Nat, k ≤ 64 ∧ i = .int .i64 k ∧ ArrAt wr T (tapK k) ∧ T < wr.heap.size ∧ FieldAt wr B ∧ Same [] w wr) (fun i _ => 64 - (intOf i).toNat)
  case atStart => exact ⟨0, Nat.zero_le _, rfl, AT.out, HTZ.out, F3.out, S3.out⟩
  case round =>
    obtain ⟨k, hk, rfl, ha, htz, hf, hsm⟩ := hrel
    by_cases h1 : k < 64
    · have h1i : (k : Int) < 64 := by omega
      have hg1 : (0 : Int) ≤ 63 - (k : Int) := by omega
      have hg2 : 63 - (k : Int) < (genS.size : Int) := by rw [hgs]; omega
      have hg3 : (63 - (k : Int)).toNat = 63 - k := by omega
      have hbt := bt_at genS (63 - k) (by rw [genS_size]; omega)
      obtain ⟨y, hy⟩ : ∃ y, y = cf gen (63 - k) := ⟨_, rfl⟩
      rw [show cf (lb genS) (63 - k) = y from hy.symm] at hbt
      have c0 := ha.cell k h1
      have f0 := ha.free k
      have hset := tapK_set k h1
      rw [← hy] at hset
      have HST := Lib.hid hset; have HA := Lib.hid ha; have HF := Lib.hid hf; have HS := Lib.hid hsm
      clear hset hy ha hf hsm
      go_wp2_with fail
      have ha2 := HA.out.set k y
      rw [HST.out] at ha2
      have hs2 : Same [T] wr (wr.setCell ⟨T, k, none⟩ (.int .u8 (y.toNat : Int))) := (Same.refl [T] wr).setCell (by simp) _
      go_roundw
      case rel => exact ⟨k + 1, by omega, by go_num, ha2, Nat.lt_of_lt_of_le htz hs2.size, HF.out.same hs2 (by simp; omega), HS.out.trans hs2 (fun x hx hlt => by simp at hx; omega)⟩
      case measure => simp [intOf]; omega
    · obtain rfl : k = 64 := by omega
      have h1i : ¬ ((64 : Nat) : Int) < 64 := by omega
      obtain ⟨w4, rfl⟩ : ∃ w4 : World, w4 = wr := ⟨_, rfl⟩
      obtain ⟨R, hR⟩ : ∃ R, R = w4.heap.size := ⟨_, rfl⟩
      have hTR : T < R := by omega
      have ar0 := arr_zero w4
      have sa0 : Same [] w4 (w4.alloc (.cells (Array.replicate 64 (.int .u8 0)) 199)) := (Same.refl [] w4).alloc _
      have AR := Lib.hid (hR ▸ ar0); have A2 := Lib.hid (ha.same sa0 (by simp)); have S5 := Lib.hid (hsm.trans_nil sa0); have F5 := Lib.hid (hf.same sa0 (by simp))
      have HRZ := Lib.hid (show R < (w4.alloc (.cells (Array.replicate 64 (.int .u8 0)) 199)).heap.size by rw [World.size_alloc, hR]; omega)
      have HRR := Lib.hid hR
      clear ha hf hsm ar0 sa0 hR AT S3 F3 HTZ h1
      go_wp2_with fail
      rw [← HRR.out]
      go_step3
      go_wp2_with fail
      go_loopw [30] (fun i wr => ∃ k : Nat, k ≤ s.size ∧ i = .int .i64 k ∧ ArrAt wr R (par ((lb s).take k)) ∧ ArrAt wr T (tapK 64) ∧ R < wr.heap.size ∧ FieldAt wr B ∧ Same [] w wr) (fun i _ => s.size - (intOf i).toNat)
      case atStart => exact ⟨0, Nat.zero_le _, rfl, AR.out, A2.out, HRZ.out, F5.out, S5.out⟩
      case round =>
        obtain ⟨k, hk, rfl, ha, ht, hrz, hf, hsm⟩ := hrel
        by_cases h1 : k < s.size
        · have h1i : (k : Int) < (s.size : Int) := by omega
          have hbd := bt_at s k h1
          obtain ⟨r, hr⟩ : ∃ r, r = par ((lb s).take k) := ⟨_, rfl⟩
          rw [← hr] at ha
          have c0 := ha.cell 0 (by decide)
          have f0 := ha.free 0
          have f63 := ha.free 63
          obtain ⟨y, hy⟩ : ∃ y, y = cf r 0 := ⟨_, rfl⟩
          rw [← hy] at c0
          obtain ⟨d, hd⟩ : ∃ d, d = cf (lb s) k := ⟨_, rfl⟩
          rw [← hd] at hbd
          have HR := Lib.hid hr; have HY := Lib.hid hy; have HD := Lib.hid hd; have HA := Lib.hid ha; have HT := Lib.hid ht; have HF := Lib.hid hf; have HS := Lib.hid hsm; have HZ := Lib.hid hrz
          clear hr hy hd ha ht hf hsm hrz
          obtain ⟨x, hx⟩ : ∃ x, x = d ^^^ y := ⟨_, rfl⟩
          have hxx : bits .xor .u8 (d.toNat : Int) (y.toNat : Int) = (x.toNat : Int) := by rw [u8_xor, hx]
          have HX := Lib.hid hx
          clear hx
          go_wp2_with fail
          go_quiet (fail)
          all_goals
            go_wp2_with fail
            go_region_law (refine step_copy_splice rfl (.tmp 39) (.tmp 40) 33 33 rfl 5 rfl (by kernel_rfl) (some ⟨R, 0, none⟩) (some ⟨R, 1, none⟩) 64 64 63 63 (by rfl) (by rfl) R 0 (u8l r) 199 HA.out.1 (u8l (r.drop 1)) (by rw [u8l_length, List.length_drop, HA.out.2]; rfl) (fun _ => ⟨rfl, ⟨R, 1, none⟩, rfl, arr_src HA.out⟩) (by rw [u8l_length, u8l_length, List.length_drop, HA.out.2]; decide) (u8l_one _) R _ (Below.refl _ _) (Nat.le_refl _) ?_; intro w5 hg5 hb5)
            have ha5 : ArrAt w5 R (splice r 0 (r.drop 1)) := arr_splice HA.out hg5.out
            have f63 := ha5.free 63
            have c63 := ha5.cell 63 (by decide)
            obtain ⟨y63, hy63⟩ : ∃ y63, y63 = cf (splice r 0 (r.drop 1)) 63 := ⟨_, rfl⟩
            rw [← hy63] at c63
            clear hy63
            have hs5 : Same [] w w5 := same_below (HS.out.drewN nq |>.trans_nil (Same.refl _ _).drew) hb5 (by have := HB.out; omega)
            have ht5 : ArrAt w5 T (tapK 64) := ⟨(hb5.block T (by omega)).trans HT.out.1, HT.out.2⟩
            have hf5 : FieldAt w5 B := (hb5.block B (by omega)).trans HF.out
            have A5 := Lib.hid ha5; have S5 := Lib.hid hs5; have T5 := Lib.hid ht5; have FF5 := Lib.hid hf5; have hz5 := hb5.size
            clear ha5 hs5 ht5 hf5 hg5 hb5
            by_cases hx0 : x = 0
            · have hxb : ((x.toNat : Int) == 0) = true := by rw [hx0]; rfl
              have HX0 := Lib.hid hx0
              clear hx0
              go_wp2_with fail
              have ha6 := A5.out.set 63 0
              rw [reg_shift r x HA.out.2] at ha6
              have hs6 : Same [R] w5 (w5.setCell ⟨R, 63, none⟩ (.int .u8 0)) := (Same.refl [R] w5).setCell (by simp) _
              have hn6 : regK r x 0 = par ((lb s).take (k + 1)) := by
                have h1' : k < (lb s).length := by rw [lb_length]; exact h1
                have e0 : x = cf (lb s) k ^^^ cf r 0 := by rw [HX.out, HD.out, HY.out]
                have e1 := regK_nought r (cf (lb s) k) (by rw [← e0]; exact HX0.out)
                rw [← e0] at e1
                rw [e1, take_snoc _ _ h1', par_snoc, ← HR.out]
              go_roundw
              case rel => exact ⟨k + 1, by omega, by go_num, by rw [← hn6]; exact ha6, T5.out.same hs6 (by simp; omega), Nat.lt_of_lt_of_le (Nat.lt_of_lt_of_le HZ.out hz5) hs6.size, FF5.out.same hs6 (by simp; omega), S5.out.trans hs6 (fun y hy hlt => by simp at hy; have := HB.out; omega)⟩
              case measure => simp [intOf]; omega
            · have hxb : ((x.toNat : Int) == 0) = false := u8_ne0 hx0
              clear hx0
              have ht6 : ArrAt (w5.setCell ⟨R, 63, none⟩ (.int .u8 0)) T (tapK 64) := T5.out.same ((Same.refl [R] w5).setCell (by simp) _) (by simp; omega)
              have HT6 := Lib.hid ht6
              have hag : (Tryz.prog.info? 199).map (·.size) = some (u8l (tapK 64)).length := by rw [u8l_length, tapK_length]; kernel_rfl
              have HAG := Lib.hid hag
              clear hag ht6
              go_wp2_with (refine wpList_load_mid rfl 199 _ rfl T 0 rfl (u8l (tapK 64)) _ (arr_range HT6.out) Tryz.underlying199 rfl HAG.out ?_)
              have ha6 := A5.out.set 63 0
              rw [reg_shift r x HA.out.2] at ha6
              have hs6 : Same [R] w5 (w5.setCell ⟨R, 63, none⟩ (.int .u8 0)) := (Same.refl [R] w5).setCell (by simp) _
              have hz6 : R < (w5.setCell ⟨R, 63, none⟩ (.int .u8 0)).heap.size := Nat.lt_of_lt_of_le (Nat.lt_of_lt_of_le HZ.out hz5) hs6.size
              have A6 := Lib.hid ha6; have Z6 := Lib.hid hz6
              have FF6 := Lib.hid (FF5.out.same hs6 (by simp; omega)); have S6 := Lib.hid (S5.out.trans hs6 (fun y hy hlt => by simp at hy; have := HB.out; omega))
              clear ha6 hs6 hz6
              go_loopw [46] (fun i wr => ∃ q : Nat, q ≤ 64 ∧ i = .int .i64 q ∧ ArrAt wr R (regK r x q) ∧ ArrAt wr T (tapK 64) ∧ R < wr.heap.size ∧ FieldAt wr B ∧ Same [] w wr) (fun i _ => 64 - (intOf i).toNat)
              case atStart => exact ⟨0, Nat.zero_le _, rfl, A6.out, HT6.out, Z6.out, FF6.out, S6.out⟩
              case round =>
                obtain ⟨q, hq, rfl, ha, ht, hrz, hf, hsm⟩ := hrel
                by_cases h3 : q < 64
                · have h3i : (q : Int) < 64 := by omega
                  obtain ⟨t, ht'⟩ : ∃ t, t = cf (tapK 64) q := ⟨_, rfl⟩
                  have hcq : (u8l (tapK 64)).toArray[q]? = some (.int .u8 (t.toNat : Int)) := by
                    rw [ht']; exact u8l_at q (by rw [tapK_length]; exact h3)
                  have hidx := idx64 (u8l (tapK 64)).toArray q _ hcq h3
                  have c0 := ha.cell q h3
                  have f0 := ha.free q
                  obtain ⟨v, hv⟩ : ∃ v, v = cf (regK r x q) q := ⟨_, rfl⟩
                  rw [← hv] at c0
                  obtain ⟨z, hz'⟩ : ∃ z, z = gm x t := ⟨_, rfl⟩
                  have HM := Lib.hid (fmul_any B x t wr.drew hf.drew)
                  rw [← hz'] at HM
                  have HV := Lib.hid hv; have HT' := Lib.hid ht'; have HZ' := Lib.hid hz'; have HAq := Lib.hid ha; have HTq := Lib.hid ht; have HFq := Lib.hid hf; have HSq := Lib.hid hsm; have HZq := Lib.hid hrz
                  clear hv ht' hz' ha ht hf hsm hcq hrz
                  go_wp2_with fail
                  go_region_law (first | (go_simp; go_at_call 108; (with_reducible refine HM.out.mono ?_); rintro e w' ⟨rfl, nd, rfl⟩))
                  all_goals
                    go_wp2_with fail
                    have hown := (HAq.out.drewN (1 + nd)).set q (v ^^^ z)
                    have hreg := regK_set r x q h3
                    rw [← cf_tap q h3, ← HT'.out, ← HZ'.out, ← HV.out] at hreg
                    rw [hreg, ← u8_xor] at hown
                    have hss : Same [R] wr ((wr.drewN (1 + nd)).setCell ⟨R, q, none⟩ (.int .u8 (bits .xor .u8 (v.toNat : Int) (z.toNat : Int)))) := ((Same.refl [R] wr).drewN _).setCell (fun _ => by simp) _
                    go_roundw
                    case rel => exact ⟨q + 1, by omega, by go_num, hown, HTq.out.same hss (by simp; omega), Nat.lt_of_lt_of_le HZq.out hss.size, HFq.out.same hss (by simp; omega), HSq.out.trans hss (fun y hy hlt => by simp at hy; have := HB.out; omega)⟩
                    case measure => simp [intOf]; omega
                · obtain rfl : q = 64 := by omega
                  have h3i : ¬ ((64 : Nat) : Int) < 64 := by omega
                  have HAq := Lib.hid ha; have HTq := Lib.hid ht; have HFq := Lib.hid hf; have HSq := Lib.hid hsm; have HZq := Lib.hid hrz
                  clear ha ht hf hsm hrz
                  go_wp2_with fail
                  have hn6 : regK r x 64 = par ((lb s).take (k + 1)) := by
                    have h1' : k < (lb s).length := by rw [lb_length]; exact h1
                    have e0 : x = cf (lb s) k ^^^ cf r 0 := by rw [HX.out, HD.out, HY.out]
                    have e1 := regK_all r (cf (lb s) k)
                    rw [← e0] at e1
                    rw [e1, take_snoc _ _ h1', par_snoc, ← HR.out]
                  go_roundw
                  case rel => exact ⟨k + 1, by omega, by go_num, by rw [← hn6]; exact HAq.out, HTq.out, HZq.out, HFq.out, HSq.out⟩
                  case measure => simp [intOf]; omega
        · obtain rfl : k = s.size := by omega
          have h1i : ¬ (s.size : Int) < (s.size : Int) := by omega
          have hcv := ha.row.str
          have HCV := Lib.hid hcv
          have HSq := Lib.hid hsm
          have htk : (lb s).take s.size = lb s := by rw [← lb_length s, List.take_length]
          rw [htk] at hcv
          clear ha ht hf hsm hrz h1 hk
          go_wp2_with fail
          go_ret2
          exact ⟨rfl, HSq.out⟩
end Go.Proofs.YtpkpfebhdgbgbaaGreatDoor
namespace Go.Proofs.YtpkpfebhdgbgbaaGreatDoor
open Go.RowKit
set_option linter.unusedSimpArgs false
set_option linter.unusedVariables false

def parS (s : ByteArray) : ByteArray := bs (par (lb s))
theorem parS_size (s : ByteArray) : (parS s).size = 64 := by unfold parS; rw [size_bs, par_length]
def wordS (s : ByteArray) : ByteArray := s ++ parS s
theorem wordS_size (s : ByteArray) (h : s.size = 191) : (wordS s).size = 255 := by unfold wordS; rw [ByteArray.size_append, parS_size, h]
theorem lb_wordS (s : ByteArray) : lb (wordS s) = lb s ++ par (lb s) := by unfold wordS parS; rw [lb_append, lb_bs]
theorem wordS_isW (s : ByteArray) (h : s.size = 191) : IsW (lb (wordS s)) := by rw [lb_wordS]; exact word_is _ (by rw [lb_length, h])
theorem wordS_is (s : ByteArray) (h : s.size = 191) : isB (wordS s) = true := isB_true.2 (wordS_isW s h)

theorem enc_k (s : ByteArray) (w : World) (hs : s.size = 191) :
    Calls Tryz.prog 78 #[.string s] w (Ret (.tuple #[.string (parS s), .int .i64 0]) w) := enc_ok s w hs
theorem fullS_app (s : ByteArray) (n : Nat) (h : s.size ≤ n) : s ++ zerosS (n - s.size) = fullS s n := by
  unfold fullS fullL zerosS; rw [lb_length, if_neg (by omega), ← lb_inj, lb_append, lb_bs, lb_bs]
theorem par_zeros (n : Nat) : par (List.replicate n 0) = List.replicate 64 0 := by
  induction n with
  | zero => rfl
  | succ n ih =>
    rw [List.replicate_succ', par_snoc, ih]
    refine List.ext_getElem (by rw [nxt_length]; simp) fun i h1 h2 => ?_
    have hc : ∀ j, cf (List.replicate 64 0) j = 0 := fun j => by rw [cf_zeros]; rfl
    rw [List.getElem_replicate, ← cf_lt h1]
    unfold nxt
    rw [cf_ofF, hc, hc, xself, zero_gm, xself, ite_self]
theorem parS_zeros (n : Nat) : parS (zerosS n) = zerosS 64 := by unfold parS zerosS; rw [lb_bs, par_zeros]
theorem is_zeros : isB (zerosS 255) = true := isB_true.2 (by
  unfold zerosS; rw [lb_bs]; exact ⟨List.length_replicate, fun n _ => hv_zeros 255 (ex n)⟩)
def Zn (n : Nat) : Array Value := Array.replicate n (.int .u8 0)
theorem zn_list (n : Nat) : (Zn n).toList = u8l (List.replicate n 0) := by unfold Zn u8l; rw [Array.toList_replicate, List.map_replicate]; rfl
theorem conv_n {n : Nat} (hn : n < 1000) {W w2 : World} (hs : Same [] (W.alloc (.cells (Zn n) 5)) w2) : (convert 33 9 (.slice (some ⟨W.heap.size, 0, none⟩) n n)).run Tryz.prog w2 = .ok (.string (zerosS n)) w2 := by
  have h : (W.alloc (.cells (Zn n) 5)).ownsRow 0 5 1 (.slice (some ⟨W.heap.size, 0, none⟩) n n) n (Zn n).toList := row_new W (Zn n) 5 n (by simp [Zn]) (by unfold maxLen; omega)
  rw [zn_list] at h
  exact OwnB.str (B := 0) (l := List.replicate n 0) (by unfold OwnB; rw [List.length_replicate]; exact own_same h hs (fun _ _ => by simp))
end Go.Proofs.YtpkpfebhdgbgbaaGreatDoor
