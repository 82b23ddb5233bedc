/- The check sum in the program, exactly: Rows, more, Sum, Seal, Open. No condition but that bytes are not too many. -/
import Derived.Test.YtpkpfebhdgbgbaaGreatDoorSCrcP
namespace Go.Proofs.YtpkpfebhdgbgbaaGreatDoor.S
open Go.RowKit
set_option linter.unusedSimpArgs false
set_option linter.unusedVariables false

/-- The first k rows are laid. -/
def RowsK (k : Nat) (vs : Array Value) : Prop := Words vs ∧ ∀ i, i < k → vs[i]? = some (.int .u32 (rowN i : Nat))
theorem RowsK.set {k : Nat} {vs : Array Value} (h : RowsK k vs) (hk : k < 256) : RowsK (k + 1) (vs.setIfInBounds k (.int .u32 (rowN k : Nat))) := by
  refine ⟨h.1.set k (Int.natCast_nonneg _) (by have := rowN_lt k; omega), fun i hi => ?_⟩
  rw [Array.getElem?_setIfInBounds]
  by_cases h2 : k = i
  · subst h2; rw [if_pos rfl, if_pos (by rw [h.1.1]; exact hk)]
  · rw [if_neg h2, h.2 i (by omega)]
theorem step_hi {n : Nat} (hn : n < 4294967296) (h : 2147483648 ≤ n) : bits .xor .u32 ((n : Int) * 2 % 4294967296) 79764919 = ((stepR n : Nat) : Int) := by
  unfold stepR; rw [if_pos h, ← u32_xor_nat _ _ (by omega) (by decide)]; congr 1
theorem step_lo {n : Nat} (h : ¬ 2147483648 ≤ n) : (n : Int) * 2 = ((stepR n : Nat) : Int) := by
  unfold stepR; rw [if_neg h]; omega
def RowsP (w : World) (e : Ending) (w' : World) : Prop := ∃ vs : Array Value, RowsK 256 vs ∧ e = .returned (.agg vs) ∧ Same [] w w'
def RowsJ (w : World) (k : Nat) (wr : World) : Prop := ∃ vs : Array Value, RowsK k vs ∧ wr.heap[w.heap.size + 1]? = some (.cells vs 275 (0, 0)) ∧ wr.heap[w.heap.size]? = some (.cells (Array.replicate 256 (.int .u32 0)) 275 (0, 0)) ∧ Same [] w wr

set_option maxHeartbeats 1000000 in
set_option maxRecDepth 100000 in
theorem rows_fn (w : World) : Calls Tryz.prog 179 #[] w (RowsP w) := by
  have hz := (zero_of_info (P := Tryz.prog) (t := 275) (v := .agg (Array.replicate 256 (.int .u32 0))) (n := 256) (by kernel_rfl)).1
  go_enter Tryz.func179, Tryz.ntmps179
  go_wp2_with fail
  go_loopw [5] (fun i wr => ∃ k : Nat, k ≤ 256 ∧ i = .int .i64 k ∧ RowsJ w k wr) (fun i _ => 256 - (intOf i).toNat)
  case atStart =>
    refine ⟨0, by omega, rfl, _, ⟨Words.zero, fun i h => absurd h (Nat.not_lt_zero _)⟩, ?_, ?_, ((Same.refl [] w).alloc _).alloc _⟩
    · have := heap_alloc_new (w.alloc (.cells (Array.replicate 256 (.int .u32 0)) 275)) (.cells (Array.replicate 256 (.int .u32 0)) 275)
      rwa [World.size_alloc] at this
    · exact (Below.heap_alloc _ _ _ (by simp)).trans (heap_alloc_new _ _)
  case round =>
    obtain ⟨k, hk, rfl, hi⟩ := hrel
    have HI := Lib.hid hi
    clear hi
    by_cases hk1 : k < 256
    · have hk2 : (k : Int) < 256 := by omega
      go_wp2_with fail
      obtain ⟨wo, rfl⟩ : ∃ wo : World, wo = wr := ⟨_, rfl⟩
      go_loopw [11, 3] (fun j x wr => ∃ m : Nat, m ≤ 8 ∧ j = .int .i64 m ∧ x = .int .u32 (itR m (k * 16777216) : Nat) ∧ wr = wo) (fun j _ _ => 8 - (intOf j).toNat)
      case atStart => exact ⟨0, by omega, rfl, by show _ = Value.int .u32 ((k * 16777216 : Nat) : Int); congr 1, by trivial⟩
      case round =>
        obtain ⟨m, hm, rfl, hx, rfl⟩ := hrel
        obtain ⟨n, hn⟩ : ∃ n, n = itR m (k * 16777216) := ⟨_, rfl⟩
        have hn9 : n < 4294967296 := by rw [hn]; exact itR_lt (by omega) m
        rw [← hn] at hx
        subst hx
        have hnx : itR (m + 1) (k * 16777216) = stepR n := by rw [hn]; rfl
        have HNX := Lib.hid hnx; have HN9 := Lib.hid hn9; have HN := Lib.hid hn
        have hhi := u32_high n hn9
        clear hnx hn hn9
        by_cases hm1 : m < 8
        · have hm2 : (m : Int) < 8 := by omega
          by_cases hb : 2147483648 ≤ n
          · rw [decide_eq_true hb] at hhi
            have hst := step_hi HN9.out hb
            go_wp2_with fail
            go_roundw
            case rel => exact ⟨m + 1, by omega, by go_num, by rw [HNX.out], by trivial⟩
            case measure => simp [intOf]; omega
          · rw [decide_eq_false hb] at hhi
            have hst := step_lo hb
            have HST := Lib.hid hst
            go_wp2_with fail
            go_roundw
            case rel => exact ⟨m + 1, by omega, by go_num, by rw [HNX.out, ← HST.out] <;> first | rfl | (rw [HST.out]), by trivial⟩
            case measure => simp [intOf]; omega
        · obtain rfl : m = 8 := by omega
          have hm2 : ¬ ((8 : Nat) : Int) < 8 := by omega
          have hrn : n = rowN k := HN.out
          obtain ⟨vs, v1, v2, v3, v4⟩ := HI.out
          have hc : wr.cell? ⟨w.heap.size + 1, k, none⟩ = vs[k]? := cell_of v2 k
          obtain ⟨n', hn', _⟩ := v1.1.2 k hk1
          rw [hn'] at hc
          have hf := free_of v2 k
          have V1 := Lib.hid v1; have V2 := Lib.hid v2; have V3 := Lib.hid v3; have V4 := Lib.hid v4
          have HRN := Lib.hid hrn
          clear v1 v2 v3 v4 hn' hrn hhi
          go_wp2_with fail
          go_roundw
          case rel =>
            refine ⟨k + 1, by omega, by go_num, _, by rw [HRN.out]; exact V1.out.set hk1, set_same V2.out _, ?_, ?_⟩
            · rw [set_other _ (by omega)]; exact V3.out
            · exact V4.out.setCell (by simp) _
          case measure => simp [intOf]; omega
    · obtain rfl : k = 256 := by omega
      have hk2 : ¬ (256 : Int) < 256 := by omega
      obtain ⟨vs, v1, v2, v3, v4⟩ := HI.out
      have V1 := Lib.hid v1; have V2 := Lib.hid v2; have V3 := Lib.hid v3; have V4 := Lib.hid v4
      clear v1 v2 v3 v4
      have hsz : (Tryz.prog.info? 275).map (·.size) = some 256 := by kernel_rfl
      go_wp2_with (first
        | (refine wpList_load_mid rfl 275 _ rfl (w.heap.size + 1) 0 rfl vs.toList _ (fun j v hv => by rw [Nat.zero_add, cell_of V2.out]; simpa using hv) Tryz.underlying275 rfl (by rw [Array.length_toList, V1.out.1.1]; exact hsz) ?_)
        | (refine wpList_store_row rfl 275 _ _ rfl w.heap.size _ rfl rfl V3.out (by rw [V1.out.1.1]; exact hsz) (by rw [V1.out.1.1]; simp) V1.out.1.one ?_)
        | go_in)
      have hr := setRow_same (c' := vs) V3.out
      have hs := V4.out.setRow (g := w.heap.size) (by simp) vs
      refine bodyPost_ret (v := .agg vs) ?_ rfl ⟨vs, V1.out, rfl, hs⟩
      have hl := run_loadVar_row (P := Tryz.prog) (wr.setRow w.heap.size vs) w.heap.size _ 275 vs (0, 0) _ hr Tryz.underlying275 rfl (by rw [V1.out.1.1]; exact hsz)
      clear hsz
      simp only [results, Tryz.results179]
      simp [asAddr, Result.andThen, hl]

theorem upd_at {x b : Nat} (hx : x < 4294967296) (hb : b < 256) : bits .xor .u8 ((x : Int) / 16777216) (b : Int) = ((x / 16777216 ^^^ b : Nat) : Int) := by
  rw [← u8_xor_nat _ _ (by omega) hb]; congr 1
theorem upd_to {x b : Nat} : bits .xor .u32 ((x : Int) * 256 % 4294967296) ((rowN (x / 16777216 ^^^ b) : Nat) : Int) = ((updN x b : Nat) : Int) := by
  unfold updN; rw [← u32_xor_nat _ _ (by omega) (rowN_lt _)]; congr 1
set_option maxHeartbeats 1000000 in
set_option maxRecDepth 100000 in
theorem more_fn (x : Nat) (s : ByteArray) (g off c : Nat) (w : World) (hx1 : x < 4294967296)
    (hc : w.cell? ⟨g, off, none⟩ = some (.string s)) (hlc : 1 ≤ c) (hz : s.size < 1099511627776) :
    Calls Tryz.prog 172 #[.int .u32 x, .slice (some ⟨g, off, none⟩) 1 c] w (Ret (.int .u32 (regN x s s.size : Nat)) w) := by
  have hzv := (zero_of_info (P := Tryz.prog) (t := 275) (v := .agg (Array.replicate 256 (.int .u32 0))) (n := 256) (by kernel_rfl)).1
  have HC := Lib.hid hc; have HZ := Lib.hid hz; have HX := Lib.hid hx1
  have hsz : (Tryz.prog.info? 275).map (·.size) = some 256 := by kernel_rfl
  clear hc
  go_enter Tryz.func172, Tryz.ntmps172
  go_wp2_with fail
  (with_reducible refine (rows_fn _).mono ?_)
  rintro e w1 ⟨vs, hv, rfl, s1⟩
  have V := Lib.hid hv; have S1 := Lib.hid s1
  clear hv s1
  go_wp2_with (first
    | (refine wpList_store_row rfl 275 _ _ rfl w1.heap.size _ rfl rfl (heap_alloc_new w1 _) (by rw [V.out.1.1]; exact hsz) (by rw [V.out.1.1]; simp) V.out.1.one ?_)
    | go_in)
  have hb : ((w1.alloc (.cells (Array.replicate 256 (.int .u32 0)) 275)).setRow w1.heap.size vs).heap[w1.heap.size]? = some (.cells vs 275 (0, 0)) := setRow_same (heap_alloc_new w1 _)
  have hs : Same [] w ((w1.alloc (.cells (Array.replicate 256 (.int .u32 0)) 275)).setRow w1.heap.size vs) :=
    (S1.out.alloc _).setRow (fun h => by have := S1.out.size; omega) vs
  generalize ((w1.alloc (.cells (Array.replicate 256 (.int .u32 0)) 275)).setRow w1.heap.size vs) = w2 at *
  have HB := Lib.hid hb; have HS := Lib.hid hs
  clear hb hs hsz hzv S1
  go_loopw [12, 0] (fun i x' wr => ∃ k : Nat, k ≤ 1 ∧ i = .int .i64 k ∧ x' = .int .u32 ((if k = 0 then x else regN x s s.size) : Nat) ∧ wr = w2) (fun i _ _ => 1 - (intOf i).toNat)
  case atStart => exact ⟨0, by omega, rfl, rfl, by trivial⟩
  case round =>
    obtain ⟨k, hk, rfl, hx, rfl⟩ := hrel
    by_cases hk1 : k < 1
    · obtain rfl : k = 0 := by omega
      rw [if_pos rfl] at hx
      subst hx
      have hk2 : ((0 : Nat) : Int) < 1 := by omega
      have hcell := HS.out.cell HC.out (by simp)
      go_wp2_with fail
      obtain ⟨wo, rfl⟩ : ∃ wo : World, wo = wr := ⟨_, rfl⟩
      go_loopw [18, 0] (fun j x' wr => ∃ m : Nat, m ≤ s.size ∧ j = .int .i64 m ∧ x' = .int .u32 (regN x s m : Nat) ∧ wr = wo) (fun j _ _ => s.size - (intOf j).toNat)
      case atStart => exact ⟨0, by omega, rfl, rfl, by trivial⟩
      case round =>
        obtain ⟨m, hm, rfl, hx, rfl⟩ := hrel
        obtain ⟨n, hn⟩ : ∃ n, n = regN x s m := ⟨_, rfl⟩
        have hn9 : n < 4294967296 := by rw [hn]; exact regN_lt HX.out s m
        rw [← hn] at hx
        subst hx
        by_cases hm1 : m < s.size
        · have hm2 : (m : Int) < (s.size : Int) := by omega
          have hbyte := byteOf_at s m hm1
          have hbl : byteOf s m < 256 := UInt8.toNat_lt _
          have hnx : regN x s (m + 1) = updN n (byteOf s m) := by rw [hn]; rfl
          have hq := upd_at hn9 hbl
          have hto := upd_to (x := n) (b := byteOf s m)
          have hq3 := ix_lt hn9 hbl
          obtain ⟨q, hqq⟩ : ∃ q, q = n / 16777216 ^^^ byteOf s m := ⟨_, rfl⟩
          rw [← hqq] at hq hto hq3
          have hq4 : (q : Int) < 256 := by omega
          have hcq : wr.cell? ⟨w1.heap.size, q, none⟩ = some (.int .u32 (rowN q : Nat)) := (cell_of HB.out q).trans (V.out.2 q hq3)
          obtain ⟨u, hu⟩ : ∃ u, u = rowN q := ⟨_, rfl⟩
          rw [← hu] at hcq hto
          obtain ⟨b, hbb⟩ : ∃ b, b = byteOf s m := ⟨_, rfl⟩
          rw [← hbb] at hbyte hq hto hnx hbl
          have HNX := Lib.hid hnx
          have hn9i : (n : Int) < 4294967296 := by omega
          clear hqq hn hu hbb hnx hn9
          go_wp2_with fail
          go_roundw
          case rel => exact ⟨m + 1, by omega, by go_num, by rw [HNX.out], by trivial⟩
          case measure => simp [intOf]; omega
        · obtain rfl : m = s.size := by omega
          have hm2 : ¬ (s.size : Int) < (s.size : Int) := by omega
          have HN := Lib.hid hn
          clear hn
          go_wp2_with fail
          go_roundw
          case rel => exact ⟨1, by omega, rfl, by rw [HN.out]; rfl, by trivial⟩
          case measure => simp [intOf]
    · obtain rfl : k = 1 := by omega
      rw [if_neg (by decide)] at hx
      subst hx
      have hk2 : ¬ ((1 : Nat) : Int) < 1 := by omega
      go_wp2_with fail
      go_ret
      exact ⟨rfl, HS.out⟩
theorem sum_fn (s : ByteArray) (g off c : Nat) (w : World) (hc : w.cell? ⟨g, off, none⟩ = some (.string s)) (hlc : 1 ≤ c) (hz : s.size < 1099511627776) :
    Calls Tryz.prog 156 #[.slice (some ⟨g, off, none⟩) 1 c] w (Ret (.int .u32 (sumN s : Nat)) w) := by
  have hm : ∀ W, W.cell? ⟨g, off, none⟩ = some (.string s) → Calls Tryz.prog 172 #[.int .u32 4294967295, .slice (some ⟨g, off, none⟩) 1 c] W (Ret (.int .u32 (sumN s : Nat)) W) := fun W hW => more_fn 4294967295 s g off c W (by decide) hW hlc hz
  have HM := Lib.hid hm; have HC := Lib.hid hc
  clear hm hc
  go_enter Tryz.func156, Tryz.ntmps156
  go_wp2_with fail
  (with_reducible refine (HM.out _ HC.out).mono ?_)
  rintro e w1 ⟨rfl, s1⟩
  have S1 := Lib.hid s1
  clear s1
  go_wp2_with fail
  go_ret
  exact ⟨rfl, S1.out⟩
theorem sum_one (s : ByteArray) (w : World) (hz : s.size < 1099511627776) :
    Calls Tryz.prog 156 #[.slice (some ⟨w.heap.size, 0, none⟩) 1 1] (w.alloc (.cells #[.string s] 9)) (Ret (.int .u32 (sumN s : Nat)) (w.alloc (.cells #[.string s] 9))) :=
  sum_fn s w.heap.size 0 1 _ (by rw [cell_of (heap_alloc_new w _)]; rfl) (Nat.le_refl _) hz
def sealS (s : ByteArray) : ByteArray := s ++ fourN (sumN s)
set_option maxRecDepth 100000 in
set_option maxHeartbeats 1000000 in
theorem seal_fn (s : ByteArray) (w : World) (hs : s.size < 1099511627776) : Calls Tryz.prog 126 #[.string s] w (Ret (.string (sealS s)) w) := by
  have HM := Lib.hid (sum_one s w hs)
  unfold sealS
  obtain ⟨x, hx⟩ : ∃ x, x = sumN s := ⟨_, rfl⟩
  have hx9 : x < 4294967296 := by rw [hx]; exact sumN_lt s
  rw [← hx] at HM ⊢
  clear hx
  go_enter Tryz.func126, Tryz.ntmps126
  go_wp2_with fail
  (with_reducible refine HM.out.mono ?_)
  rintro e w1 ⟨rfl, s1⟩
  have S1 := Lib.hid (((Same.refl [] w).alloc _).trans_nil s1)
  clear s1 HM
  have hrow := row_new w1 #[.int .u8 ((x : Int) / 16777216), .int .u8 ((x : Int) / 65536 % 256), .int .u8 ((x : Int) / 256 % 256), .int .u8 ((x : Int) % 256)] 5 4 rfl (by decide)
  have hu : (#[.int .u8 ((x : Int) / 16777216), .int .u8 ((x : Int) / 65536 % 256), .int .u8 ((x : Int) / 256 % 256), .int .u8 ((x : Int) % 256)] : Array Value).toList = u8s [x / 16777216, x / 65536 % 256, x / 256 % 256, x % 256] := rfl
  rw [hu] at hrow
  have hcv := own_string (P := Tryz.prog) (src := 33) (dst := 9) Tryz.underlying33 Tryz.underlying5 Tryz.underlying9 hrow
  obtain ⟨t, ht9⟩ : ∃ t, t = fourN x := ⟨_, rfl⟩
  rw [show strOf [x / 16777216, x / 65536 % 256, x / 256 % 256, x % 256] = fourN x from rfl, ← ht9] at hcv
  have ht4 : t.size = 4 := by rw [ht9]; exact size_fourN x
  have HT9 := Lib.hid ht9
  have hst : (s ++ t).size < 1099511627780 := by rw [ByteArray.size_append, ht4]; omega
  have HCV := Lib.hid hcv
  clear hrow hu hcv ht9
  go_wp2_with fail
  rw [HCV.out]
  clear HCV
  have hsa : ∀ a b : ByteArray, (a ++ b).size = a.size + b.size := fun a b => ByteArray.size_append
  go_wp2_with fail
  go_ret
  exact ⟨by rw [← HT9.out]; rfl, S1.out.alloc _⟩
/-- What Open answers. -/
def openE (s : ByteArray) : Int := if s.size < 4 then 10 else if sumN s ≠ 0 then 13 else 0
def openS (s : ByteArray) : ByteArray := if openE s = 0 then s.extract 0 (s.size - 4) else ⟨#[]⟩
set_option maxRecDepth 100000 in
set_option maxHeartbeats 1000000 in
theorem open_fn (s : ByteArray) (w : World) (hs : s.size < 1099511627776) : Calls Tryz.prog 128 #[.string s] w (Ret (.tuple #[.string (openS s), .int .i64 (openE s)]) w) := by
  have HM := Lib.hid (sum_one s w hs)
  obtain ⟨x, hx⟩ : ∃ x, x = sumN s := ⟨_, rfl⟩
  have hE : openE s = if s.size < 4 then 10 else if x ≠ 0 then 13 else 0 := by rw [hx]; rfl
  unfold openS
  rw [← hx] at HM
  clear hx
  by_cases h4 : s.size < 4
  · have h4i : (s.size : Int) < 4 := by omega
    have hE2 : openE s = 10 := by rw [hE, if_pos h4]
    rw [hE2, if_neg (by decide)]
    clear hE HM hE2
    go_enter Tryz.func128, Tryz.ntmps128
    go_wp2_with fail
    go_ret2
    exact ⟨rfl, Same.refl _ _⟩
  · have h4i : ¬ (s.size : Int) < 4 := by omega
    by_cases hx : x = 0
    · have hE2 : openE s = 0 := by rw [hE, if_neg h4, if_neg (fun h => h hx)]
      rw [if_pos hE2, hE2]
      subst hx
      obtain ⟨m, hm⟩ : ∃ m : Nat, m = s.size - 4 := ⟨_, rfl⟩
      have hmi : (s.size : Int) - 4 = (m : Int) := by omega
      have hml : (m : Int) ≤ (s.size : Int) := by omega
      rw [← hm]
      clear hE hm hE2
      go_enter Tryz.func128, Tryz.ntmps128
      go_wp2_with fail
      (with_reducible refine HM.out.mono ?_)
      rintro e w1 ⟨rfl, s1⟩
      have S1 := Lib.hid (((Same.refl [] w).alloc _).trans_nil s1)
      clear s1
      go_wp2_with fail
      go_ret2
      exact ⟨rfl, S1.out⟩
    · have hE2 : openE s = 13 := by rw [hE, if_neg h4, if_pos hx]
      rw [hE2, if_neg (by decide)]
      have hxi : ((x : Int) != 0) = true := by simp; omega
      clear hE hE2
      go_enter Tryz.func128, Tryz.ntmps128
      go_wp2_with fail
      (with_reducible refine HM.out.mono ?_)
      rintro e w1 ⟨rfl, s1⟩
      have S1 := Lib.hid (((Same.refl [] w).alloc _).trans_nil s1)
      clear s1
      go_wp2_with fail
      go_ret2
      exact ⟨rfl, S1.out⟩
end Go.Proofs.YtpkpfebhdgbgbaaGreatDoor.S
