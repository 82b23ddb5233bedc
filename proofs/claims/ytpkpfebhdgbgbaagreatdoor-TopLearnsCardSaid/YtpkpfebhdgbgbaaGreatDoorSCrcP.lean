/- The check sum: that it does not fail and turns nothing; Seal is the bytes and four more. No condition but that bytes are not too many. The check sum in plain Lean: its rows, its register; that bytes and their sum have the sum 0; that one other byte makes another sum. No program in sight. -/
import Derived.Test.YtpkpfebhdgbgbaaGreatDoorOpen
import Derived.Test.YtpkpfebhdgbgbaaGreatDoorBitsIn
import Derived.Test.YtpkpfebhdgbgbaaGreatDoorChecked
import Derived.BigQuiet
import Derived.Deep.QuietTactic
import Derived.BigRegion
import Derived.Deep.WholeRow
import Derived.Deep.MidRow
import Derived.Laws.Closers25b
namespace Go.Proofs.YtpkpfebhdgbgbaaGreatDoor.S
open Go.RowKit
set_option linter.unusedSimpArgs false
set_option linter.unusedVariables false

/-- 256 numbers of 32 bits. -/
def Words (vs : Array Value) : Prop := vs.size = 256 ∧ ∀ i, i < 256 → ∃ n : Int, vs[i]? = some (.int .u32 n) ∧ 0 ≤ n ∧ n < 4294967296
theorem Words.zero : Words (Array.replicate 256 (.int .u32 0)) := ⟨by simp, fun i hi => ⟨0, by simp [hi], by omega, by omega⟩⟩
theorem Words.set {vs : Array Value} (h : Words vs) (i : Nat) {n : Int} (h0 : 0 ≤ n) (h1 : n < 4294967296) : Words (vs.setIfInBounds i (.int .u32 n)) := by
  refine ⟨by simp [h.1], fun j hj => ?_⟩
  obtain ⟨m, hm, h2, h3⟩ := h.2 j hj
  by_cases e : i = j
  · subst e
    exact ⟨n, by rw [Array.getElem?_setIfInBounds_self_of_lt (by rw [h.1]; exact hj)], h0, h1⟩
  · exact ⟨m, by rw [Array.getElem?_setIfInBounds_ne e]; exact hm, h2, h3⟩
theorem Words.one {vs : Array Value} (h : Words vs) : vs.all (·.oneCell') = true := by
  rw [Array.all_eq_true]
  intro i hi
  obtain ⟨n, hn, _⟩ := h.2 i (by rw [← h.1]; exact hi)
  rw [Array.getElem?_eq_getElem hi, Option.some.injEq] at hn
  rw [hn]; rfl

theorem wrap_u32 (n : Int) : 0 ≤ IntKind.u32.wrap n ∧ IntKind.u32.wrap n < 4294967296 := by
  have := wrap_within .u32 n
  have e0 : IntKind.min .u32 = 0 := rfl
  have e1 : IntKind.max .u32 = 4294967295 := by decide
  omega

theorem wpList_store_row {P : Program} {ops : Array Oper} {rest : List Oper} {op : Oper} {a : Act} {w : World} {Q : Exit → Act → World → Prop} (hgd : op.guard = none) (ty : TypeId) (x y : Operand) (ho : op.op = .store ty x y)
    (g : Nat) (cells : Array Value) (hx : a.eval x = .pointer (some ⟨g, 0, none⟩)) (hy : a.eval y = .agg cells) {old : Array Value} {t : TypeId} (hg : w.heap[g]? = some (.cells old t (0, 0)))
    (hi : (P.info? ty).map (·.size) = some cells.size) (hs : old.size = cells.size) (h1 : cells.all (·.oneCell') = true)
    (h : wpList P ops Q rest (a.put op.dst undef) (w.setRow g cells)) : wpList P ops Q (op :: rest) a w :=
  wpList_plain hgd fun K hK => by
    unfold Oper.wp execOp
    simp only [ho, hx, hy, Instr.storeAt, Instr.sureAddr, Sem.run_bind, Sem.run_pure, Result.andThen_ok, run_storeVar_row w g t ty old cells hg hi hs h1]
    exact hK _ _ h
theorem setRow_same {w : World} {b : Nat} {c c' : Array Value} {e : TypeId} {f : Nat × Nat} (h : w.heap[b]? = some (.cells c e f)) : (w.setRow b c').heap[b]? = some (.cells c' e f) := by
  simp [World.setRow, Array.getElem?_modify, h]
theorem _root_.Go.Proofs.YtpkpfebhdgbgbaaGreatDoor.Same.setRow {S : List Nat} {a b : World} (h : Same S a b) {g : Nat} (hg : g < a.heap.size → g ∈ S) (c : Array Value) : Same S a (b.setRow g c) :=
  h.trans (T := [g]) ⟨rfl, rfl, rfl, by simp [World.setRow], fun k _ hS => by
    have : ¬ g = k := fun e => hS (by simp [e])
    simp [World.setRow, Array.getElem?_modify, this]⟩ (fun x hx hlt => by simp at hx; subst hx; exact hg hlt)

def RowsPost (w : World) (e : Ending) (w' : World) : Prop := ∃ vs : Array Value, Words vs ∧ e = .returned (.agg vs) ∧ Same [] w w'
def RowsI (w wr : World) : Prop := ∃ vs : Array Value, Words vs ∧ wr.heap[w.heap.size + 1]? = some (.cells vs 275 (0, 0)) ∧ wr.heap[w.heap.size]? = some (.cells (Array.replicate 256 (.int .u32 0)) 275 (0, 0)) ∧ Same [] w wr

set_option maxHeartbeats 1000000 in
set_option maxRecDepth 100000 in
theorem rows_any (w : World) : Calls Tryz.prog 179 #[] w (RowsPost w) := by
  have hz := (zero_of_info (P := Tryz.prog) (t := 275) (v := .agg (Array.replicate 256 (.int .u32 0))) (n := 256) (by kernel_rfl)).1
  go_enter Tryz.func179, Tryz.ntmps179
  go_wp2_with fail
  go_loopw [5] (fun i wr => ∃ k : Nat, k ≤ 256 ∧ i = .int .i64 k ∧ RowsI w wr) (fun i _ => 256 - (intOf i).toNat)
  case atStart =>
    refine ⟨0, by omega, rfl, _, Words.zero, ?_, ?_, ((Same.refl [] w).alloc _).alloc _⟩
    · have := heap_alloc_new (w.alloc (.cells (Array.replicate 256 (.int .u32 0)) 275)) (.cells (Array.replicate 256 (.int .u32 0)) 275)
      rwa [World.size_alloc] at this
    · exact (Below.heap_alloc _ _ _ (by simp)).trans (heap_alloc_new _ _)
  case round =>
    obtain ⟨k, hk, rfl, hi⟩ := hrel
    have HI := Lib.hid hi
    clear hi
    by_cases hk1 : k < 256
    · have hk2 : (k : Int) < 256 := by omega
      go_wp2_with fail
      obtain ⟨wo, rfl⟩ : ∃ wo : World, wo = wr := ⟨_, rfl⟩
      go_loopw [11, 3] (fun j x wr => ∃ (m : Nat) (n : Int), m ≤ 8 ∧ j = .int .i64 m ∧ x = .int .u32 n ∧ 0 ≤ n ∧ n < 4294967296 ∧ wr = wo) (fun j _ _ => 8 - (intOf j).toNat)
      case atStart => exact ⟨0, _, by omega, rfl, rfl, by omega, by omega, by trivial⟩
      case round =>
        obtain ⟨m, n, hm, rfl, rfl, h0, h1, rfl⟩ := hrel
        by_cases hm1 : m < 8
        · have hm2 : (m : Int) < 8 := by omega
          go_wp2_with fail
          · go_roundw
            case rel => exact ⟨m + 1, _, by omega, by go_num, rfl, bits_lo_u32 _ _ _, Int.lt_of_le_of_lt (bits_hi_u32 _ _ _) (by decide), by trivial⟩
            case measure => simp [intOf]; omega
          · go_roundw
            case rel => exact ⟨m + 1, _, by omega, by go_num, rfl, Int.emod_nonneg _ (by decide), Int.emod_lt_of_pos _ (by decide), by trivial⟩
            case measure => simp [intOf]; omega
        · have hm2 : ¬ (m : Int) < 8 := by omega
          obtain ⟨vs, v1, v2, v3, v4⟩ := HI.out
          have hc : wr.cell? ⟨w.heap.size + 1, k, none⟩ = vs[k]? := cell_of v2 k
          obtain ⟨n', hn', _⟩ := v1.2 k hk1
          rw [hn'] at hc
          have hf := free_of v2 k
          have V1 := Lib.hid v1; have V2 := Lib.hid v2; have V3 := Lib.hid v3; have V4 := Lib.hid v4
          clear v1 v2 v3 v4 hn'
          go_wp2_with fail
          go_roundw
          case rel =>
            refine ⟨k + 1, by omega, by go_num, _, V1.out.set k h0 h1, set_same V2.out _, ?_, ?_⟩
            · rw [set_other _ (by omega)]; exact V3.out
            · exact V4.out.setCell (by simp) _
          case measure => simp [intOf]; omega
    · have hk2 : ¬ (k : Int) < 256 := by omega
      obtain ⟨vs, v1, v2, v3, v4⟩ := HI.out
      have V1 := Lib.hid v1; have V2 := Lib.hid v2; have V3 := Lib.hid v3; have V4 := Lib.hid v4
      clear v1 v2 v3 v4
      have hsz : (Tryz.prog.info? 275).map (·.size) = some 256 := by kernel_rfl
      go_wp2_with (first
        | (refine wpList_load_mid rfl 275 _ rfl (w.heap.size + 1) 0 rfl vs.toList _ (fun j v hv => by rw [Nat.zero_add, cell_of V2.out]; simpa using hv) Tryz.underlying275 rfl (by rw [Array.length_toList, V1.out.1]; exact hsz) ?_)
        | (refine wpList_store_row rfl 275 _ _ rfl w.heap.size _ rfl rfl V3.out (by rw [V1.out.1]; exact hsz) (by rw [V1.out.1]; simp) V1.out.one ?_)
        | go_in)
      have hr := setRow_same (c' := vs) V3.out
      have hs := V4.out.setRow (g := w.heap.size) (by simp) vs
      refine bodyPost_ret (v := .agg vs) ?_ rfl ⟨vs, V1.out, rfl, hs⟩
      have hl := run_loadVar_row (P := Tryz.prog) (wr.setRow w.heap.size vs) w.heap.size _ 275 vs (0, 0) _ hr Tryz.underlying275 rfl (by rw [V1.out.1]; exact hsz)
      clear hsz
      simp only [results, Tryz.results179]
      simp [asAddr, Result.andThen, hl]

def MorePost (w : World) (e : Ending) (w' : World) : Prop := ∃ n : Int, 0 ≤ n ∧ n < 4294967296 ∧ e = .returned (.int .u32 n) ∧ Same [] w w'

set_option maxHeartbeats 1000000 in
set_option maxRecDepth 100000 in
theorem more_any (x : Int) (ss : List ByteArray) (g off c : Nat) (w : World) (hx0 : 0 ≤ x) (hx1 : x < 4294967296)
    (hc : ∀ (k : Nat) (h : k < ss.length), w.cell? ⟨g, off + k, none⟩ = some (.string ss[k])) (hn : ss.length < 1099511627776) (hlc : ss.length ≤ c) (hz : ∀ (k : Nat) (h : k < ss.length), ss[k].size < 1099511627776) :
    Calls Tryz.prog 172 #[.int .u32 x, .slice (some ⟨g, off, none⟩) ss.length c] w (MorePost w) := by
  have hzv := (zero_of_info (P := Tryz.prog) (t := 275) (v := .agg (Array.replicate 256 (.int .u32 0))) (n := 256) (by kernel_rfl)).1
  have HC := Lib.hid hc; have HZ := Lib.hid hz
  have hsz : (Tryz.prog.info? 275).map (·.size) = some 256 := by kernel_rfl
  clear hc hz
  go_enter Tryz.func172, Tryz.ntmps172
  go_wp2_with fail
  (with_reducible refine (rows_any _).mono ?_)
  rintro e w1 ⟨vs, hv, rfl, s1⟩
  have V := Lib.hid hv; have S1 := Lib.hid s1
  clear hv s1
  go_wp2_with (first
    | (refine wpList_store_row rfl 275 _ _ rfl w1.heap.size _ rfl rfl (heap_alloc_new w1 _) (by rw [V.out.1]; exact hsz) (by rw [V.out.1]; simp) V.out.one ?_)
    | go_in)
  have hb : ((w1.alloc (.cells (Array.replicate 256 (.int .u32 0)) 275)).setRow w1.heap.size vs).heap[w1.heap.size]? = some (.cells vs 275 (0, 0)) := setRow_same (heap_alloc_new w1 _)
  have hs : Same [] w ((w1.alloc (.cells (Array.replicate 256 (.int .u32 0)) 275)).setRow w1.heap.size vs) :=
    (S1.out.alloc _).setRow (fun h => by have := S1.out.size; omega) vs
  generalize ((w1.alloc (.cells (Array.replicate 256 (.int .u32 0)) 275)).setRow w1.heap.size vs) = w2 at *
  have HB := Lib.hid hb; have HS := Lib.hid hs
  clear hb hs hsz hzv S1
  go_loopw [12, 0] (fun i x wr => ∃ (k : Nat) (n : Int), k ≤ ss.length ∧ i = .int .i64 k ∧ x = .int .u32 n ∧ 0 ≤ n ∧ n < 4294967296 ∧ wr = w2) (fun i _ _ => ss.length - (intOf i).toNat)
  case atStart => exact ⟨0, x, by omega, rfl, rfl, hx0, hx1, by trivial⟩
  case round =>
    obtain ⟨k, n, hk, rfl, rfl, h0, h1, rfl⟩ := hrel
    by_cases hk1 : k < ss.length
    · have hk2 : (k : Int) < ss.length := by omega
      have hcell := HS.out.cell (HC.out k hk1) (by simp)
      have hsz := HZ.out k hk1
      obtain ⟨s, hs⟩ : ∃ s, s = ss[k] := ⟨_, rfl⟩
      rw [← hs] at hcell hsz
      clear hs
      go_wp2_with fail
      obtain ⟨wo, rfl⟩ : ∃ wo : World, wo = wr := ⟨_, rfl⟩
      go_loopw [18, 0] (fun j x wr => ∃ (m : Nat) (n : Int), m ≤ s.size ∧ j = .int .i64 m ∧ x = .int .u32 n ∧ 0 ≤ n ∧ n < 4294967296 ∧ wr = wo) (fun j _ _ => s.size - (intOf j).toNat)
      case atStart => exact ⟨0, n, by omega, rfl, rfl, h0, h1, by trivial⟩
      case round =>
        obtain ⟨m, n, hm, rfl, rfl, h0, h1, rfl⟩ := hrel
        by_cases hm1 : m < s.size
        · have hm2 : (m : Int) < (s.size : Int) := by omega
          have hbyte := byteOf_at s m hm1
          have hbl : byteOf s m < 256 := UInt8.toNat_lt _
          obtain ⟨q, hq⟩ : ∃ q : Nat, bits .xor .u8 (n / 16777216) (byteOf s m : Int) = (q : Int) := ⟨(bits .xor .u8 (n / 16777216) (byteOf s m : Int)).toNat, by rw [Int.toNat_of_nonneg (bits_lo_u8 _ _ _)]⟩
          have hq2 := bits_hi_u8 .xor (n / 16777216) (byteOf s m : Int)
          rw [hq] at hq2
          have hq3 : q < 256 := by omega
          have hq4 : (q : Int) < 256 := by omega
          obtain ⟨u, hu, hu0, hu1⟩ := V.out.2 q hq3
          have hcq : wr.cell? ⟨w1.heap.size, q, none⟩ = some (.int .u32 u) := (cell_of HB.out q).trans hu
          clear hu hq2
          go_wp2_with fail
          go_roundw
          case rel => exact ⟨m + 1, _, by omega, by go_num, rfl, bits_lo_u32 _ _ _, Int.lt_of_le_of_lt (bits_hi_u32 _ _ _) (by decide), by trivial⟩
          case measure => simp [intOf]; omega
        · have hm2 : ¬ (m : Int) < (s.size : Int) := by omega
          go_wp2_with fail
          go_roundw
          case rel => exact ⟨k + 1, n, by omega, by go_num, rfl, h0, h1, by trivial⟩
          case measure => simp [intOf]; omega
    · have hk2 : ¬ (k : Int) < ss.length := by omega
      go_wp2_with fail
      go_ret
      exact ⟨n, h0, h1, rfl, HS.out⟩

theorem sum_any (ss : List ByteArray) (g off c : Nat) (w : World)
    (hc : ∀ (k : Nat) (h : k < ss.length), w.cell? ⟨g, off + k, none⟩ = some (.string ss[k])) (hn : ss.length < 1099511627776) (hlc : ss.length ≤ c) (hz : ∀ (k : Nat) (h : k < ss.length), ss[k].size < 1099511627776) :
    Calls Tryz.prog 156 #[.slice (some ⟨g, off, none⟩) ss.length c] w (MorePost w) := by
  have hm := fun W hW => more_any 4294967295 ss g off c W (by decide) (by decide) hW hn hlc hz
  have HM := Lib.hid hm; have HC := Lib.hid hc
  clear hm hc
  go_enter Tryz.func156, Tryz.ntmps156
  go_wp2_with fail
  (with_reducible refine (HM.out _ HC.out).mono ?_)
  rintro e w1 ⟨n, h0, h1, rfl, s1⟩
  go_wp2
  go_ret
  exact ⟨n, h0, h1, rfl, s1⟩

def SealPost (w : World) (s : ByteArray) (e : Ending) (w' : World) : Prop := ∃ t : ByteArray, t.size = 4 ∧ e = .returned (.string (s ++ t)) ∧ Same [] w w'

set_option maxRecDepth 100000 in
set_option maxHeartbeats 1000000 in
theorem seal_any (s : ByteArray) (w : World) (hs : s.size < 1099511627776) : Calls Tryz.prog 126 #[.string s] w (SealPost w s) := by
  have hm : Calls Tryz.prog 156 #[.slice (some ⟨w.heap.size, 0, none⟩) 1 1] (w.alloc (.cells #[.string s] 9)) (MorePost (w.alloc (.cells #[.string s] 9))) := sum_any [s] w.heap.size 0 1 (w.alloc (.cells #[.string s] 9)) (fun k h => by
      have h0 : k = 0 := by simpa using h
      subst h0
      rw [cell_of (heap_alloc_new w _)]; rfl) (by simp) (by simp) (fun k h => by
      have h0 : k = 0 := by simpa using h
      subst h0; exact hs)
  have HM := Lib.hid hm
  clear hm
  go_enter Tryz.func126, Tryz.ntmps126
  go_wp2_with fail
  (with_reducible refine HM.out.mono ?_)
  rintro e w1 ⟨n, h0, h1, rfl, s1⟩
  have S1 := Lib.hid (((Same.refl [] w).alloc _).trans_nil s1)
  clear s1 HM
  obtain ⟨x, rfl⟩ : ∃ x : Nat, n = x := ⟨n.toNat, by omega⟩
  have hrow := row_new w1 #[.int .u8 ((x : Int) / 16777216), .int .u8 ((x : Int) / 65536 % 256), .int .u8 ((x : Int) / 256 % 256), .int .u8 ((x : Int) % 256)] 5 4 rfl (by decide)
  have hu : (#[.int .u8 ((x : Int) / 16777216), .int .u8 ((x : Int) / 65536 % 256), .int .u8 ((x : Int) / 256 % 256), .int .u8 ((x : Int) % 256)] : Array Value).toList = u8s [x / 16777216, x / 65536 % 256, x / 256 % 256, x % 256] := rfl
  rw [hu] at hrow
  have hcv := own_string (P := Tryz.prog) (src := 33) (dst := 9) Tryz.underlying33 Tryz.underlying5 Tryz.underlying9 hrow
  have ht := size_strOf [x / 16777216, x / 65536 % 256, x / 256 % 256, x % 256]
  generalize strOf [x / 16777216, x / 65536 % 256, x / 256 % 256, x % 256] = t at *
  have HT := Lib.hid ht
  have hst : (s ++ t).size < 1099511627780 := by rw [ByteArray.size_append, ht]; simp only [List.length_cons, List.length_nil]; omega
  have HCV := Lib.hid hcv
  clear hrow hu ht hcv
  go_wp2_with fail
  rw [HCV.out]
  clear HCV
  have ht4 : t.size = 4 := HT.out
  have hsa : ∀ a b : ByteArray, (a ++ b).size = a.size + b.size := fun a b => ByteArray.size_append
  go_wp2_with fail
  go_ret
  exact ⟨t, HT.out, rfl, S1.out.alloc _⟩

end Go.Proofs.YtpkpfebhdgbgbaaGreatDoor.S
namespace Go.Proofs.YtpkpfebhdgbgbaaGreatDoor.S
open Go.RowKit
set_option linter.unusedSimpArgs false
set_option linter.unusedVariables false

def stepR (x : Nat) : Nat := if 2147483648 ≤ x then (x * 2 % 4294967296) ^^^ 79764919 else x * 2 % 4294967296
def itR : Nat → Nat → Nat
  | 0, x => x
  | m + 1, x => stepR (itR m x)
def rowN (i : Nat) : Nat := itR 8 (i * 16777216)
def updN (x b : Nat) : Nat := (x * 256 % 4294967296) ^^^ rowN (x / 16777216 ^^^ b)
def regN (x : Nat) (s : ByteArray) : Nat → Nat
  | 0 => x
  | m + 1 => updN (regN x s m) (byteOf s m)
def sumN (s : ByteArray) : Nat := regN 4294967295 s s.size
theorem stepR_lt (x : Nat) : stepR x < 4294967296 := by
  unfold stepR
  split
  · exact Nat.xor_lt_two_pow (n := 32) (by omega) (by decide)
  · omega
theorem itR_lt {x : Nat} (h : x < 4294967296) : ∀ m, itR m x < 4294967296
  | 0 => h
  | m + 1 => stepR_lt _
theorem rowN_lt (i : Nat) : rowN i < 4294967296 := stepR_lt _
theorem updN_lt (x b : Nat) : updN x b < 4294967296 := Nat.xor_lt_two_pow (n := 32) (by omega) (rowN_lt _)
theorem regN_lt {x : Nat} (h : x < 4294967296) (s : ByteArray) : ∀ m, regN x s m < 4294967296
  | 0 => h
  | m + 1 => updN_lt _ _
theorem sumN_lt (s : ByteArray) : sumN s < 4294967296 := regN_lt (by decide) _ _
theorem rowN_zero : rowN 0 = 0 := by decide
/-- Rows differ in their last byte. -/
def lowL : List Nat := (List.range 256).map fun i => rowN i % 256
theorem low_inv : (lowL.map fun v => lowL.idxOf v) = List.range 256 := by decide +kernel
theorem low_ix {i : Nat} (h : i < 256) : lowL.idxOf (rowN i % 256) = i := by
  have h1 := congrArg (fun z => z[i]?) low_inv
  simp only [List.getElem?_map, lowL, List.getElem?_range h, Option.map_some] at h1
  exact Option.some.inj h1
theorem row_inj {i j : Nat} (hi : i < 256) (hj : j < 256) (h : rowN i % 256 = rowN j % 256) : i = j := by
  rw [← low_ix hi, ← low_ix hj, h]
theorem upd_low {x b : Nat} : updN x b % 256 = rowN (x / 16777216 ^^^ b) % 256 := by
  unfold updN
  have e : (256 : Nat) = 2 ^ 8 := rfl
  rw [e, Nat.xor_mod_two_pow, show x * 2 ^ 8 % 4294967296 % 2 ^ 8 = 0 by omega, Nat.zero_xor]
theorem ix_lt {x b : Nat} (hx : x < 4294967296) (hb : b < 256) : x / 16777216 ^^^ b < 256 := Nat.xor_lt_two_pow (n := 8) (by omega) hb
theorem upd_ix {x y b c : Nat} (hx : x < 4294967296) (hy : y < 4294967296) (hb : b < 256) (hc : c < 256) (h : updN x b = updN y c) : x / 16777216 ^^^ b = y / 16777216 ^^^ c := by
  refine row_inj (ix_lt hx hb) (ix_lt hy hc) ?_
  rw [← upd_low, ← upd_low, h]
theorem xor_left {a b c : Nat} (h : a ^^^ b = a ^^^ c) : b = c := by
  have h1 := congrArg (fun z => a ^^^ z) h
  simpa [← Nat.xor_assoc] using h1
theorem xor_right {a b c : Nat} (h : b ^^^ a = c ^^^ a) : b = c := by rw [Nat.xor_comm b, Nat.xor_comm c] at h; exact xor_left h
/-- The same byte leads different registers to different ones. -/
theorem upd_inj {x y b : Nat} (hx : x < 4294967296) (hy : y < 4294967296) (hb : b < 256) (h : updN x b = updN y b) : x = y := by
  have h1 := upd_ix hx hy hb hb h
  have h2 := xor_right h1
  unfold updN at h
  rw [h1] at h
  have h3 := xor_right h
  omega
/-- Different bytes lead one register to different ones. -/
theorem upd_byte {x b c : Nat} (hx : x < 4294967296) (hb : b < 256) (hc : c < 256) (h : updN x b = updN x c) : b = c := xor_left (upd_ix hx hx hb hc h)
theorem byteOf_lt' (s : ByteArray) (i : Nat) : byteOf s i < 256 := UInt8.toNat_lt _
/-- Texts that differ in one byte have different registers behind it. -/
theorem reg_differ {x : Nat} (hx : x < 4294967296) (s t : ByteArray) (p : Nat) (hp : byteOf s p ≠ byteOf t p) (hs : ∀ i, i ≠ p → byteOf s i = byteOf t i) : ∀ m, (m ≤ p → regN x s m = regN x t m) ∧ (p < m → regN x s m ≠ regN x t m)
  | 0 => ⟨fun _ => rfl, fun h => absurd h (Nat.not_lt_zero _)⟩
  | m + 1 => by
    obtain ⟨h1, h2⟩ := reg_differ hx s t p hp hs m
    refine ⟨fun h => ?_, fun h he => ?_⟩
    · show updN (regN x s m) (byteOf s m) = updN (regN x t m) (byteOf t m)
      rw [h1 (by omega), hs m (by omega)]
    · have he' : updN (regN x s m) (byteOf s m) = updN (regN x t m) (byteOf t m) := he
      by_cases hm : m = p
      · subst hm
        rw [h1 (Nat.le_refl _)] at he'
        exact hp (upd_byte (regN_lt hx _ _) (byteOf_lt' _ _) (byteOf_lt' _ _) he')
      · rw [hs m hm] at he'
        exact h2 (by omega) (upd_inj (regN_lt hx _ _) (regN_lt hx _ _) (byteOf_lt' _ _) he')
theorem sum_differ (s t : ByteArray) (p : Nat) (hz : s.size = t.size) (hpz : p < s.size) (hp : byteOf s p ≠ byteOf t p) (hs : ∀ i, i ≠ p → byteOf s i = byteOf t i) : sumN s ≠ sumN t := by
  unfold sumN
  rw [← hz]
  exact (reg_differ (by decide) s t p hp hs s.size).2 hpz
/-- The sum as four bytes. -/
def fourN (x : Nat) : ByteArray := strOf [x / 16777216, x / 65536 % 256, x / 256 % 256, x % 256]
theorem size_fourN (x : Nat) : (fourN x).size = 4 := size_strOf _
theorem upd_zero {x : Nat} (hx : x < 4294967296) : updN x (x / 16777216) = x * 256 % 4294967296 := by
  unfold updN; rw [Nat.xor_self, rowN_zero, Nat.xor_zero]
theorem byteOf_app_l (a b : ByteArray) (i : Nat) (h : i < a.size) : byteOf (a ++ b) i = byteOf a i := by
  unfold byteOf
  rw [ByteArray.data_append, Array.toList_append, List.getD_eq_getElem?_getD, List.getD_eq_getElem?_getD, List.getElem?_append_left (by rw [Array.length_toList]; exact h)]
theorem byteOf_app_r (a b : ByteArray) (i : Nat) : byteOf (a ++ b) (a.size + i) = byteOf b i := by
  unfold byteOf
  have e : a.data.toList.length = a.size := by rw [Array.length_toList]; rfl
  rw [ByteArray.data_append, Array.toList_append, List.getD_eq_getElem?_getD, List.getD_eq_getElem?_getD, List.getElem?_append_right (by rw [e]; omega), e, Nat.add_sub_cancel_left]
theorem reg_app (x : Nat) (a b : ByteArray) : ∀ m, m ≤ a.size → regN x (a ++ b) m = regN x a m
  | 0, _ => rfl
  | m + 1, h => by
    show updN _ _ = updN _ _
    rw [reg_app x a b m (by omega), byteOf_app_l a b m (by omega)]
theorem reg_behind (x : Nat) (a b : ByteArray) : ∀ m, regN x (a ++ b) (a.size + m) = regN (regN x a a.size) b m
  | 0 => reg_app x a b a.size (Nat.le_refl _)
  | m + 1 => by
    show updN (regN x (a ++ b) (a.size + m)) (byteOf (a ++ b) (a.size + m)) = updN _ _
    rw [reg_behind x a b m, byteOf_app_r]
theorem four_bytes (x : Nat) (hx : x < 4294967296) : byteOf (fourN x) 0 = x / 16777216 ∧ byteOf (fourN x) 1 = x / 65536 % 256 ∧ byteOf (fourN x) 2 = x / 256 % 256 ∧ byteOf (fourN x) 3 = x % 256 := by
  unfold byteOf fourN strOf
  refine ⟨?_, ?_, ?_, ?_⟩ <;> simp [UInt8.toNat_ofNat'] <;> omega
theorem sum_sealed (s : ByteArray) : sumN (s ++ fourN (sumN s)) = 0 := by
  obtain ⟨x, hx⟩ : ∃ x, x = sumN s := ⟨_, rfl⟩
  have hl : x < 4294967296 := by rw [hx]; exact sumN_lt s
  rw [← hx]
  obtain ⟨b0, b1, b2, b3⟩ := four_bytes x hl
  show regN 4294967295 (s ++ fourN x) (s ++ fourN x).size = 0
  rw [ByteArray.size_append, size_fourN, reg_behind]
  rw [show regN 4294967295 s s.size = x from hx.symm]
  show updN (updN (updN (updN x (byteOf (fourN x) 0)) (byteOf (fourN x) 1)) (byteOf (fourN x) 2)) (byteOf (fourN x) 3) = 0
  rw [b0, b1, b2, b3, upd_zero hl]
  have h1 : x / 65536 % 256 = x * 256 % 4294967296 / 16777216 := by omega
  rw [h1, upd_zero (by omega)]
  have h2 : x / 256 % 256 = x * 256 % 4294967296 * 256 % 4294967296 / 16777216 := by omega
  rw [h2, upd_zero (by omega)]
  have h3 : x % 256 = x * 256 % 4294967296 * 256 % 4294967296 * 256 % 4294967296 / 16777216 := by omega
  rw [h3, upd_zero (by omega)]
  omega
theorem u32_xor_nat (a b : Nat) (ha : a < 4294967296) (hb : b < 4294967296) : bits .xor .u32 (a : Int) (b : Int) = ((a ^^^ b : Nat) : Int) := by
  have hx : a ^^^ b < 2 ^ 32 := Nat.xor_lt_two_pow (by omega) (by omega)
  show IntKind.u32.wrap ((BitVec.ofInt 32 (a : Int) ^^^ BitVec.ofInt 32 (b : Int)).toNat : Int) = _
  have ea : (BitVec.ofInt 32 (a : Int)).toNat = a := by rw [BitVec.toNat_ofInt]; omega
  have eb : (BitVec.ofInt 32 (b : Int)).toNat = b := by rw [BitVec.toNat_ofInt]; omega
  rw [BitVec.toNat_xor, ea, eb]
  show ((a ^^^ b : Nat) : Int) % 4294967296 = _
  omega
theorem u8_xor_nat (a b : Nat) (ha : a < 256) (hb : b < 256) : bits .xor .u8 (a : Int) (b : Int) = ((a ^^^ b : Nat) : Int) := by
  have hx : a ^^^ b < 2 ^ 8 := Nat.xor_lt_two_pow (by omega) (by omega)
  show IntKind.u8.wrap ((BitVec.ofInt 8 (a : Int) ^^^ BitVec.ofInt 8 (b : Int)).toNat : Int) = _
  have ea : (BitVec.ofInt 8 (a : Int)).toNat = a := by rw [BitVec.toNat_ofInt]; omega
  have eb : (BitVec.ofInt 8 (b : Int)).toNat = b := by rw [BitVec.toNat_ofInt]; omega
  rw [BitVec.toNat_xor, ea, eb]
  exact IntWalk.u8_in _ (by omega)
theorem u32_high (a : Nat) (ha : a < 4294967296) : (bits .and .u32 (a : Int) 2147483648 != 0) = decide (2147483648 ≤ a) := by
  have hx : a &&& 2147483648 < 2 ^ 32 := Nat.and_lt_two_pow _ (by decide)
  have e : bits .and .u32 (a : Int) 2147483648 = ((a &&& 2147483648 : Nat) : Int) := by
    show IntKind.u32.wrap ((BitVec.ofInt 32 (a : Int) &&& BitVec.ofInt 32 2147483648).toNat : Int) = _
    have ea : (BitVec.ofInt 32 (a : Int)).toNat = a := by rw [BitVec.toNat_ofInt]; omega
    have eb : (BitVec.ofInt 32 (2147483648 : Int)).toNat = 2147483648 := by decide
    rw [BitVec.toNat_and, ea, eb]
    show ((a &&& 2147483648 : Nat) : Int) % 4294967296 = _
    omega
  rw [e]
  have h2 : a &&& 2147483648 = 2147483648 * (a / 2147483648 % 2) := by
    have k1 : (a &&& 2147483648) % 2 ^ 31 = 0 := by rw [Nat.and_mod_two_pow, show (2147483648 : Nat) % 2 ^ 31 = 0 from rfl, Nat.and_zero]
    have k2 : (a &&& 2147483648) >>> 31 = a >>> 31 &&& 1 := by rw [Nat.shiftRight_and_distrib]; rfl
    rw [Nat.and_one_is_mod, Nat.shiftRight_eq_div_pow, Nat.shiftRight_eq_div_pow] at k2
    omega
  rw [h2]
  by_cases h : 2147483648 ≤ a
  · have h3 : a / 2147483648 % 2 = 1 := by omega
    rw [h3]; simp [h]
  · have h3 : a / 2147483648 % 2 = 0 := by omega
    rw [h3]; simp; omega
end Go.Proofs.YtpkpfebhdgbgbaaGreatDoor.S
