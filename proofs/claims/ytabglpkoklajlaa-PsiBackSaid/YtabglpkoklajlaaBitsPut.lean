/- The writer of bits: falling, Put, String, Len. Condition: fewer than 2^40 bits. -/
import Derived.Test.YtabglpkoklajlaaBitsOut
import Derived.Test.YtabglpkoklajlaaRange
import Derived.Shelf.Abstract
import Derived.Shelf.RegionOpen
import Derived.OwnWalkIn
import Derived.TacticsInMore
import Derived.LoopNIn
import Derived.LoopIn
namespace Go.Proofs.Ytabglpkoklajlaa
open Go.RowKit Go.Shelf
attribute [local go_sem] Oper.semAt_some
set_option linter.unusedSimpArgs false
set_option linter.unusedVariables false

def bitsOf (x n : Nat) : List Bool := (List.range n).map fun i => decide (x / 2 ^ (n - 1 - i) % 2 = 1)
theorem length_bitsOf (x n : Nat) : (bitsOf x n).length = n := by simp [bitsOf]
theorem bitsOf_take (x n k : Nat) (h : k < n) : (bitsOf x n).take (k + 1) = (bitsOf x n).take k ++ [decide (x / 2 ^ (n - 1 - k) % 2 = 1)] := by
  rw [List.take_add_one]; simp [bitsOf, h]
def bitV (b : Bool) : Array Value := #[.int .u8 b.toNat]
def numAt (w : World) (b : Nat) : Nat := match w.cell? ⟨b, 0, none⟩ with | some v => (intOf v).toNat | none => 0

theorem numAt_eq {w : World} {b n : Nat} {e : TypeId} (h : w.heap[b]? = some (.cells #[.int .i64 (n : Int)] e (0, 0))) : numAt w b = n := by
  unfold numAt; rw [cell_of h]; simp [intOf]
theorem bit_of (X m : Nat) (hX : X < 18446744073709551616) : Value.int .u8 ((decide (X / 2 ^ m % 2 = 1)).toNat : Int) = Value.int .u8 (bits .and .u64 ((X : Int) / 2 ^ m) 1 % 256) := by
  have e : ((X : Int) / 2 ^ m) = ((X / 2 ^ m : Nat) : Int) := by simp
  have hd : X / 2 ^ m ≤ X := Nat.div_le_self _ _
  rw [e, show (1 : Int) = ((1 : Nat) : Int) from rfl, u64_and_nat _ _ (by omega) (by omega), nat_mask1]
  have h2 : X / 2 ^ m % 2 < 2 := Nat.mod_lt _ (by omega)
  congr 1
  generalize X / 2 ^ m % 2 = z at *
  have : z = 0 ∨ z = 1 := by omega
  rcases this with rfl | rfl <;> rfl

set_option maxHeartbeats 400000 in
theorem falling1_full (X N : Nat) (hN : N ≤ 64) (hX : X < 18446744073709551616) (w0 : World) (bx bn : Nat) (hne : bx ≠ bn)
    (hbx : w0.heap[bx]? = some (.cells #[.int .u64 X] 76 (0, 0))) (hbn : w0.heap[bn]? = some (.cells #[.int .i64 N] 3 (0, 0))) :
    SeqFull Try.prog 49 #[.pointer (some ⟨bn, 0, none⟩), .pointer (some ⟨bx, 0, none⟩)] bitV (bitsOf X N) [bx, bn] w0 := by
  intro l J W hW hJ hY h0
  refine callsIn_of_wp Try.func49 rfl trivial ?_ rfl
  simp only [Try.ntmps49, List.size_toArray, List.length_cons, List.length_nil, Nat.reduceAdd, Nat.reduceSub, Array.replicate_succ, Array.replicate_zero, List.push_toArray, List.append_toArray, List.nil_append, List.cons_append]
  gi_wp2
  gi_loopw [4] (fun _ wr => ∃ m : Nat, m ≤ N ∧ wr.heap[bx]? = some (.cells #[.int .u64 X] 76 (0, 0)) ∧ wr.heap[bn]? = some (.cells #[.int .i64 (m : Int)] 3 (0, 0)) ∧ J ((bitsOf X N).take (N - m)) wr)
    (fun _ wr => numAt wr bn)
  case atStart =>
    exact ⟨N, Nat.le_refl _, hW.heap hbx (by simp), hW.heap hbn (by simp), by simpa using h0⟩
  case round =>
    obtain ⟨m, hk, hx, hn, hj⟩ := hrel
    have cx : wr.cell? ⟨bx, 0, none⟩ = some (.int .u64 X) := by rw [cell_of hx]; rfl
    have cn : wr.cell? ⟨bn, 0, none⟩ = some (.int .i64 (m : Int)) := by rw [cell_of hn]; rfl
    have fn : wr.frozen? ⟨bn, 0, none⟩ = false := free_of hn 0
    cases m with
    | zero =>
      gi_wp2
      go_end0
      exact ⟨⟨_, rfl⟩, by simpa [List.take_of_length_le, length_bitsOf] using hj⟩
    | succ m =>
      have hbitX : bitV (decide (X / 2 ^ m % 2 = 1)) = #[.int .u8 (bits .and .u64 ((X : Int) / 2 ^ m) 1 % 256)] := by rw [bitV, bit_of X m hX]
      have hnew : (wr.setCell ⟨bn, 0, none⟩ (.int .i64 (m : Int))).heap[bn]? = some (.cells #[.int .i64 (m : Int)] 3 (0, 0)) := set_same hn _
      have hnewx : (wr.setCell ⟨bn, 0, none⟩ (.int .i64 (m : Int))).heap[bx]? = some (.cells #[.int .u64 X] 76 (0, 0)) := by rw [set_other _ hne]; exact hx
      have hj2 := hJ _ _ _ hj ((Same.refl [bx, bn] wr).setCell (p := ⟨bn, 0, none⟩) (by simp) (.int .i64 (m : Int)))
      have hpre : (bitsOf X N).take (N - (m + 1)) ++ [decide (X / 2 ^ m % 2 = 1)] = (bitsOf X N).take (N - m) := by
        have := bitsOf_take X N (N - (m + 1)) (by omega)
        rw [show N - (m + 1) + 1 = N - m by omega, show N - 1 - (N - (m + 1)) = m by omega] at this
        exact this.symm
      obtain ⟨f0, tmps, assign, body, hy, hR⟩ := hY _ (decide (X / 2 ^ m % 2 = 1)) _ hj2 (by rw [hpre]; exact List.take_prefix _ _)
      rw [hbitX] at hy
      rw [hpre] at hR
      have HNX := Lib.hid hnew; have HXX := Lib.hid hnewx
      have hms := numAt_eq hn
      have HMS := Lib.hid hms
      clear hnew hnewx hbitX hY hJ h0 hbx hbn hW hj hj2 hpre hms hx
      gi_wp2
      refine ⟨rfl, hR.mono ?_⟩
      rintro e W3 ⟨rfl, hJ3, hk3⟩
      have h3n := (hk3 bn (by simp)).trans HNX.out
      have h3x := (hk3 bx (by simp)).trans HXX.out
      have HJ3 := Lib.hid hJ3; have H3n := Lib.hid h3n; have H3x := Lib.hid h3x
      clear hJ3 h3n h3x hk3 hR hy hn
      gi_wp2
      go_roundw
      case rel => exact ⟨m, by omega, H3x.out, H3n.out, HJ3.out⟩
      case measure => rw [numAt_eq H3n.out, HMS.out]; simp

theorem falling_any (X N : Nat) (w : World) :
    Calls Try.prog 43 #[.int .u64 X, .int .i64 N] w fun e w' => e = .returned (.func (.func 49) #[] #[.pointer (some ⟨w.heap.size + 1, 0, none⟩), .pointer (some ⟨w.heap.size, 0, none⟩)]) ∧ w' = (w.alloc (.cells #[.int .u64 X] 76)).alloc (.cells #[.int .i64 N] 3) := by
  have hmf : ∀ (fn : Fn) (first cap : Array Value) (w : World), (Instr.makeFunc fn first cap).run Try.prog w = .ok (.func fn first cap) w := fun _ _ _ _ => rfl
  go_enter Try.func43, Try.ntmps43
  go_wp2
  go_ret
  exact ⟨rfl, rfl⟩

def PutPost (w : World) (b : Nat) (r : Option Nat) (l : List Bool) (e : Ending) (w' : World) : Prop := e = .returned (.int .i64 0) ∧ OutStep w b r l w'

def PutI (w : World) (b : Nat) (r : Option Nat) (l pre : List Bool) (W : World) : Prop :=
  ∃ r', IsOut W b r' (l ++ pre) ∧ Same (b :: r.toList) w W ∧ (∀ k, r' = some k → (r = some k ∨ w.heap.size + 5 ≤ k) ∧ (k < w.heap.size ∨ w.heap.size + 5 ≤ k)) ∧ W.heap[w.heap.size]? = some (.cells #[.pointer (some ⟨b, 0, none⟩)] 91 (0, 0)) ∧ w.heap.size + 5 ≤ W.heap.size

theorem PutI.abides {w : World} {b : Nat} {r : Option Nat} {l : List Bool} (hb : b < w.heap.size) (pre : List Bool) (A B : World) (h : PutI w b r l pre A) (hs : Same [w.heap.size + 3, w.heap.size + 3 + 1, w.heap.size + 1, w.heap.size + 1 + 1] A B) : PutI w b r l pre B := by
  obtain ⟨r', h1, h2, h3, h4, h5⟩ := h
  refine ⟨r', h1.same hs (by simp; omega) (fun k hk => ?_), h2.trans hs (fun x hx hlt => by simp at hx; omega), h3, hs.heap h4 (by simp; omega), Nat.le_trans h5 hs.size⟩
  have := (h3 k hk).2; simp; omega

theorem PutI.step {w : World} {b : Nat} {r : Option Nat} {l pre : List Bool} {W W' : World} {r' : Option Nat} {x : Bool} (hb : b < w.heap.size)
    (h2 : Same (b :: r.toList) w W) (h3 : ∀ k, r' = some k → (r = some k ∨ w.heap.size + 5 ≤ k) ∧ (k < w.heap.size ∨ w.heap.size + 5 ≤ k)) (h4 : W.heap[w.heap.size]? = some (.cells #[.pointer (some ⟨b, 0, none⟩)] 91 (0, 0))) (h5 : w.heap.size + 5 ≤ W.heap.size)
    (hs : OutStep W b r' (l ++ pre ++ [x]) W') : PutI w b r l (pre ++ [x]) W' ∧ PutKeeps [w.heap.size + 3, w.heap.size + 3 + 1, w.heap.size + 1, w.heap.size + 1 + 1] W W' := by
  obtain ⟨r2, g1, g2, g3⟩ := hs
  refine ⟨⟨r2, by simpa [List.append_assoc] using g1, h2.trans g2 (fun y hy hlt => ?_), fun k hk => ?_, g2.heap h4 ?_, Nat.le_trans h5 g2.size⟩, fun k hk => g2.block k ?_ ?_⟩
  · simp only [List.mem_cons, Option.mem_toList] at hy ⊢
    rcases hy with hy | hy
    · exact .inl hy
    · rcases h3 y hy with ⟨h | h, _⟩
      · exact .inr h
      · omega
  · rcases g3 k hk with h | h
    · exact h3 k h
    · exact ⟨.inr (by omega), .inr (by omega)⟩
  · simp only [List.mem_cons, Option.mem_toList, not_or]
    exact ⟨by omega, fun h => by have := (h3 _ h).2; omega⟩
  · simp at hk; omega
  · simp only [List.mem_cons, Option.mem_toList, not_or]
    simp at hk
    exact ⟨by omega, fun h => by have := (h3 _ h).2; omega⟩

set_option maxHeartbeats 1000000 in
theorem put_ok (b : Nat) (r : Option Nat) (l : List Bool) (X N : Nat) (w : World) (hO : IsOut w b r l) (hl : l.length + 64 < 1099511627776) (hN : N ≤ 64) (hX : X < 18446744073709551616) :
    Calls Try.prog 32 #[.pointer (some ⟨b, 0, none⟩), .int .u64 X, .int .i64 N] w (PutPost w b r (l ++ bitsOf X N)) := by
  have hbl := hO.lt.1
  have hrl := hO.lt.2
  have HO := Lib.hid hO
  have HR := Lib.hid hrl
  clear hO hrl
  have d1 : decide ((N : Int) < 0) = false := by simp
  have d2 : decide ((64 : Int) < (N : Int)) = false := by simp; omega
  refine (callsIn_wide (n := 0)).1 ?_
  refine callsIn_of_wp_marks Try.func32 rfl trivial ?_ rfl
  simp only [Try.ntmps32, List.size_toArray, List.length_cons, List.length_nil, Nat.reduceAdd, Nat.reduceSub, Array.replicate_succ, Array.replicate_zero, List.push_toArray, List.append_toArray, List.nil_append, List.cons_append]
  gi_wp2_with (refine ⟨trivial, rfl, ?_⟩; gi_at_call 43; refine (callsIn_wide.2 (falling_any _ _ _)).mono ?_; rintro e w' ⟨rfl, rfl⟩)
  refine wp_rangeFull (D := w.heap.size + 3) (by simp) (gf := 49) (lb := #[.pointer (some ⟨w.heap.size + 1 + 1, 0, none⟩), .pointer (some ⟨w.heap.size + 1, 0, none⟩)]) rfl (enters_of Try.func49 (by kernel_rfl) rfl)
    (falling1_full X N hN hX _ (w.heap.size + 1) (w.heap.size + 1 + 1) (by omega) ?hx ?hn) (fun _ => rfl) (fun k hk => by simp at hk ⊢; omega)
    (PutI w b r l) (PutI.abides hbl) ?h0
    ?round ?done
  case hx =>
    have := World.alloc_heap_new (w.alloc (.cells #[.pointer (some ⟨b, 0, none⟩)] 91)) (.cells #[.int .u64 X] 76)
    rw [World.size_alloc] at this
    exact (Below.heap_alloc _ _ _ (by simp)).trans this
  case hn =>
    have := World.alloc_heap_new ((w.alloc (.cells #[.pointer (some ⟨b, 0, none⟩)] 91)).alloc (.cells #[.int .u64 X] 76)) (.cells #[.int .i64 N] 3)
    rw [World.size_alloc, World.size_alloc] at this
    exact this
  case h0 =>
    intro W hW hz
    have hs : Same [] w W := ((((Same.refl [] w).alloc _).alloc _).alloc _).trans_nil hW
    have hw := HR.out
    refine ⟨r, ?_, hs.mono (fun x hx => by simp at hx), fun k hk => ⟨.inl hk, .inl (hw k hk)⟩, ?_, hz⟩
    · rw [List.append_nil]; exact HO.out.same hs (by simp) (fun k _ => by simp)
    · refine hW.heap (S := []) ?_ (by simp)
      exact (Below.heap_alloc _ _ _ (by simp; omega)).trans ((Below.heap_alloc _ _ _ (by simp)).trans (World.alloc_heap_new w _))
  case round =>
    intro ll pre x W hi hpre
    have hlen : pre.length + 1 ≤ N := by
      have := hpre.length_le; rw [length_bitsOf] at this; simpa using this
    dsimp only [bitV]
    gi_wp2
    refine ⟨trivial, ?_⟩
    intro W2 h2 hsz
    have h2' := h2
    obtain ⟨r', g1, g2, g3, g4, g5⟩ := h2
    have c0 : W2.cell? ⟨w.heap.size, 0, none⟩ = some (.pointer (some ⟨b, 0, none⟩)) := by rw [cell_of g4]; rfl
    have HC := add_any b r' (l ++ pre) x W2 g1 (by simp; omega) _ rfl
    have Hst : ∀ W3, OutStep W2 b r' (l ++ pre ++ [x]) W3 → PutI w b r l (pre ++ [x]) W3 ∧ PutKeeps [w.heap.size + 3, w.heap.size + 3 + 1, w.heap.size + 1, w.heap.size + 1 + 1] W2 W3 := fun W3 h => PutI.step hbl g2 g3 g4 g5 h
    have HST := Lib.hid Hst; have HCC := Lib.hid HC
    clear Hst HC g1 g2 g3 g4 h2' hi hpre hsz
    gi_wp2_with (refine ⟨trivial, rfl, ?_⟩; gi_at_call 44; refine (CallsIn.inRound ll (callsIn_wide.2 HCC.out)).mono ?_; rintro e W3 ⟨rfl, hs⟩; have HS := Lib.hid hs; clear hs)
    have := HST.out _ HS.out
    exact this
  case done =>
    intro W h hD
    have HD := Lib.hid hD; have HI := Lib.hid h
    clear hD h
    gi_wp2
    obtain ⟨r', g1, g2, g3, g4, g5⟩ := HI.out
    refine ⟨by simp, .inl ⟨_, _, rfl, run_takeDeferred HD.out, ?_⟩⟩
    refine ⟨_, results_tmp rfl _ _ _, rfl, ?_⟩
    have hs : Same [w.heap.size + 3] W (W.putObj (w.heap.size + 3) (.deferred none)) := same_putObj _ _ _ _ (by simp)
    refine ⟨r', g1.same hs (by simp; omega) (fun k hk => ?_), g2.trans hs (fun x hx hlt => by simp at hx; omega), fun k hk => ?_⟩
    · have := (g3 k hk).2; simp; omega
    · rcases (g3 k hk).1 with h | h
      · exact .inl h
      · exact .inr (by omega)

def PutFrom (w1 : World) (b : Nat) (l : List Bool) (e : Ending) (w' : World) : Prop := e = .returned (.int .i64 0) ∧ OutStep w1 b none l w'

/-- Put on a writer that was made when the heap was w1's, by Go's own numbers. -/
theorem put_from (w1 : World) (b : Nat) (l : List Bool) (X N : Int) (w : World) (hO : OutStep w1 b none l w) (hl : l.length + 64 < 1099511627776) (h1 : 0 ≤ N) (h2 : N ≤ 64) (h3 : 0 ≤ X) (h4 : X < 18446744073709551616) :
    Calls Try.prog 32 #[.pointer (some ⟨b, 0, none⟩), .int .u64 X, .int .i64 N] w (PutFrom w1 b (l ++ bitsOf X.toNat N.toNat)) := by
  obtain ⟨r, ho, hs, hr⟩ := hO
  have := put_ok b r l X.toNat N.toNat w ho hl (by omega) (by omega)
  rw [Int.toNat_of_nonneg h1, Int.toNat_of_nonneg h3] at this
  exact this.mono fun e w' ⟨he, hp⟩ => ⟨he, OutStep.trans hr hs hp⟩

theorem isOut_new (w : World) : OutStep (w.alloc (.cells #[.slice none 0 0, .int .i64 0] 75)) w.heap.size none [] (w.alloc (.cells #[.slice none 0 0, .int .i64 0] 75)) :=
  ⟨none, ⟨.slice none 0 0, World.alloc_heap_new _ _, World.ownsRow_nil _ _ _ _, rfl, by simp⟩, Same.refl _ _, fun k hk => by cases hk⟩

end Go.Proofs.Ytabglpkoklajlaa
