/- What a datagram's beginning tells: pair, peek4, peek6. Conditions: bytes enough. -/
import Derived.Test.YtdkjcocpkgojaaaDoorHDgMake4
namespace Go.Proofs.YtdkjcocpkgojaaaDoor.Dg
open Go.RowKit
set_option linter.unusedSimpArgs false
set_option linter.unusedVariables false

theorem i64_or_nat (a b : Nat) (ha : a < 9223372036854775808) (hb : b < 9223372036854775808) : bits .or .i64 (a : Int) (b : Int) = ((a ||| b : Nat) : Int) := by
  have hx : a ||| b < 2 ^ 63 := Nat.or_lt_two_pow (by omega) (by omega)
  show IntKind.i64.wrap ((BitVec.ofInt 64 (a : Int) ||| BitVec.ofInt 64 (b : Int)).toNat : Int) = _
  rw [BitVec.toNat_or, ofInt_u64 a (by omega), ofInt_u64 b (by omega)]
  exact IntWalk.i64_in _ (by omega)
theorem or_word (a b : Nat) (ha : a < 256) (hb : b < 256) : bits .or .i64 ((a : Int) * 256) (b : Int) = 256 * (a : Int) + (b : Int) := by
  have h := i64_or_nat (a * 256) b (by omega) (by omega)
  rw [nat_join 8 _ _ (by omega) (by omega)] at h
  rw [show ((a : Int) * 256) = ((a * 256 : Nat) : Int) by omega, h]
  omega
theorem and_low (a : Nat) (ha : a < 256) : bits .and .u8 (a : Int) 15 = (a : Int) % 16 := by
  have h := u8_and_nat a 15 (by omega) (by omega)
  rw [show ((15 : Nat) : Int) = 15 from rfl, show (15 : Nat) = 2 ^ 4 - 1 by rfl, Nat.and_two_pow_sub_one_eq_mod] at h
  rw [h]; omega

theorem pair_any (s : ByteArray) (n : Int) (w : World) (h0 : 0 ≤ n) (h : n + 1 < s.size) (hs : s.size ≤ maxLen) :
    Calls Tryd.prog 54 #[.string s, .int .i64 n] w (Ret (.int .i64 (256 * (byteOf s n.toNat : Nat) + (byteOf s (n.toNat + 1) : Nat))) w) := by
  unfold maxLen at hs
  obtain ⟨k, rfl⟩ : ∃ k : Nat, n = k := ⟨n.toNat, by omega⟩
  rw [Int.toNat_natCast]
  have b0 := byteOf_at s k (by omega)
  have b1 := byteOf_at s (k + 1) (by omega)
  have l0 := byteOf_lt s k
  have l1 := byteOf_lt s (k + 1)
  have ho := or_word (byteOf s k) (byteOf s (k + 1)) l0 l1
  have h1 : (k : Int) < (s.size : Int) := by omega
  have hk1 : IntKind.i64.wrap ((k : Int) + 1) = (k : Int) + 1 := IntWalk.i64_in _ (by omega)
  have hk2 : ((k : Int) + 1).toNat = k + 1 := by omega
  have hk3 : (0 : Int) ≤ (k : Int) + 1 := by omega
  go_enter Tryd.func54, Tryd.ntmps54
  go_wp2
  go_region
  go_wp2
  go_ret
  exact ⟨rfl, (Same.refl _ w).drew⟩

/-- A header: version, header's length, length, protocol. -/
structure Hd where
  v : Int
  h : Int
  l : Int
  p : Int
def Hd.val (x : Hd) : Value := .agg #[.int .i64 x.v, .int .i64 x.h, .int .i64 x.l, .int .i64 x.p]
def hd0 : Hd := ⟨0, 0, 0, 0⟩
def hd4 (s : ByteArray) : Hd := ⟨4, 4 * ((byteOf s 0 : Int) % 16), 256 * (byteOf s 2 : Nat) + (byteOf s 3 : Nat), (byteOf s 9 : Nat)⟩
def hd6 (s : ByteArray) : Hd := ⟨6, 40, 40 + (256 * (byteOf s 4 : Nat) + (byteOf s 5 : Nat)), (byteOf s 6 : Nat)⟩

theorem cells4 {W : World} {c : Nat} {e : TypeId} {v0 v1 v2 v3 : Value} (h : W.heap[c]? = some (.cells #[v0, v1, v2, v3] e (0, 0))) :
    W.cell? ⟨c, 0, none⟩ = some v0 ∧ W.cell? ⟨c, 1, none⟩ = some v1 ∧ W.cell? ⟨c, 2, none⟩ = some v2 ∧ W.cell? ⟨c, 3, none⟩ = some v3 ∧
    W.frozen? ⟨c, 0, none⟩ = false ∧ W.frozen? ⟨c, 1, none⟩ = false ∧ W.frozen? ⟨c, 2, none⟩ = false ∧ W.frozen? ⟨c, 3, none⟩ = false :=
  ⟨by rw [cell_of h]; rfl, by rw [cell_of h]; rfl, by rw [cell_of h]; rfl, by rw [cell_of h]; rfl, free_of h 0, free_of h 1, free_of h 2, free_of h 3⟩
set_option maxHeartbeats 1000000 in
theorem peek4_any (s : ByteArray) (w : World) (h : 20 ≤ s.size) (hs : s.size ≤ maxLen) :
    Calls Tryd.prog 50 #[.string s] w (Ret (hd4 s).val w) := by
  have hp := fun W => pair_any s 2 W (by omega) (by omega) hs
  rw [show (2 : Int).toNat = 2 from rfl] at hp
  unfold maxLen at hs
  have b0 := byteOf_at s 0 (by omega)
  have b9 := byteOf_at s 9 (by omega)
  have l0 := byteOf_lt s 0
  have l9 := byteOf_lt s 9
  have hand := and_low (byteOf s 0) l0
  have h0 : (0 : Int) < (s.size : Int) := by omega
  have h9 : (9 : Int) < (s.size : Int) := by omega
  have hw1 : IntKind.i64.wrap ((byteOf s 0 : Int) % 16) = (byteOf s 0 : Int) % 16 := IntWalk.i64_in _ (by omega)
  have hw2 : IntKind.i64.wrap (4 * ((byteOf s 0 : Int) % 16)) = 4 * ((byteOf s 0 : Int) % 16) := IntWalk.i64_in _ (by omega)
  have hw3 : IntKind.i64.wrap (byteOf s 9 : Int) = (byteOf s 9 : Int) := IntWalk.i64_in _ (by omega)
  have hn := heap_alloc_new w (.cells #[.int .i64 0, .int .i64 0, .int .i64 0, .int .i64 0] 85)
  go_enter Tryd.func50, Tryd.ntmps50
  go_wp2
  go_region_with (go_at_call 54; refine (hp _).mono ?_; rintro e w' ⟨rfl, hs⟩; obtain ⟨sc1, sc2⟩ := scell hs; have HS := Lib.hid hs; clear hs)
  all_goals go_wp2
  all_goals
    have b1 := HS.out.heap (o := .cells #[.int .i64 0, .int .i64 0, .int .i64 0, .int .i64 0] 85 (0, 0)) (k := w.heap.size) (by exact hn) (by simp)
    obtain ⟨k0, k1, k2, k3, f0, f1, f2, f3⟩ := cells4 b1
    refine bodyPost_ret (v := (hd4 s).val) ?_ rfl ⟨rfl, ?_⟩
    · simp [results, Tryd.results50, go_sem, k0, k1, k2, k3, hd4, Hd.val]
    · have hsw : Same [] w w' := ((Same.refl [] w).alloc _).drew.trans_nil HS.out
      exact (((hsw.setCell (fun h => absurd h (Nat.lt_irrefl _)) _).setCell (fun h => absurd h (Nat.lt_irrefl _)) _).setCell (fun h => absurd h (Nat.lt_irrefl _)) _).setCell (fun h => absurd h (Nat.lt_irrefl _)) _

set_option maxHeartbeats 1000000 in
theorem peek6_any (s : ByteArray) (w : World) (h : 40 ≤ s.size) (hs : s.size ≤ maxLen) :
    Calls Tryd.prog 51 #[.string s] w (Ret (hd6 s).val w) := by
  have hp := fun W => pair_any s 4 W (by omega) (by omega) hs
  rw [show (4 : Int).toNat = 4 from rfl] at hp
  unfold maxLen at hs
  have b9 := byteOf_at s 6 (by omega)
  have l9 := byteOf_lt s 6
  have l4 := byteOf_lt s 4
  have l5 := byteOf_lt s 5
  have h9 : (6 : Int) < (s.size : Int) := by omega
  have hw2 : IntKind.i64.wrap (40 + (256 * (byteOf s 4 : Int) + (byteOf s 5 : Int))) = 40 + (256 * (byteOf s 4 : Int) + (byteOf s 5 : Int)) := IntWalk.i64_in _ (by omega)
  have hw3 : IntKind.i64.wrap (byteOf s 6 : Int) = (byteOf s 6 : Int) := IntWalk.i64_in _ (by omega)
  have hn := heap_alloc_new w (.cells #[.int .i64 0, .int .i64 0, .int .i64 0, .int .i64 0] 85)
  go_enter Tryd.func51, Tryd.ntmps51
  go_wp2
  go_region_with (go_at_call 54; refine (hp _).mono ?_; rintro e w' ⟨rfl, hs⟩; obtain ⟨sc1, sc2⟩ := scell hs; have HS := Lib.hid hs; clear hs)
  all_goals go_wp2
  all_goals
    have b1 := HS.out.heap (o := .cells #[.int .i64 0, .int .i64 0, .int .i64 0, .int .i64 0] 85 (0, 0)) (k := w.heap.size) (by exact hn) (by simp)
    obtain ⟨k0, k1, k2, k3, f0, f1, f2, f3⟩ := cells4 b1
    refine bodyPost_ret (v := (hd6 s).val) ?_ rfl ⟨rfl, ?_⟩
    · simp [results, Tryd.results51, go_sem, k0, k1, k2, k3, hd6, Hd.val]
    · have hsw : Same [] w w' := ((Same.refl [] w).alloc _).drew.trans_nil HS.out
      exact (((hsw.setCell (fun h => absurd h (Nat.lt_irrefl _)) _).setCell (fun h => absurd h (Nat.lt_irrefl _)) _).setCell (fun h => absurd h (Nat.lt_irrefl _)) _).setCell (fun h => absurd h (Nat.lt_irrefl _)) _

end Go.Proofs.YtdkjcocpkgojaaaDoor.Dg
