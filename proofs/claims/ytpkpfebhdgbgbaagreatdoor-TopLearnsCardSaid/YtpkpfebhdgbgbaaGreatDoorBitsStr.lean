/- The writer of bits: what add leaves: one bit more, behind the others. Condition: fewer than 2^40 bits. The writer of bits: falling, Put, String, Len. Condition: fewer than 2^40 bits. The writer of bits: String. Condition: fewer than 2^40 bits. -/
import Derived.Test.YtpkpfebhdgbgbaaGreatDoorChecked
import Derived.Test.YtpkpfebhdgbgbaaGreatDoorOpen
import Derived.Test.YtpkpfebhdgbgbaaGreatDoorPack
import Derived.BigQuiet
import Derived.Deep.QuietTactic
import Derived.BigRegion
import Derived.Deep.DeepFit
import Derived.Deep.DeepMust
import Derived.Maps.AppendAt
import Derived.Shelf.Abstract
import Derived.Shelf.RegionOpen
import Derived.OwnWalkIn
import Derived.TacticsInMore
import Derived.LoopNIn
import Derived.LoopIn
namespace Go.Proofs.YtpkpfebhdgbgbaaGreatDoor
open Go.RowKit
set_option linter.unusedSimpArgs false
set_option linter.unusedVariables false

/-- Block b is a writer that holds the bits l; its bytes lie in block r. -/
def IsOut (w : World) (b : Nat) (r : Option Nat) (l : List Bool) : Prop :=
  ∃ v, w.heap[b]? = some (.cells #[v, .int .i64 l.length] 215 (0, 0)) ∧ w.ownsRow 0 5 1 v (pack l).length (u8s (pack l)) ∧ v.ownBlock = r ∧ r ≠ some b

def OutStep (w : World) (b : Nat) (r : Option Nat) (l : List Bool) (w' : World) : Prop :=
  ∃ r', IsOut w' b r' l ∧ Same (b :: r.toList) w w' ∧ (∀ k, r' = some k → r = some k ∨ w.heap.size ≤ k)

theorem OutStep.trans {w w1 w2 : World} {b : Nat} {r r1 : Option Nat} {l : List Bool} (hr : ∀ k, r1 = some k → r = some k ∨ w.heap.size ≤ k) (hs : Same (b :: r.toList) w w1) (h : OutStep w1 b r1 l w2) : OutStep w b r l w2 := by
  obtain ⟨r', ho, hs', hr'⟩ := h
  refine ⟨r', ho, hs.trans hs' (fun x hx hlt => ?_), fun k hk => ?_⟩
  · simp only [List.mem_cons, Option.mem_toList] at hx ⊢
    rcases hx with hx | hx
    · exact .inl hx
    · rcases hr x hx with h | h
      · exact .inr h
      · omega
  · rcases hr' k hk with h | h
    · exact hr k h
    · exact .inr (Nat.le_trans hs.size h)

theorem IsOut.same {A B : World} {b : Nat} {r : Option Nat} {l : List Bool} {S : List Nat} (h : IsOut A b r l) (hs : Same S A B) (hb : b ∉ S) (hr : ∀ k, r = some k → k ∉ S) : IsOut B b r l := by
  obtain ⟨v, h1, h2, rfl, h4⟩ := h
  refine ⟨v, hs.heap h1 hb, ⟨h2.1, ?_⟩, rfl, h4⟩
  rcases h2.2 with h | ⟨g, cap, cur, rfl, h5, h6, h7⟩
  · exact .inl h
  · exact .inr ⟨g, cap, cur, rfl, h5, hs.heap h6 (hr g rfl), h7⟩
theorem IsOut.lt {A : World} {b : Nat} {r : Option Nat} {l : List Bool} (h : IsOut A b r l) : b < A.heap.size ∧ ∀ k, r = some k → k < A.heap.size := by
  obtain ⟨v, h1, h2, rfl, h4⟩ := h
  exact ⟨heap_lt h1, fun k hk => (h2.lt k hk).2⟩

def AddPost (w : World) (b : Nat) (r : Option Nat) (l : List Bool) (e : Ending) (w' : World) : Prop := e = .returned (.tuple #[]) ∧ OutStep w b r l w'

theorem Tryz.info5 : (Tryz.prog.info? 5).map (fun i => (i.zero, i.size, i.bytes)) = some (some (.int .u8 0), 1, 1) := by kernel_rfl

theorem nat_or_bit (y j : Nat) (x : Bool) (hy : y < 256) (hj : j < 8) (hl : y % 2 ^ (8 - j) = 0) (X : Int) (hX : X = x.toNat) :
    bits .or .u8 (y : Int) (X * 2 ^ (7 - j) % 256) = ((y + x.toNat * 2 ^ (7 - j) : Nat) : Int) := by rw [hX]; exact or_bit y j x hy hj hl

theorem add_old_post (b g cap n : Nat) (cur : Array Value) (x : Bool) (w : World) (l : List Bool) (hm : l.length % 8 ≠ 0) (hn : l.length / 8 = n)
    (hb : w.heap[b]? = some (.cells #[.slice (some ⟨g, 0, none⟩) (n + 1) cap, .int .i64 l.length] 215 (0, 0)))
    (hg : w.heap[g]? = some (.cells cur 5 (0, 0))) (hc : n + 1 ≤ cap) (hcm : cap ≤ maxLen) (hcs : cur.size = cap * 1) (ht : cur.toList.take ((n + 1) * 1) = u8s (pack l)) (hbg : g ≠ b) :
    OutStep w b (some g) (l ++ [x]) (((w.setCell ⟨g, n, none⟩ (.int .u8 ((byteAt l n + x.toNat * 2 ^ (7 - l.length % 8) : Nat) : Int))).setCell ⟨b, 1, none⟩ (.int .i64 ((l.length : Int) + 1))).drew) := by
  have hlen : (pack (l ++ [x])).length = n + 1 := by rw [length_pack]; simp; omega
  refine ⟨some g, ⟨.slice (some ⟨g, 0, none⟩) (n + 1) cap, ?_, ?_, rfl, by simp [hbg]⟩, ?_, fun k hk => .inl hk⟩
  · rw [drew_heap, set_same (c := #[.slice (some ⟨g, 0, none⟩) (n + 1) cap, .int .i64 l.length]) (by rw [set_other _ hbg.symm]; exact hb)]
    simp
  · refine ⟨by simp [u8s], .inr ⟨g, cap, cur.setIfInBounds n (.int .u8 ((byteAt l n + x.toNat * 2 ^ (7 - l.length % 8) : Nat) : Int)), by rw [hlen], Nat.zero_le _, ?_, by omega, hcm, by simp [hcs], ?_⟩⟩
    · rw [drew_heap, set_other _ hbg, set_same hg]
    · rw [hlen, Array.toList_setIfInBounds, pack_snoc_old l x hm, hn]
      have := congrArg (fun z => z.set n (Value.int .u8 ((byteAt l n + x.toNat * 2 ^ (7 - l.length % 8) : Nat) : Int))) ht
      simp only [List.take_set] at this ⊢
      rw [this]
      simp only [u8s, List.map_set]
  · exact (((Same.refl _ w).setCell (by simp) _).setCell (by simp) _).drew

set_option maxHeartbeats 1000000 in
theorem add_old (b : Nat) (r : Option Nat) (l : List Bool) (x : Bool) (w : World) (hO : IsOut w b r l) (hl : l.length < 1099511627776) (hm : l.length % 8 ≠ 0) (X : Int) (hX : X = x.toNat) :
    Calls Tryz.prog 155 #[.pointer (some ⟨b, 0, none⟩), .int .u8 X] w (AddPost w b r (l ++ [x])) := by
  obtain ⟨v, hb, ⟨hx1, hx2⟩, rfl, hrb⟩ := hO
  obtain ⟨n, hn⟩ : ∃ n, l.length / 8 = n := ⟨_, rfl⟩
  have hpl : (pack l).length = n + 1 := by rw [length_pack]; omega
  rcases hx2 with ⟨_, h0⟩ | ⟨g, cap, cur, rfl, _, hg, hnc, hcm, hcs, ht⟩
  · omega
  rw [hpl] at hb hnc ht
  have hbg : g ≠ b := by simpa [Value.ownBlock] using hrb
  have hget : cur[n]? = some (.int .u8 (byteAt l n : Nat)) := by
    have h1 := congrArg (fun z => z[n]?) ht
    simp only [List.getElem?_take] at h1
    rw [if_pos (by omega)] at h1
    rw [← Array.getElem?_toList, h1]
    simp [u8s, List.getElem?_map, pack_get l n (by omega)]
  have h0 : w.cell? ⟨b, 0, none⟩ = some (.slice (some ⟨g, 0, none⟩) (n + 1) cap) := by rw [cell_of hb]; rfl
  have h1 : w.cell? ⟨b, 1, none⟩ = some (.int .i64 l.length) := by rw [cell_of hb]; rfl
  have hf1 : w.frozen? ⟨b, 1, none⟩ = false := free_of hb 1
  have h2 : w.cell? ⟨g, n, none⟩ = some (.int .u8 (byteAt l n : Nat)) := by rw [cell_of hg]; exact hget
  have hf2 : w.frozen? ⟨g, n, none⟩ = false := free_of hg n
  have P := add_old_post b g cap n cur x w l hm hn hb hg hnc hcm hcs ht hbg
  have E := nat_or_bit (byteAt l n) (l.length % 8) x (byteAt_lt _ _) (by omega) (by rw [← hn]; exact byteAt_low l) X hX
  have hm' : ((l.length : Int) % 8 == 0) = false := by rw [beq_eq_false_iff_ne]; omega
  have hX0 : 0 ≤ X := by omega
  have hX1 : X ≤ 1 := by have : x.toNat ≤ 1 := by cases x <;> simp
                         omega
  have HP := Lib.hid P
  have HE := Lib.hid E
  have hk : l.length < 1099511627776 := hl
  have hn1 : n < 1099511627776 := by omega
  have hbg' : b ≠ g := hbg.symm
  unfold maxLen at hcm
  clear P E hX hm hn hpl hrb hx1 hb hg hcs ht hget hl
  generalize hKK : l.length = k at *
  go_enter Tryz.func155, Tryz.ntmps155
  go_wp2
  go_region
  go_wp2
  go_end0
  refine ⟨rfl, ?_⟩
  rw [HE.out]
  exact HP.out

theorem grow_succ {w : World} {base e : Nat} {v : Value} {n : Nat} {xs : List Value} (h : w.ownsRow base e 1 v (n + 1) xs) :
    ∃ g cap cur, v = .slice (some ⟨g, 0, none⟩) (n + 1) cap ∧ w.heap[g]? = some (.cells cur e (0, 0)) ∧ n + 1 ≤ cap ∧ cap ≤ maxLen ∧ cur.size = cap ∧ cur.toList.take (n + 1) = xs := by
  rcases h.2 with ⟨_, h0⟩ | ⟨g, cap, cur, rfl, _, hg, hnc, hcm, hcs, ht⟩
  · omega
  · exact ⟨g, cap, cur, rfl, hg, hnc, hcm, by omega, by simpa using ht⟩

theorem add_new_post (b : Nat) (v : Value) (g cap n : Nat) (cur : Array Value) (x : Bool) (w w1 : World) (l : List Bool) (hm : l.length % 8 = 0) (hn : (pack l).length = n)
    (hb : w.heap[b]? = some (.cells #[v, .int .i64 l.length] 215 (0, 0))) (hvb : v.ownBlock ≠ some b)
    (hgrow : (w.alloc (.cells #[.int .u8 0] 5)).grownBy w1 v.ownBlock)
    (hgb : v.ownBlock = some g ∨ (w.alloc (.cells #[.int .u8 0] 5)).heap.size ≤ g)
    (hg : w1.heap[g]? = some (.cells cur 5 (0, 0))) (hc : n + 1 ≤ cap) (hcm : cap ≤ maxLen) (hcs : cur.size = cap) (ht : cur.toList.take (n + 1) = u8s (pack l) ++ [.int .u8 0]) :
    OutStep w b v.ownBlock (l ++ [x]) ((((w1.setCell ⟨b, 0, none⟩ (.slice (some ⟨g, 0, none⟩) (n + 1) cap)).setCell ⟨g, n, none⟩ (.int .u8 (((x.toNat * 128 : Nat) : Int)))).setCell ⟨b, 1, none⟩ (.int .i64 ((l.length : Int) + 1))).drew) := by
  have hlt := heap_lt hb
  have hbg : b ≠ g := by
    rcases hgb with h | h
    · intro e; subst e; exact hvb h
    · simp at h; omega
  have hb1 : w1.heap[b]? = some (.cells #[v, .int .i64 l.length] 215 (0, 0)) := (hgrow.block b (by simp; omega) (fun e => hvb e.symm)).trans ((Below.heap_alloc _ _ _ hlt).trans hb)
  have hlen : (pack (l ++ [x])).length = n + 1 := by rw [pack_snoc_new l x hm]; simp [hn]
  refine ⟨some g, ⟨.slice (some ⟨g, 0, none⟩) (n + 1) cap, ?_, ?_, rfl, by simp [hbg.symm]⟩, ?_, fun k hk => ?_⟩
  · rw [drew_heap, set_same (c := #[.slice (some ⟨g, 0, none⟩) (n + 1) cap, .int .i64 l.length]) (by rw [set_other _ hbg, set_same hb1]; rfl)]
    simp
  · refine ⟨by simp [u8s], .inr ⟨g, cap, cur.setIfInBounds n (.int .u8 ((x.toNat * 128 : Nat) : Int)), by rw [hlen], Nat.zero_le _, ?_, by omega, hcm, by simp [hcs], ?_⟩⟩
    · rw [drew_heap, set_other _ hbg.symm, set_same (by rw [set_other _ hbg.symm]; exact hg)]
    · rw [hlen, Array.toList_setIfInBounds, pack_snoc_new l x hm]
      simp only [Nat.mul_one, List.take_set]
      rw [ht, ← hn]
      simp only [u8s, List.map_append, List.map_cons, List.map_nil]
      rw [List.set_append_right _ _ (by simp)]
      simp
  · refine ((((((Same.refl _ w).alloc _).grown hgrow ?_).setCell ?_ _).setCell ?_ _).setCell ?_ _).drew
    · intro k hk _; simp [hk]
    · simp
    · intro hlt'; rcases hgb with h | h
      · simp [h]
      · simp at h; simp at hlt'; omega
    · simp
  · cases hk
    rcases hgb with h | h
    · exact .inl h
    · simp at h; exact .inr (by omega)

set_option maxHeartbeats 1000000 in
theorem add_new (b : Nat) (r : Option Nat) (l : List Bool) (x : Bool) (w : World) (hO : IsOut w b r l) (hl : l.length < 1099511627776) (hm : l.length % 8 = 0) (X : Int) (hX : X = x.toNat) :
    Calls Tryz.prog 155 #[.pointer (some ⟨b, 0, none⟩), .int .u8 X] w (AddPost w b r (l ++ [x])) := by
  obtain ⟨v, hb, hown, rfl, hrb⟩ := hO
  obtain ⟨n, hn⟩ : ∃ n, (pack l).length = n := ⟨_, rfl⟩
  rw [hn] at hown
  have hn2 : n < 1099511627776 := by rw [← hn, length_pack]; omega
  have h0 : w.cell? ⟨b, 0, none⟩ = some v := by rw [cell_of hb]; rfl
  have h1 : w.cell? ⟨b, 1, none⟩ = some (.int .i64 l.length) := by rw [cell_of hb]; rfl
  have hf0 : w.frozen? ⟨b, 0, none⟩ = false := free_of hb 0
  have hbw : b < w.heap.size := heap_lt hb
  have hm' : ((l.length : Int) % 8 == 0) = true := by rw [beq_iff_eq]; omega
  have hX0 : 0 ≤ X := by omega
  have hX1 : X ≤ 1 := by have : x.toNat ≤ 1 := by cases x <;> simp
                         omega
  have HM := Lib.hid hm; have HN := Lib.hid hn; have HX := Lib.hid hX; have HB := Lib.hid hb; have HR := Lib.hid hrb
  have hk : l.length < 1099511627776 := hl
  clear hX hm hn hrb hb hl
  obtain ⟨i0, hi, hz0, hz1, hz2⟩ := info_parts Tryz.info5
  go_enter Tryz.func155, Tryz.ntmps155
  go_wp2_with (at_builtin; refine wpList_append_own_at _ rfl (.tmp 14) (.tmp 15) 33 rfl 0 5 i0 (.int .u8 0) 1 1 Tryz.underlying33 hi hz0 hz1 hz2 rfl (by decide) _ _ _ rfl (hown.alloc _) ⟨w.heap.size, 0, none⟩ 1 1 [.int .u8 0] rfl rfl ?c1 ?c2 ?c3 ?c4 ?c5 ?_)
  case c1 => exact cell_one_new _ _ _
  case c2 => intro u hu; simp at hu; subst hu; rfl
  case c3 => unfold maxLen; omega
  case c4 => omega
  case c5 => simp
  intro v' w1 hown' hgrow _ hat
  have hex := grow_succ hown'
  obtain ⟨g, cap, cur, hv', hg, hc, hcm, hcs, ht⟩ := hex
  have hgb : v.ownBlock = some g ∨ (w.alloc (.cells #[.int .u8 0] 5)).heap.size ≤ g := by
    rw [hv'] at hat
    rcases hat with h | h
    · exact .inl h.symm
    · exact .inr (by simp [Value.ownBlock] at h; simp; omega)
  have P := add_new_post b v g cap n cur x w w1 l HM.out HN.out HB.out HR.out hgrow hgb hg hc hcm hcs ht
  have HP := Lib.hid P
  have hbg : b ≠ g := by
    rcases hgb with h | h
    · intro e; subst e; exact HR.out h
    · simp at h; omega
  have hb1 : w1.heap[b]? = some (.cells #[v, .int .i64 l.length] 215 (0, 0)) := (hgrow.block b (by simp; omega) (fun e => HR.out e.symm)).trans ((Below.heap_alloc _ _ _ hbw).trans HB.out)
  have c0 : w1.cell? ⟨b, 0, none⟩ = some v := by rw [cell_of hb1]; rfl
  have c1 : w1.cell? ⟨b, 1, none⟩ = some (.int .i64 l.length) := by rw [cell_of hb1]; rfl
  have cf0 : w1.frozen? ⟨b, 0, none⟩ = false := free_of hb1 0
  have cf1 : w1.frozen? ⟨b, 1, none⟩ = false := free_of hb1 1
  have cg : w1.cell? ⟨g, n, none⟩ = some (.int .u8 0) := by
    rw [cell_of hg, ← Array.getElem?_toList]
    have h1 := congrArg (fun z => z[n]?) ht
    simp only [List.getElem?_take] at h1
    rw [if_pos (by omega)] at h1
    rw [h1, List.getElem?_append_right (by simp [u8s, HN.out])]
    simp [u8s, HN.out]
  have cfg : w1.frozen? ⟨g, n, none⟩ = false := free_of hg n
  have hgb' : g ≠ b := hbg.symm
  have hm0 : (l.length : Int) % 8 = 0 := by have := HM.out; omega
  have hE : bits .or .u8 0 (X * 128) = ((x.toNat * 128 : Nat) : Int) := by rw [HX.out]; cases x <;> rfl
  have HE := Lib.hid hE
  unfold maxLen at hcm
  rw [hv']
  clear P hE hown' hgrow hat hv' hgb hb1 hg ht hcs hown h0 h1 hf0 hi hz0 hz1 hz2
  go_wp2
  go_region
  go_wp2
  go_end0
  refine ⟨rfl, ?_⟩
  rw [HE.out]
  exact HP.out

theorem add_any (b : Nat) (r : Option Nat) (l : List Bool) (x : Bool) (w : World) (hO : IsOut w b r l) (hl : l.length < 1099511627776) (X : Int) (hX : X = x.toNat) :
    Calls Tryz.prog 155 #[.pointer (some ⟨b, 0, none⟩), .int .u8 X] w (AddPost w b r (l ++ [x])) := by
  by_cases hm : l.length % 8 = 0
  · exact add_new b r l x w hO hl hm X hX
  · exact add_old b r l x w hO hl hm X hX

end Go.Proofs.YtpkpfebhdgbgbaaGreatDoor
namespace Go.Proofs.YtpkpfebhdgbgbaaGreatDoor
open Go.RowKit Go.Shelf
attribute [local go_sem] Oper.semAt_some
set_option linter.unusedSimpArgs false
set_option linter.unusedVariables false

def bitsOf (x n : Nat) : List Bool := (List.range n).map fun i => decide (x / 2 ^ (n - 1 - i) % 2 = 1)
theorem length_bitsOf (x n : Nat) : (bitsOf x n).length = n := by simp [bitsOf]
theorem bitsOf_take (x n k : Nat) (h : k < n) : (bitsOf x n).take (k + 1) = (bitsOf x n).take k ++ [decide (x / 2 ^ (n - 1 - k) % 2 = 1)] := by
  rw [List.take_add_one]; simp [bitsOf, h]
def bitV (b : Bool) : Array Value := #[.int .u8 b.toNat]
def numAt (w : World) (b : Nat) : Nat := match w.cell? ⟨b, 0, none⟩ with | some v => (intOf v).toNat | none => 0

theorem numAt_eq {w : World} {b n : Nat} {e : TypeId} (h : w.heap[b]? = some (.cells #[.int .i64 (n : Int)] e (0, 0))) : numAt w b = n := by
  unfold numAt; rw [cell_of h]; simp [intOf]
theorem bit_of (X m : Nat) (hX : X < 18446744073709551616) : Value.int .u8 ((decide (X / 2 ^ m % 2 = 1)).toNat : Int) = Value.int .u8 (bits .and .u64 ((X : Int) / 2 ^ m) 1 % 256) := by
  have e : ((X : Int) / 2 ^ m) = ((X / 2 ^ m : Nat) : Int) := by simp
  have hd : X / 2 ^ m ≤ X := Nat.div_le_self _ _
  rw [e, show (1 : Int) = ((1 : Nat) : Int) from rfl, u64_and_nat _ _ (by omega) (by omega), nat_mask1]
  have h2 : X / 2 ^ m % 2 < 2 := Nat.mod_lt _ (by omega)
  congr 1
  generalize X / 2 ^ m % 2 = z at *
  have : z = 0 ∨ z = 1 := by omega
  rcases this with rfl | rfl <;> rfl

set_option maxHeartbeats 400000 in
theorem falling1_full (X N : Nat) (hN : N ≤ 64) (hX : X < 18446744073709551616) (w0 : World) (bx bn : Nat) (hne : bx ≠ bn)
    (hbx : w0.heap[bx]? = some (.cells #[.int .u64 X] 216 (0, 0))) (hbn : w0.heap[bn]? = some (.cells #[.int .i64 N] 3 (0, 0))) :
    SeqFull Tryz.prog 171 #[.pointer (some ⟨bn, 0, none⟩), .pointer (some ⟨bx, 0, none⟩)] bitV (bitsOf X N) [bx, bn] w0 := by
  intro l J W hW hJ hY h0
  refine callsIn_of_wp Tryz.func171 rfl trivial ?_ rfl
  simp only [Tryz.ntmps171, List.size_toArray, List.length_cons, List.length_nil, Nat.reduceAdd, Nat.reduceSub, Array.replicate_succ, Array.replicate_zero, List.push_toArray, List.append_toArray, List.nil_append, List.cons_append]
  gi_wp2
  gi_loopw [4] (fun _ wr => ∃ m : Nat, m ≤ N ∧ wr.heap[bx]? = some (.cells #[.int .u64 X] 216 (0, 0)) ∧ wr.heap[bn]? = some (.cells #[.int .i64 (m : Int)] 3 (0, 0)) ∧ J ((bitsOf X N).take (N - m)) wr)
    (fun _ wr => numAt wr bn)
  case atStart =>
    exact ⟨N, Nat.le_refl _, hW.heap hbx (by simp), hW.heap hbn (by simp), by simpa using h0⟩
  case round =>
    obtain ⟨m, hk, hx, hn, hj⟩ := hrel
    have cx : wr.cell? ⟨bx, 0, none⟩ = some (.int .u64 X) := by rw [cell_of hx]; rfl
    have cn : wr.cell? ⟨bn, 0, none⟩ = some (.int .i64 (m : Int)) := by rw [cell_of hn]; rfl
    have fn : wr.frozen? ⟨bn, 0, none⟩ = false := free_of hn 0
    cases m with
    | zero =>
      gi_wp2
      go_end0
      exact ⟨⟨_, rfl⟩, by simpa [List.take_of_length_le, length_bitsOf] using hj⟩
    | succ m =>
      have hbitX : bitV (decide (X / 2 ^ m % 2 = 1)) = #[.int .u8 (bits .and .u64 ((X : Int) / 2 ^ m) 1 % 256)] := by rw [bitV, bit_of X m hX]
      have hnew : (wr.setCell ⟨bn, 0, none⟩ (.int .i64 (m : Int))).heap[bn]? = some (.cells #[.int .i64 (m : Int)] 3 (0, 0)) := set_same hn _
      have hnewx : (wr.setCell ⟨bn, 0, none⟩ (.int .i64 (m : Int))).heap[bx]? = some (.cells #[.int .u64 X] 216 (0, 0)) := by rw [set_other _ hne]; exact hx
      have hj2 := hJ _ _ _ hj ((Same.refl [bx, bn] wr).setCell (p := ⟨bn, 0, none⟩) (by simp) (.int .i64 (m : Int)))
      have hpre : (bitsOf X N).take (N - (m + 1)) ++ [decide (X / 2 ^ m % 2 = 1)] = (bitsOf X N).take (N - m) := by
        have := bitsOf_take X N (N - (m + 1)) (by omega)
        rw [show N - (m + 1) + 1 = N - m by omega, show N - 1 - (N - (m + 1)) = m by omega] at this
        exact this.symm
      obtain ⟨f0, tmps, assign, body, hy, hR⟩ := hY _ (decide (X / 2 ^ m % 2 = 1)) _ hj2 (by rw [hpre]; exact List.take_prefix _ _)
      rw [hbitX] at hy
      rw [hpre] at hR
      have HNX := Lib.hid hnew; have HXX := Lib.hid hnewx
      have hms := numAt_eq hn
      have HMS := Lib.hid hms
      clear hnew hnewx hbitX hY hJ h0 hbx hbn hW hj hj2 hpre hms hx
      gi_wp2
      refine ⟨rfl, hR.mono ?_⟩
      rintro e W3 ⟨rfl, hJ3, hk3⟩
      have h3n := (hk3 bn (by simp)).trans HNX.out
      have h3x := (hk3 bx (by simp)).trans HXX.out
      have HJ3 := Lib.hid hJ3; have H3n := Lib.hid h3n; have H3x := Lib.hid h3x
      clear hJ3 h3n h3x hk3 hR hy hn
      gi_wp2
      go_roundw
      case rel => exact ⟨m, by omega, H3x.out, H3n.out, HJ3.out⟩
      case measure => rw [numAt_eq H3n.out, HMS.out]; simp

theorem falling_any (X N : Nat) (w : World) :
    Calls Tryz.prog 154 #[.int .u64 X, .int .i64 N] w fun e w' => e = .returned (.func (.func 171) #[] #[.pointer (some ⟨w.heap.size + 1, 0, none⟩), .pointer (some ⟨w.heap.size, 0, none⟩)]) ∧ w' = (w.alloc (.cells #[.int .u64 X] 216)).alloc (.cells #[.int .i64 N] 3) := by
  have hmf : ∀ (fn : Fn) (first cap : Array Value) (w : World), (Instr.makeFunc fn first cap).run Tryz.prog w = .ok (.func fn first cap) w := fun _ _ _ _ => rfl
  go_enter Tryz.func154, Tryz.ntmps154
  go_wp2
  go_ret
  exact ⟨rfl, rfl⟩

def PutPost (w : World) (b : Nat) (r : Option Nat) (l : List Bool) (e : Ending) (w' : World) : Prop := e = .returned (.int .i64 0) ∧ OutStep w b r l w'

def PutI (w : World) (b : Nat) (r : Option Nat) (l pre : List Bool) (W : World) : Prop :=
  ∃ r', IsOut W b r' (l ++ pre) ∧ Same (b :: r.toList) w W ∧ (∀ k, r' = some k → (r = some k ∨ w.heap.size + 5 ≤ k) ∧ (k < w.heap.size ∨ w.heap.size + 5 ≤ k)) ∧ W.heap[w.heap.size]? = some (.cells #[.pointer (some ⟨b, 0, none⟩)] 248 (0, 0)) ∧ w.heap.size + 5 ≤ W.heap.size

theorem PutI.abides {w : World} {b : Nat} {r : Option Nat} {l : List Bool} (hb : b < w.heap.size) (pre : List Bool) (A B : World) (h : PutI w b r l pre A) (hs : Same [w.heap.size + 3, w.heap.size + 3 + 1, w.heap.size + 1, w.heap.size + 1 + 1] A B) : PutI w b r l pre B := by
  obtain ⟨r', h1, h2, h3, h4, h5⟩ := h
  refine ⟨r', h1.same hs (by simp; omega) (fun k hk => ?_), h2.trans hs (fun x hx hlt => by simp at hx; omega), h3, hs.heap h4 (by simp; omega), Nat.le_trans h5 hs.size⟩
  have := (h3 k hk).2; simp; omega

theorem PutI.step {w : World} {b : Nat} {r : Option Nat} {l pre : List Bool} {W W' : World} {r' : Option Nat} {x : Bool} (hb : b < w.heap.size)
    (h2 : Same (b :: r.toList) w W) (h3 : ∀ k, r' = some k → (r = some k ∨ w.heap.size + 5 ≤ k) ∧ (k < w.heap.size ∨ w.heap.size + 5 ≤ k)) (h4 : W.heap[w.heap.size]? = some (.cells #[.pointer (some ⟨b, 0, none⟩)] 248 (0, 0))) (h5 : w.heap.size + 5 ≤ W.heap.size)
    (hs : OutStep W b r' (l ++ pre ++ [x]) W') : PutI w b r l (pre ++ [x]) W' ∧ PutKeeps [w.heap.size + 3, w.heap.size + 3 + 1, w.heap.size + 1, w.heap.size + 1 + 1] W W' := by
  obtain ⟨r2, g1, g2, g3⟩ := hs
  refine ⟨⟨r2, by simpa [List.append_assoc] using g1, h2.trans g2 (fun y hy hlt => ?_), fun k hk => ?_, g2.heap h4 ?_, Nat.le_trans h5 g2.size⟩, fun k hk => g2.block k ?_ ?_⟩
  · simp only [List.mem_cons, Option.mem_toList] at hy ⊢
    rcases hy with hy | hy
    · exact .inl hy
    · rcases h3 y hy with ⟨h | h, _⟩
      · exact .inr h
      · omega
  · rcases g3 k hk with h | h
    · exact h3 k h
    · exact ⟨.inr (by omega), .inr (by omega)⟩
  · simp only [List.mem_cons, Option.mem_toList, not_or]
    exact ⟨by omega, fun h => by have := (h3 _ h).2; omega⟩
  · simp at hk; omega
  · simp only [List.mem_cons, Option.mem_toList, not_or]
    simp at hk
    exact ⟨by omega, fun h => by have := (h3 _ h).2; omega⟩

set_option maxHeartbeats 1000000 in
theorem put_ok (b : Nat) (r : Option Nat) (l : List Bool) (X N : Nat) (w : World) (hO : IsOut w b r l) (hl : l.length + 64 < 1099511627776) (hN : N ≤ 64) (hX : X < 18446744073709551616) :
    Calls Tryz.prog 124 #[.pointer (some ⟨b, 0, none⟩), .int .u64 X, .int .i64 N] w (PutPost w b r (l ++ bitsOf X N)) := by
  have hbl := hO.lt.1
  have hrl := hO.lt.2
  have HO := Lib.hid hO
  have HR := Lib.hid hrl
  clear hO hrl
  have d1 : decide ((N : Int) < 0) = false := by simp
  have d2 : decide ((64 : Int) < (N : Int)) = false := by simp; omega
  refine (callsIn_wide (n := 0)).1 ?_
  refine callsIn_of_wp_marks Tryz.func124 rfl trivial ?_ rfl
  simp only [Tryz.ntmps124, List.size_toArray, List.length_cons, List.length_nil, Nat.reduceAdd, Nat.reduceSub, Array.replicate_succ, Array.replicate_zero, List.push_toArray, List.append_toArray, List.nil_append, List.cons_append]
  gi_wp2_with (refine ⟨trivial, rfl, ?_⟩; gi_at_call 154; refine (callsIn_wide.2 (falling_any _ _ _)).mono ?_; rintro e w' ⟨rfl, rfl⟩)
  refine wp_rangeFull (D := w.heap.size + 3) (by simp) (gf := 171) (lb := #[.pointer (some ⟨w.heap.size + 1 + 1, 0, none⟩), .pointer (some ⟨w.heap.size + 1, 0, none⟩)]) rfl (enters_of Tryz.func171 (by kernel_rfl) rfl)
    (falling1_full X N hN hX _ (w.heap.size + 1) (w.heap.size + 1 + 1) (by omega) ?hx ?hn) (fun _ => rfl) (fun k hk => by simp at hk ⊢; omega)
    (PutI w b r l) (PutI.abides hbl) ?h0
    ?round ?done
  case hx =>
    have := World.alloc_heap_new (w.alloc (.cells #[.pointer (some ⟨b, 0, none⟩)] 248)) (.cells #[.int .u64 X] 216)
    rw [World.size_alloc] at this
    exact (Below.heap_alloc _ _ _ (by simp)).trans this
  case hn =>
    have := World.alloc_heap_new ((w.alloc (.cells #[.pointer (some ⟨b, 0, none⟩)] 248)).alloc (.cells #[.int .u64 X] 216)) (.cells #[.int .i64 N] 3)
    rw [World.size_alloc, World.size_alloc] at this
    exact this
  case h0 =>
    intro W hW hz
    have hs : Same [] w W := ((((Same.refl [] w).alloc _).alloc _).alloc _).trans_nil hW
    have hw := HR.out
    refine ⟨r, ?_, hs.mono (fun x hx => by simp at hx), fun k hk => ⟨.inl hk, .inl (hw k hk)⟩, ?_, hz⟩
    · rw [List.append_nil]; exact HO.out.same hs (by simp) (fun k _ => by simp)
    · refine hW.heap (S := []) ?_ (by simp)
      exact (Below.heap_alloc _ _ _ (by simp; omega)).trans ((Below.heap_alloc _ _ _ (by simp)).trans (World.alloc_heap_new w _))
  case round =>
    intro ll pre x W hi hpre
    have hlen : pre.length + 1 ≤ N := by
      have := hpre.length_le; rw [length_bitsOf] at this; simpa using this
    dsimp only [bitV]
    gi_wp2
    refine ⟨trivial, ?_⟩
    intro W2 h2 hsz
    have h2' := h2
    obtain ⟨r', g1, g2, g3, g4, g5⟩ := h2
    have c0 : W2.cell? ⟨w.heap.size, 0, none⟩ = some (.pointer (some ⟨b, 0, none⟩)) := by rw [cell_of g4]; rfl
    have HC := add_any b r' (l ++ pre) x W2 g1 (by simp; omega) _ rfl
    have Hst : ∀ W3, OutStep W2 b r' (l ++ pre ++ [x]) W3 → PutI w b r l (pre ++ [x]) W3 ∧ PutKeeps [w.heap.size + 3, w.heap.size + 3 + 1, w.heap.size + 1, w.heap.size + 1 + 1] W2 W3 := fun W3 h => PutI.step hbl g2 g3 g4 g5 h
    have HST := Lib.hid Hst; have HCC := Lib.hid HC
    clear Hst HC g1 g2 g3 g4 h2' hi hpre hsz
    gi_wp2_with (refine ⟨trivial, rfl, ?_⟩; gi_at_call 155; refine (CallsIn.inRound ll (callsIn_wide.2 HCC.out)).mono ?_; rintro e W3 ⟨rfl, hs⟩; have HS := Lib.hid hs; clear hs)
    have := HST.out _ HS.out
    exact this
  case done =>
    intro W h hD
    have HD := Lib.hid hD; have HI := Lib.hid h
    clear hD h
    gi_wp2
    obtain ⟨r', g1, g2, g3, g4, g5⟩ := HI.out
    refine ⟨by simp, .inl ⟨_, _, rfl, run_takeDeferred HD.out, ?_⟩⟩
    refine ⟨_, results_tmp rfl _ _ _, rfl, ?_⟩
    have hs : Same [w.heap.size + 3] W (W.putObj (w.heap.size + 3) (.deferred none)) := same_putObj _ _ _ _ (by simp)
    refine ⟨r', g1.same hs (by simp; omega) (fun k hk => ?_), g2.trans hs (fun x hx hlt => by simp at hx; omega), fun k hk => ?_⟩
    · have := (g3 k hk).2; simp; omega
    · rcases (g3 k hk).1 with h | h
      · exact .inl h
      · exact .inr (by omega)

def PutFrom (w1 : World) (b : Nat) (l : List Bool) (e : Ending) (w' : World) : Prop := e = .returned (.int .i64 0) ∧ OutStep w1 b none l w'

/-- Put on a writer that was made when the heap was w1's, by Go's own numbers. -/
theorem put_from (w1 : World) (b : Nat) (l : List Bool) (X N : Int) (w : World) (hO : OutStep w1 b none l w) (hl : l.length + 64 < 1099511627776) (h1 : 0 ≤ N) (h2 : N ≤ 64) (h3 : 0 ≤ X) (h4 : X < 18446744073709551616) :
    Calls Tryz.prog 124 #[.pointer (some ⟨b, 0, none⟩), .int .u64 X, .int .i64 N] w (PutFrom w1 b (l ++ bitsOf X.toNat N.toNat)) := by
  obtain ⟨r, ho, hs, hr⟩ := hO
  have := put_ok b r l X.toNat N.toNat w ho hl (by omega) (by omega)
  rw [Int.toNat_of_nonneg h1, Int.toNat_of_nonneg h3] at this
  exact this.mono fun e w' ⟨he, hp⟩ => ⟨he, OutStep.trans hr hs hp⟩

theorem isOut_new (w : World) : OutStep (w.alloc (.cells #[.slice none 0 0, .int .i64 0] 215)) w.heap.size none [] (w.alloc (.cells #[.slice none 0 0, .int .i64 0] 215)) :=
  ⟨none, ⟨.slice none 0 0, World.alloc_heap_new _ _, World.ownsRow_nil _ _ _ _, rfl, by simp⟩, Same.refl _ _, fun k hk => by cases hk⟩

end Go.Proofs.YtpkpfebhdgbgbaaGreatDoor
namespace Go.Proofs.YtpkpfebhdgbgbaaGreatDoor
open Go.RowKit
set_option linter.unusedSimpArgs false
set_option linter.unusedVariables false

set_option maxHeartbeats 400000 in
theorem out_string (b : Nat) (r : Option Nat) (l : List Bool) (w : World) (hO : IsOut w b r l) (hl : l.length < 1099511627776) :
    Calls Tryz.prog 127 #[.pointer (some ⟨b, 0, none⟩)] w fun e w' => e = .returned (.string (strOf (pack l))) ∧ w = w' := by
  obtain ⟨v, hb, hown, rfl, hrb⟩ := hO
  have c0 : w.cell? ⟨b, 0, none⟩ = some v := by rw [cell_of hb]; rfl
  have hcv := own_string (P := Tryz.prog) (src := 33) (dst := 9) Tryz.underlying33 Tryz.underlying5 Tryz.underlying9 hown
  clear hb hown hrb
  go_enter Tryz.func127, Tryz.ntmps127
  go_wp2
  go_ret
  exact ⟨rfl, rfl⟩

end Go.Proofs.YtpkpfebhdgbgbaaGreatDoor
