/- The reference's polynomials: coefficients, sums, products. Condition: fewer than 2^39 bytes. The reference's polynomials: products, values, slopes, roots. Condition: fewer than 2^38 bytes. Slopes and roots of polynomials, in the program and in the reference. Condition: fewer than 2^37 bytes. The value of a polynomial at a place, by a range over slices.Backward. Condition: fewer than 2^38 bytes. -/
import Derived.Test.YtpkpfebhdgbgbaaGreatDoorRf1
import Derived.Test.YtpkpfebhdgbgbaaGreatDoorTBr2
import Derived.Test.YtpkpfebhdgbgbaaGreatDoorRs1
import Derived.Test.YtpkpfebhdgbgbaaGreatDoorTPm4
import Derived.Laws.BitsLemmas
import Derived.Test.YtpkpfebhdgbgbaaGreatDoorOpen
import Derived.Shelf.Abstract
import Derived.Shelf.RegionOpen
import Derived.OwnWalkIn
import Derived.TacticsInMore
import Derived.LoopNIn
import Derived.LoopIn
namespace Go.Proofs.YtpkpfebhdgbgbaaGreatDoor
open Go.RowKit
set_option linter.unusedSimpArgs false
set_option linter.unusedVariables false

theorem radd_z (a b z : UInt8) (w : World) (hz : z = a ^^^ b) :
    Calls Tryz.prog 109 #[.int .u8 (a.toNat : Int), .int .u8 (b.toNat : Int)] w fun e w' => e = .returned (.int .u8 (z.toNat : Int)) ∧ w = w' := by rw [hz]; exact radd_any a b w
end Go.Proofs.YtpkpfebhdgbgbaaGreatDoor
namespace Go.Proofs.YtpkpfebhdgbgbaaGreatDoor
open Go.RowKit
set_option linter.unusedSimpArgs false
set_option linter.unusedVariables false

theorem rmul_z (a b z : UInt8) (w : World) (hz : z = gm a b) :
    Calls Tryz.prog 110 #[.int .u8 (a.toNat : Int), .int .u8 (b.toNat : Int)] w fun e w' => e = .returned (.int .u8 (z.toNat : Int)) ∧ w = w' := by rw [hz]; exact rmul_any a b w

/-! ## Values -/
def pw (x : UInt8) : Nat → UInt8 | 0 => 1 | n + 1 => gm (pw x n) x
theorem evn_sx (n : Nat) (f : Nat → UInt8) (x : UInt8) : evn n f x = sx n (fun i => gm (f i) (pw x i)) := by
  induction n generalizing f with
  | zero => rfl
  | succ n ih =>
    rw [evn, sx_left, ih, ← sx_gm]
    congr 1
    · exact (gm_one _).symm
    · refine sx_congr fun i _ => ?_
      show gm x (gm (f (i + 1)) (pw x i)) = gm (f (i + 1)) (gm (pw x i) x)
      rw [gm_left_comm, gm_comm x]
theorem ev_sx (l : List UInt8) (x : UInt8) : ev l x = sx l.length (fun i => gm (cf l i) (pw x i)) := by rw [ev_evn, evn_sx]

end Go.Proofs.YtpkpfebhdgbgbaaGreatDoor
namespace Go.Proofs.YtpkpfebhdgbgbaaGreatDoor
open Go.RowKit
set_option linter.unusedSimpArgs false
set_option linter.unusedVariables false

def slopeS (p : ByteArray) : ByteArray := bs (trimL (slopeL (lb p)))
theorem slopeS_size (p : ByteArray) : (slopeS p).size ≤ p.size := by
  unfold slopeS; rw [size_bs]
  have := trim_length (slopeL (lb p))
  rw [slopeL_length, lb_length] at this
  omega
theorem and_one (j : Nat) (hj : j < 1099511627776) : bits .and .i64 (j : Int) 1 = ((j % 2 : Nat) : Int) := by
  have h := bits_mask .i64 40 (by decide) (fun n a b => by rw [IntKind.wrap_i64]; omega) 1 (by decide) (j : Int) (by omega) (by omega)
  simp at h
  rw [h]; omega
theorem reads_zero (wr : World) : Reads (wr.alloc (.cells #[.int .u8 0] 5)) 1 (.slice (some ⟨wr.heap.size, 0, none⟩) 1 1) 1 (u8l [0]) :=
  Reads.of_own (row_new wr #[.int .u8 0] 5 1 rfl (by decide))

set_option maxRecDepth 100000 in
set_option maxHeartbeats 4000000 in
theorem pslope_any (p : ByteArray) (w : World) (hp : p.size < 274877906944) : Calls Tryz.prog 118 #[.string p] w (Ret (.string (slopeS p)) w) := by
  obtain ⟨i0, hi, hz0, hz1, hz2⟩ := info_parts Tryz.infoB
  obtain ⟨B, hB⟩ : ∃ B, B = w.heap.size := ⟨_, rfl⟩
  obtain ⟨f, hf⟩ : ∃ f, f = der (cf (lb p)) := ⟨_, rfl⟩
  have HB := Lib.hid hB; have HF := Lib.hid hf
  clear hB hf
  go_enter Tryz.func118, Tryz.ntmps118
  go_wp2_with fail
  go_loopw [4, 3] (fun i v wr => ∃ k : Nat, 1 ≤ k ∧ (k ≤ p.size ∨ k = 1) ∧ i = .int .i64 k ∧ OwnB B wr v (ofF (k - 1) f) ∧ Same [] w wr) (fun i _ _ => p.size - (intOf i).toNat)
  case atStart => exact ⟨1, by omega, .inr rfl, rfl, OwnB.nil _ _, Same.refl _ _⟩
  case round =>
    obtain ⟨k, hk0, hk, rfl, ho, hs⟩ := hrel
    have hsz := hs.size
    by_cases h1 : k < p.size
    · have h1i : (k : Int) < (p.size : Int) := by omega
      have hb := bt_at p k h1
      have hl := ofF_length (k - 1) f
      have hl63 : (ofF (k - 1) f).length + 1 ≤ maxLen := by rw [hl]; unfold maxLen; omega
      have hlen : ((ofF (k - 1) f).length + 1) * 1 ≤ 140737488355328 := by rw [hl]; omega
      have hand := and_one k (by omega)
      have hx1 := (cf (lb p) k).toNat_lt
      have hpar : k % 2 = 0 ∨ k % 2 = 1 := by omega
      rcases hpar with hpar | hpar
      · rw [hpar] at hand
        have hfk : f (k - 1) = 0 := by rw [HF.out]; unfold der; rw [if_neg (by omega)]
        have hd := ho.alloc (.cells #[.int .u8 0] 5)
        have hbase : B ≤ (wr.alloc (.cells #[.int .u8 0] 5)).heap.size := by have := HB.out; simp; omega
        have HS := Lib.hid hs; have HD := Lib.hid hd; have HX := Lib.hid hfk
        clear ho hs hd hl hfk hpar hk
        go_wp2_with (at_builtin; refine wpList_append_src rfl (.tmp 11) (.tmp 19) 33 rfl B 5 i0 (.int .u8 0) 1 1 Tryz.underlying33 hi hz0 hz1 hz2 rfl (by decide) _ (ofF (k - 1) f).length _ rfl HD.out _ 1 _ rfl (reads_zero wr) (one_u8l _) hl63 hlen hbase ?_; intro v' w2 hown hgrow hat; have HOWN := Lib.hid hown; have HG := Lib.hid hgrow; clear hown hgrow hat)
        obtain ⟨q1, q2⟩ := OwnB.grow HD.out (by have := HB.out; omega) (HS.out.alloc _) HOWN.out HG.out
        go_roundw
        case rel => exact ⟨k + 1, by omega, .inl (by omega), by go_num, by rw [show k + 1 - 1 = (k - 1) + 1 by omega, ofF_succ, HX.out]; exact q1, q2⟩
        case measure => simp [intOf]; omega
      · rw [hpar] at hand
        have hfk : f (k - 1) = cf (lb p) k := by rw [HF.out]; unfold der; rw [if_pos (by omega), Nat.sub_add_cancel hk0]
        obtain ⟨x, hx⟩ : ∃ x, x = cf (lb p) k := ⟨_, rfl⟩
        rw [← hx] at hfk hb hx1
        have hd := ho.alloc (.cells #[.int .u8 (x.toNat : Int)] 5)
        have hbase : B ≤ (wr.alloc (.cells #[.int .u8 (x.toNat : Int)] 5)).heap.size := by have := HB.out; simp; omega
        have HS := Lib.hid hs; have HD := Lib.hid hd; have HX := Lib.hid hfk
        clear ho hs hd hl hfk hpar hk hx
        go_wp2_with (at_builtin; refine wpList_append_src rfl (.tmp 11) (.tmp 19) 33 rfl B 5 i0 (.int .u8 0) 1 1 Tryz.underlying33 hi hz0 hz1 hz2 rfl (by decide) _ (ofF (k - 1) f).length _ rfl HD.out _ 1 _ rfl (reads_one wr _) (one_u8l _) hl63 hlen hbase ?_; intro v' w2 hown hgrow hat; have HOWN := Lib.hid hown; have HG := Lib.hid hgrow; clear hown hgrow hat)
        obtain ⟨q1, q2⟩ := OwnB.grow HD.out (by have := HB.out; omega) (HS.out.alloc _) HOWN.out HG.out
        go_roundw
        case rel => exact ⟨k + 1, by omega, .inl (by omega), by go_num, by rw [show k + 1 - 1 = (k - 1) + 1 by omega, ofF_succ, HX.out]; exact q1, q2⟩
        case measure => simp [intOf]; omega
    · have h1i : ¬ (k : Int) < (p.size : Int) := by omega
      have hc : ofF (k - 1) f = slopeL (lb p) := by
        unfold slopeL
        rw [HF.out, lb_length]
        congr 1
        omega
      have hsz2 : (bs (ofF (k - 1) f)).size ≤ 9223372036854775807 := by rw [size_bs, ofF_length]; omega
      have ht : trimS (bs (ofF (k - 1) f)) = slopeS p := by unfold trimS slopeS; rw [lb_bs, hc]
      have HT := Lib.hid ht
      have HTR := Lib.hid (fun W => trim_any (bs (ofF (k - 1) f)) W hsz2)
      have hcv := ho.str
      have HS := Lib.hid hs
      clear ho hs hc ht h1 hk hsz2
      go_wp2_with fail
      (with_reducible refine (HTR.out _).mono ?_)
      rintro e w' ⟨rfl, rfl⟩
      go_wp2_with fail
      go_ret
      exact ⟨by rw [← HT.out]; rfl, HS.out⟩

/-- So many times the same byte, together. -/
theorem times_x (c : UInt8) (m : Nat) : sx m (fun _ => c) = if m % 2 = 0 then 0 else c := by
  induction m with
  | zero => rfl
  | succ m ih =>
    rw [sx, ih]
    by_cases h : m % 2 = 0
    · rw [if_pos h, if_neg (by omega), zerox]
    · rw [if_neg h, if_pos (by omega), xself]
/-! ## Roots -/
def rootsS (l : ByteArray) : ByteArray := bs (rt [1] (lb l))
def rtK (l : ByteArray) (k : Nat) : ByteArray := bs (rt [1] ((lb l).take k))
theorem one_dl : dl [1] ≠ 0 := by rw [dl_eq (l := [1]) (n := 0) (by decide) (fun m hm => cf_ge (by simp; omega))]; decide
theorem rtK_size (l : ByteArray) (k : Nat) (h : k ≤ l.size) : (rtK l k).size = k + 1 := by
  unfold rtK
  rw [size_bs, rt_length _ _ rfl one_dl, List.length_take, lb_length]
  simp; omega
theorem rtK_succ (l : ByteArray) (k : Nat) (h : k < l.size) : mulS (rtK l k) (bs [cf (lb l) k, 1]) = rtK l (k + 1) := by
  unfold mulS rtK
  rw [lb_bs, lb_bs, take_snoc _ _ (by rw [lb_length]; exact h), rt_snoc]
theorem rtK_all (l : ByteArray) : rtK l l.size = rootsS l := by unfold rtK rootsS; rw [← lb_length, List.take_length]
theorem two_str (wr : World) (c : UInt8) : (convert 33 9 (.slice (some ⟨wr.heap.size, 0, none⟩) 2 2)).run Tryz.prog (wr.alloc (.cells #[.int .u8 (c.toNat : Int), .int .u8 1] 5)) =
    .ok (.string (bs [c, 1])) (wr.alloc (.cells #[.int .u8 (c.toNat : Int), .int .u8 1] 5)) :=
  OwnB.str (B := 0) (l := [c, 1]) (row_new wr #[.int .u8 (c.toNat : Int), .int .u8 1] 5 2 rfl (by decide))

set_option maxRecDepth 100000 in
set_option maxHeartbeats 4000000 in
theorem proots_any (l : ByteArray) (w : World) (hl : l.size < 137438953472) : Calls Tryz.prog 145 #[.string l] w (Ret (.string (rootsS l)) w) := by
  go_enter Tryz.func145, Tryz.ntmps145
  go_wp2_with fail
  go_loopw [7, 3] (fun i p wr => ∃ (k : Nat) (q : ByteArray), k ≤ l.size ∧ i = .int .i64 k ∧ p = .string q ∧ q = rtK l k ∧ Same [] w wr) (fun i _ _ => l.size - (intOf i).toNat)
  case atStart => exact ⟨0, bs [1], Nat.zero_le _, rfl, rfl, rfl, Same.refl _ _⟩
  case round =>
    obtain ⟨k, q, hk, rfl, rfl, hq, hs⟩ := hrel
    by_cases h1 : k < l.size
    · have h1i : (k : Int) < (l.size : Int) := by omega
      have hb := bt_at l k h1
      have hqs := rtK_size l k hk
      rw [← hq] at hqs
      obtain ⟨c, hc⟩ : ∃ c, c = cf (lb l) k := ⟨_, rfl⟩
      rw [← hc] at hb
      have hcv := fun W => two_str W c
      have hn := rtK_succ l k h1
      rw [← hq, ← hc] at hn
      have HM := Lib.hid (fun W => pmul_any q (bs [c, 1]) W (by omega) (by rw [size_bs]; simp))
      rw [hn] at HM
      have HS := Lib.hid hs
      clear hq hqs hc hn hs
      go_wp2_with fail
      (with_reducible refine (HM.out _).mono ?_)
      rintro e w' ⟨rfl, hs2⟩
      have HS2 := Lib.hid hs2
      clear hs2
      go_wp2_with fail
      go_roundw
      case rel => exact ⟨k + 1, _, by omega, by go_num, rfl, rfl, (HS.out.alloc _).trans_nil HS2.out⟩
      case measure => simp [intOf]; omega
    · obtain rfl : k = l.size := by omega
      have h1i : ¬ (l.size : Int) < (l.size : Int) := by omega
      rw [rtK_all] at hq
      have HQ := Lib.hid hq; have HS := Lib.hid hs
      clear hq hs
      go_wp2_with fail
      go_ret
      exact ⟨by rw [← HQ.out]; rfl, HS.out⟩
end Go.Proofs.YtpkpfebhdgbgbaaGreatDoor
namespace Go.Proofs.YtpkpfebhdgbgbaaGreatDoor
open Go.RowKit Go.Shelf
attribute [local go_sem] Oper.semAt_some
set_option linter.unusedSimpArgs false
set_option linter.unusedVariables false

/-- What round j gives: the place and the byte. -/
def backV (l : List UInt8) (n j : Nat) : Array Value := #[.int .i64 ((n - 1 - j : Nat) : Int), .int .u8 ((cf l (n - 1 - j)).toNat : Int)]

set_option maxHeartbeats 2000000 in
theorem back1_full (g n cap : Nat) (l : List UInt8) (hl : l.length = n) (hn : n ≤ cap) (hc : cap ≤ maxLen) (w0 : World) (bb : Nat)
    (hbs : w0.heap[bb]? = some (.cells #[.slice (some ⟨g, 0, none⟩) n cap] 33 (0, 0))) (hg : ∀ i, i < n → w0.cell? ⟨g, i, none⟩ = some (.int .u8 ((cf l i).toNat : Int))) (hgl : n = 0 ∨ g < w0.heap.size) :
    SeqFull Tryz.prog 170 #[.pointer (some ⟨bb, 0, none⟩)] (backV l n) (List.range n) [bb, g] w0 := by
  intro ll J W hW hJ hY h0
  unfold maxLen at hc
  refine callsIn_of_wp Tryz.func170 rfl trivial ?_ rfl
  simp only [Tryz.ntmps170, List.size_toArray, List.length_cons, List.length_nil, Nat.reduceAdd, Nat.reduceSub, Array.replicate_succ, Array.replicate_zero, List.push_toArray, List.append_toArray, List.nil_append, List.cons_append]
  have hx0 := hW.heap hbs (by simp)
  have cx0 : W.cell? ⟨bb, 0, none⟩ = some (.slice (some ⟨g, 0, none⟩) n cap) := by rw [cell_of hx0]; rfl
  have hcg0 : ∀ i, i < n → W.cell? ⟨g, i, none⟩ = some (.int .u8 ((cf l i).toNat : Int)) := fun i hi => hW.cell (hg i hi) (by simp)
  have HX0 := Lib.hid hx0; have HCG0 := Lib.hid hcg0; have H0 := Lib.hid h0; have HJ := Lib.hid hJ; have HY := Lib.hid hY; have HL := Lib.hid hl
  have hn63 : n ≤ 9223372036854775807 := by omega
  clear hx0 hcg0 h0 hJ hY hW hbs hg hl
  gi_wp2
  gi_loopw [3] (fun i wr => ∃ k : Nat, k ≤ n ∧ i = .int .i64 ((n : Int) - 1 - (k : Int)) ∧ wr.heap[bb]? = some (.cells #[.slice (some ⟨g, 0, none⟩) n cap] 33 (0, 0)) ∧ (∀ i, i < n → wr.cell? ⟨g, i, none⟩ = some (.int .u8 ((cf l i).toNat : Int))) ∧ J (List.range k) wr)
    (fun i wr => (intOf i + 1).toNat)
  case atStart =>
    exact ⟨0, Nat.zero_le _, by go_num, HX0.out, HCG0.out, H0.out⟩
  case round =>
    obtain ⟨k, hk, rfl, hx, hcg, hj⟩ := hrel
    have cx : wr.cell? ⟨bb, 0, none⟩ = some (.slice (some ⟨g, 0, none⟩) n cap) := by rw [cell_of hx]; rfl
    by_cases hlt : k < n
    · obtain ⟨f0, tmps, assign, body, hy, hR⟩ := HY.out _ k _ (by exact hj) (by
        rw [← List.range_succ]
        obtain ⟨j, rfl⟩ : ∃ j, n = k + 1 + j := ⟨n - (k + 1), by omega⟩
        rw [List.range_add]; exact List.prefix_append _ _)
      unfold backV at hy
      rw [← List.range_succ] at hR
      obtain ⟨m, hm⟩ : ∃ m, m = n - 1 - k := ⟨_, rfl⟩
      have hmi : (n : Int) - 1 - (k : Int) = (m : Int) := by omega
      rw [← hm] at hy
      have hmn : m < n := by omega
      have hmni : (m : Int) < (n : Int) := by omega
      have hm0 : ¬ (m : Int) < 0 := by omega
      have cg := hcg m hmn
      rw [hmi]
      have HR := Lib.hid hR; have HX := Lib.hid hx; have HCG := Lib.hid hcg; have HM := Lib.hid hm; have HMI := Lib.hid hmi
      clear hR hj hx hcg hm hmi hlt hk
      gi_wp2
      refine ⟨rfl, HR.out.mono ?_⟩
      rintro e W3 ⟨rfl, hJ3, hk3⟩
      have h3x : W3.heap[bb]? = some (.cells #[.slice (some ⟨g, 0, none⟩) n cap] 33 (0, 0)) := (hk3 bb (by simp)).trans HX.out
      have h3g : ∀ i, i < n → W3.cell? ⟨g, i, none⟩ = some (.int .u8 ((cf l i).toNat : Int)) := fun i hi => (World.cell?_of_block (hk3 g (by simp))).trans (HCG.out i hi)
      have HJ3 := Lib.hid hJ3; have H3x := Lib.hid h3x; have H3g := Lib.hid h3g
      clear hJ3 h3x h3g hk3 HR hy cx cg HX HCG
      gi_wp2
      go_roundw
      case rel => exact ⟨k + 1, by have := HMI.out; omega, by have h1 : (m : Int) - 1 = (n : Int) - 1 - ((k + 1 : Nat) : Int) := (by have := HMI.out; omega); rw [h1], H3x.out, H3g.out, HJ3.out⟩
      case measure => simp [intOf]
    · obtain rfl : k = n := by omega
      have hi0 : (k : Int) - 1 - (k : Int) = -1 := by omega
      rw [hi0]
      have HJJ := Lib.hid hj
      clear hx hcg hj
      gi_wp2
      go_end0
      exact ⟨⟨_, rfl⟩, HJJ.out⟩

theorem back_any (a : Option Addr) (n c : Nat) (w : World) : Calls Tryz.prog 152 #[.slice a n c] w fun e w' =>
    e = .returned (.func (.func 170) #[] #[.pointer (some ⟨w.heap.size, 0, none⟩)]) ∧ w' = w.alloc (.cells #[.slice a n c] 33) := by
  have hmf : ∀ (fn : Fn) (first cap : Array Value) (w : World), (Instr.makeFunc fn first cap).run Tryz.prog w = .ok (.func fn first cap) w := fun _ _ _ _ => rfl
  go_enter Tryz.func152, Tryz.ntmps152
  go_wp2
  go_ret
  exact ⟨rfl, rfl⟩

/-- What has come of so many rounds. -/
def AtI (w : World) (p : ByteArray) (x : UInt8) (B C : Nat) (pre : List Nat) (W : World) : Prop :=
  W.heap[B]? = some (.cells #[.int .u8 (x.toNat : Int)] 5 (0, 0)) ∧ FieldAt W (B + 1) ∧ W.heap[C]? = some (.cells #[.pointer (some ⟨B + 1, 0, none⟩)] 165 (0, 0)) ∧
    W.heap[C + 1]? = some (.cells #[.int .u8 ((ev ((lb p).drop (p.size - pre.length)) x).toNat : Int)] 5 (0, 0)) ∧ C + 6 ≤ W.heap.size ∧ Same [] w W
theorem AtI.abides {w : World} {p : ByteArray} {x : UInt8} {B C : Nat} (hB : B = w.heap.size) (hC : B + 2 ≤ C) (pre : List Nat) (A D : World) (h : AtI w p x B C pre A) (hs : Same [C + 4, C + 4 + 1, C + 3, C + 2] A D) : AtI w p x B C pre D := by
  obtain ⟨h1, h2, h3, h4, h5, h6⟩ := h
  refine ⟨hs.heap h1 ?_, h2.same hs ?_, hs.heap h3 ?_, hs.heap h4 ?_, Nat.le_trans h5 hs.size, h6.trans hs (fun x hx hlt => by simp at hx; omega)⟩
  all_goals (simp only [List.mem_cons, List.not_mem_nil, or_false, not_or]; omega)
theorem ev_drop (l : List UInt8) (x : UInt8) (m : Nat) (h : m < l.length) : ev (l.drop m) x = gm (ev (l.drop (m + 1)) x) x ^^^ cf l m := by
  rw [List.drop_eq_getElem_cons h, ev, cf_lt h, xcomm, gm_comm x]

set_option maxRecDepth 100000 in
set_option maxHeartbeats 4000000 in
theorem pat_any (p : ByteArray) (x : UInt8) (w : World) (hp : p.size < 274877906944) :
    Calls Tryz.prog 119 #[.string p, .int .u8 (x.toNat : Int)] w (Ret (.int .u8 ((ev (lb p) x).toNat : Int)) w) := by
  refine (callsIn_wide (n := 0)).1 ?_
  refine callsIn_of_wp_marks Tryz.func119 rfl trivial ?_ rfl
  simp only [Tryz.ntmps119, List.size_toArray, List.length_cons, List.length_nil, Nat.reduceAdd, Nat.reduceSub, Array.replicate_succ, Array.replicate_zero, List.push_toArray, List.append_toArray, List.nil_append, List.cons_append]
  have hcv := fun W => run_cut p W
  gi_wp2_with (refine ⟨trivial, rfl, ?_⟩; gi_at_call 83; refine (callsIn_wide.2 (new_any _)).mono ?_; rintro e w' ⟨rfl, hf, hs⟩; have HF := Lib.hid hf; have HS := Lib.hid hs; clear hf hs)
  obtain ⟨B, hB⟩ : ∃ B, B = w.heap.size := ⟨_, rfl⟩
  obtain ⟨C, hC⟩ : ∃ C, C = w'.heap.size := ⟨_, rfl⟩
  have hf := HF.out
  have hs := HS.out
  have hlt := hf.lt
  rw [World.size_alloc] at hf hlt
  have hz1 : B + 2 ≤ C := by omega
  have hx1 := hs.heap (heap_alloc_new w (.cells #[.int .u8 (x.toNat : Int)] 5)) (by simp)
  have hsw : Same [] w w' := ((Same.refl [] w).alloc _).trans_nil hs
  have hp1 := (Below.heap_alloc (w'.alloc (.cells #[.pointer (some ⟨w.heap.size + 1, 0, none⟩)] 165)) (.cells #[.int .u8 0] 5) w'.heap.size (by simp)).trans (heap_alloc_new w' (.cells #[.pointer (some ⟨w.heap.size + 1, 0, none⟩)] 165))
  have ho1 := heap_alloc_new (w'.alloc (.cells #[.pointer (some ⟨w.heap.size + 1, 0, none⟩)] 165)) (.cells #[.int .u8 0] 5)
  rw [World.size_alloc] at ho1
  have hsx : Same [] w' ((w'.alloc (.cells #[.pointer (some ⟨w.heap.size + 1, 0, none⟩)] 165)).alloc (.cells #[.int .u8 0] 5)) := ((Same.refl [] w').alloc _).alloc _
  have hzx : ((w'.alloc (.cells #[.pointer (some ⟨w.heap.size + 1, 0, none⟩)] 165)).alloc (.cells #[.int .u8 0] 5)).heap.size = C + 2 := by rw [World.size_alloc, World.size_alloc, hC]
  have hf2 := hf.same hsx (by simp)
  have hx2 := hsx.heap hx1 (by simp)
  have hsw2 := hsw.trans_nil hsx
  rw [← hB] at hp1 ho1 hf2 hx2 hsw2 hzx ⊢
  rw [← hC] at hp1 ho1 ⊢
  generalize ((w'.alloc (.cells #[.pointer (some ⟨B + 1, 0, none⟩)] 165)).alloc (.cells #[.int .u8 0] 5)) = W1 at hp1 ho1 hf2 hx2 hsw2 hzx ⊢
  clear hx1 hf hs hsw hsx hlt HF HS hC
  -- the bytes
  obtain ⟨cap, hcap⟩ : ∃ cap, grownCap W1 p.size 0 5 = cap := ⟨_, rfl⟩
  have hc1 : p.size ≤ cap := by rw [← hcap]; exact grownCap_ge _ _ _ _
  have hc2 : cap ≤ maxLen := by rw [← hcap]; exact grownCap_le_maxLen _ _ _ _ (by unfold maxLen; omega)
  have hr2 := cut_rowl p W1 (by unfold maxLen; omega)
  have hs2 := cut_same p W1
  have hz2 : (cutW W1 p).heap.size = C + 3 := by
    show (W1.heap.push _).size = _
    simp [hzx]
  have hv2 : cutV W1 p = .slice (some ⟨C + 2, 0, none⟩) p.size cap := by unfold cutV; rw [hzx, hcap]
  rw [hzx] at hr2
  rw [hv2] at hr2 ⊢
  have hcell2 : ∀ i, i < p.size → (cutW W1 p).cell? ⟨C + 2, i, none⟩ = some (.int .u8 ((cf (lb p) i).toNat : Int)) := fun i hi => hr2.cell i (by rw [lb_length]; exact hi)
  have hp2 := hs2.heap hp1 (by simp)
  have ho2 := hs2.heap ho1 (by simp)
  have hf3 := hf2.same hs2 (by simp)
  have hx3 := hs2.heap hx2 (by simp)
  have hsw3 := hsw2.trans_nil hs2
  generalize cutW W1 p = W2 at hr2 hz2 hcell2 hp2 ho2 hf3 hx3 hsw3 ⊢
  clear hp1 ho1 hf2 hx2 hsw2 hs2 hcap hv2 hzx hr2 hcv
  have HP2 := Lib.hid hp2; have HO2 := Lib.hid ho2; have HF3 := Lib.hid hf3; have HX3 := Lib.hid hx3; have HSW3 := Lib.hid hsw3; have HC2 := Lib.hid hcell2; have HZ2 := Lib.hid hz2; have HB := Lib.hid hB
  clear hp2 ho2 hf3 hx3 hsw3 hcell2 hz2 hB
  gi_wp2_with (refine ⟨trivial, rfl, ?_⟩; gi_at_call 152; refine (callsIn_wide.2 (back_any _ _ _ _)).mono ?_; rintro e w' ⟨rfl, rfl⟩)
  obtain ⟨Wd, hWd⟩ : ∃ Wd, Wd = W2.alloc (.cells #[.slice (some ⟨C + 2, 0, none⟩) p.size cap] 33) := ⟨_, rfl⟩
  have hzd : Wd.heap.size = C + 4 := by rw [hWd, World.size_alloc, HZ2.out]
  have hsd : Same [] W2 Wd := by rw [hWd]; exact (Same.refl [] W2).alloc _
  have hbd : Wd.heap[C + 3]? = some (.cells #[.slice (some ⟨C + 2, 0, none⟩) p.size cap] 33 (0, 0)) := by
    rw [hWd]
    have := heap_alloc_new W2 (.cells #[.slice (some ⟨C + 2, 0, none⟩) p.size cap] 33)
    rwa [HZ2.out] at this
  have hcd : ∀ i, i < p.size → Wd.cell? ⟨C + 2, i, none⟩ = some (.int .u8 ((cf (lb p) i).toNat : Int)) := fun i hi => hsd.cell (HC2.out i hi) (by simp)
  have h0 : AtI w p x B C [] Wd → True := fun _ => trivial
  have ha1 := hsd.heap HX3.out (by simp)
  have ha2 := HF3.out.same hsd (by simp)
  have ha3 := hsd.heap HP2.out (by simp)
  have ha4 := hsd.heap HO2.out (by simp)
  have ha6 := HSW3.out.trans_nil hsd
  rw [HZ2.out, ← hWd]
  clear hWd hsd h0
  have HA1 := Lib.hid ha1; have HA2 := Lib.hid ha2; have HA3 := Lib.hid ha3; have HA4 := Lib.hid ha4; have HA6 := Lib.hid ha6
  clear ha1 ha2 ha3 ha4 ha6
  refine wp_rangeFull (D := C + 4) hzd (gf := 170) (lb := #[.pointer (some ⟨C + 3, 0, none⟩)]) rfl (enters_of Tryz.func170 (by kernel_rfl) rfl)
    (back1_full (C + 2) p.size cap (lb p) (lb_length p) hc1 hc2 Wd (C + 3) hbd hcd (.inr (by omega))) (fun _ => rfl) (fun k hk => by simp at hk; omega)
    (AtI w p x B C) (AtI.abides HB.out hz1) ?h0 ?round ?done
  case h0 =>
    intro W hW hz
    refine ⟨hW.heap HA1.out (by simp), HA2.out.same hW (by simp), hW.heap HA3.out (by simp), ?_, hz, HA6.out.trans_nil hW⟩
    have : (lb p).drop (p.size - ([] : List Nat).length) = [] := by rw [List.length_nil, Nat.sub_zero, ← lb_length, List.drop_length]
    rw [this]
    exact hW.heap HA4.out (by simp)
  case round =>
    intro ll pre j W hi hpre
    have hj : j = pre.length ∧ pre.length < p.size := by
      have h1 : (pre ++ [j])[pre.length]? = some j := by simp
      obtain ⟨t, ht⟩ := hpre
      have hlen := congrArg List.length ht
      simp at hlen
      have h2 : (List.range p.size)[pre.length]? = some j := by rw [← ht, List.getElem?_append_left (by simp)]; exact h1
      rw [List.getElem?_range (by omega)] at h2
      exact ⟨(Option.some.inj h2).symm, by omega⟩
    obtain ⟨rfl, hjl⟩ := hj
    clear hi hpre hbd hcd
    dsimp only [backV]
    gi_wp2
    refine ⟨trivial, ?_⟩
    intro W2 h2 hsz
    obtain ⟨g1, g2, g3, g4, g5, g6⟩ := h2
    obtain ⟨y, hy⟩ : ∃ y, y = ev ((lb p).drop (p.size - pre.length)) x := ⟨_, rfl⟩
    rw [← hy] at g4
    have c1 : W2.cell? ⟨B, 0, none⟩ = some (.int .u8 (x.toNat : Int)) := by rw [cell_of g1]; rfl
    have c3 : W2.cell? ⟨C, 0, none⟩ = some (.pointer (some ⟨B + 1, 0, none⟩)) := by rw [cell_of g3]; rfl
    have c4 : W2.cell? ⟨C + 1, 0, none⟩ = some (.int .u8 (y.toNat : Int)) := by rw [cell_of g4]; rfl
    have f4 : W2.frozen? ⟨C + 1, 0, none⟩ = false := free_of g4 0
    obtain ⟨z, hz⟩ : ∃ z, z = gm y x := ⟨_, rfl⟩
    have HM := Lib.hid (fmul_any (B + 1) y x W2 g2)
    rw [← hz] at HM
    have hev : ev ((lb p).drop (p.size - (pre ++ [pre.length]).length)) x = z ^^^ cf (lb p) (p.size - 1 - pre.length) := by
      rw [List.length_append, List.length_singleton, show p.size - (pre.length + 1) = p.size - 1 - pre.length by omega, ev_drop _ _ _ (by rw [lb_length]; omega), show p.size - 1 - pre.length + 1 = p.size - pre.length by omega, ← hy, ← hz]
    have HEV := Lib.hid hev; have G1 := Lib.hid g1; have G2 := Lib.hid g2; have G3 := Lib.hid g3; have G4 := Lib.hid g4; have G6 := Lib.hid g6
    clear hy hz hev g1 g2 g3 g4 g6
    gi_wp2_with (refine ⟨trivial, rfl, ?_⟩; gi_at_call 108; refine (callsIn_wide.2 HM.out).mono ?_; rintro e w' ⟨rfl, nd, rfl⟩)
    have hx := u8_xor z (cf (lb p) (p.size - 1 - pre.length))
    have hsame : Same [C + 1] W2 ((W2.drewN nd).setCell ⟨C + 1, 0, none⟩ (.int .u8 (bits .xor .u8 (z.toNat : Int) ((cf (lb p) (p.size - 1 - pre.length)).toNat : Int)))) := ((Same.refl [C + 1] W2).drewN nd).setCell (by simp) _
    have ho := set_same (w := W2.drewN nd) (b := C + 1) (i := 0) G4.out (.int .u8 (bits .xor .u8 (z.toNat : Int) ((cf (lb p) (p.size - 1 - pre.length)).toNat : Int)))
    refine ⟨⟨hsame.heap G1.out (by simp; omega), G2.out.same hsame (by simp; omega), hsame.heap G3.out (by simp), ?_, Nat.le_trans g5 hsame.size, G6.out.trans hsame (fun k hk hlt => by simp at hk; have := HB.out; omega)⟩, fun k hk => hsame.block k (by simp at hk; omega) (by simp at hk ⊢; omega)⟩
    rw [ho, HEV.out, hx]
    rfl
  case done =>
    intro W h hD
    obtain ⟨g1, g2, g3, g4, g5, g6⟩ := h
    rw [List.length_range, Nat.sub_self, List.drop_zero] at g4
    have c4 : W.cell? ⟨C + 1, 0, none⟩ = some (.int .u8 ((ev (lb p) x).toNat : Int)) := by rw [cell_of g4]; rfl
    have HD := Lib.hid hD; have G6 := Lib.hid g6
    clear hD g1 g2 g3 g4 g6
    gi_wp2
    refine ⟨by simp, .inl ⟨_, _, rfl, run_takeDeferred (w := W) HD.out, ?_⟩⟩
    refine ⟨_, results_tmp rfl _ _ _, ?_⟩
    have hs9 : Same [C + 4] W (W.putObj (C + 4) (.deferred none)) := same_putObj _ _ _ [C + 4] (by simp)
    exact ⟨rfl, G6.out.trans hs9 (fun x hx hlt => by have := HB.out; simp at hx; omega)⟩
end Go.Proofs.YtpkpfebhdgbgbaaGreatDoor
