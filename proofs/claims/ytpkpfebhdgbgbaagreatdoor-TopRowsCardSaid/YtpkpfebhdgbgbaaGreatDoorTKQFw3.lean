/- Which configurations may be: frame.Check, clarionref12.Right. Condition: the table of sizes is laid. A frame's small methods: spot, Used, Padding; New. Condition: as the contracts say. frame.New. Condition: the table of sizes is laid. -/
import Derived.Test.YtpkpfebhdgbgbaaGreatDoorTKQFr3
import Derived.BigQuiet
import Derived.Deep.QuietTactic
import Derived.BigRegion
import Derived.Test.YtpkpfebhdgbgbaaGreatDoorFlt1
import Derived.Deep.RegionLaw
namespace Go.Proofs.YtpkpfebhdgbgbaaGreatDoor.K
open Go.RowKit
set_option linter.unusedSimpArgs false
set_option linter.unusedVariables false

/-- The table of sizes, as the program's text lays it. -/
def Tab (w : World) : Prop := w.cell? ⟨0, 0, none⟩ = some (.int .i64 256) ∧ w.cell? ⟨0, 1, none⟩ = some (.int .i64 512) ∧ w.cell? ⟨0, 2, none⟩ = some (.int .i64 768) ∧ w.cell? ⟨0, 3, none⟩ = some (.int .i64 1024)
theorem Tab.same {w w' : World} {S : List Nat} (h : Tab w) (hs : Same S w w') (h0 : 0 ∉ S) : Tab w' := by
  obtain ⟨a, b, c, d⟩ := h
  exact ⟨hs.cell a h0, hs.cell b h0, hs.cell c h0, hs.cell d h0⟩
theorem Tab.lt {w : World} (h : Tab w) : 0 < w.heap.size := World.block_lt_of_cell? w _ h.1
theorem Tab.nums {w : World} (h : Tab w) : NumsAt w (.slice (some ⟨0, 0, none⟩) 4 4) [256, 512, 768, 1024] := by
  obtain ⟨a, b, c, d⟩ := h
  refine ⟨_, 4, rfl, by decide, by decide, fun i hi => ⟨_, rfl, rfl, ?_⟩⟩
  have h4 : i = 0 ∨ i = 1 ∨ i = 2 ∨ i = 3 := by simp at hi; omega
  rcases h4 with rfl | rfl | rfl | rfl
  · exact a
  · exact b
  · exact c
  · exact d
def sizesL : List Int := [256, 512, 768, 1024]
def RightP (r c k : Int) : Prop := r ∈ sizesL ∧ 1 ≤ c ∧ c ≤ 191 ∧ 0 ≤ k ∧ k ≤ 64
instance (r c k : Int) : Decidable (RightP r c k) := inferInstanceAs (Decidable (_ ∧ _))
theorem sizes_iff (r : Int) : r ∈ sizesL ↔ r = 256 ∨ r = 512 ∨ r = 768 ∨ r = 1024 := by unfold sizesL; simp
def checkC (r c k : Int) : Int := if RightP r c k then 0 else 23
set_option maxRecDepth 100000 in
theorem fcheck_any (r c k : Int) (w : World) (ht : Tab w) : Calls Tryz.prog 74 #[.agg #[.int .i64 r, .int .i64 c, .int .i64 k]] w (Ret (.int .i64 (checkC r c k)) w) := by
  have HT := Lib.hid ht
  obtain ⟨q, hq⟩ : ∃ q, q = decide (r ∈ sizesL) := ⟨_, rfl⟩
  have HC := Lib.hid (fun W (h : Tab W) => (contains_any [256, 512, 768, 1024] _ r q W h.nums hq.symm).mono fun e w' h9 => (⟨h9.1, h9.2⟩ : e = .returned (.bool q) ∧ W = w'))
  have hS : Same [] w (w.alloc (.cells #[.int .i64 r, .int .i64 c, .int .i64 k] 89)) := (Same.refl [] w).alloc _
  have HS := Lib.hid hS
  have hT2 := ht.same hS (by simp)
  have HQ := Lib.hid (fun n => (HC.out ((w.alloc (.cells #[.int .i64 r, .int .i64 c, .int .i64 k] 89)).drewN n) (hT2.same ((Same.refl [] _).drewN n) (by simp))))
  have hiff : (r ∈ sizesL) ↔ q = true := by rw [hq, decide_eq_true_eq]
  have hres : checkC r c k = if q = true ∧ 1 ≤ c ∧ c ≤ 191 ∧ 0 ≤ k ∧ k ≤ 64 then 0 else 23 := by
    unfold checkC RightP; simp only [hiff]
  obtain ⟨z, hz⟩ : ∃ z, z = checkC r c k := ⟨_, rfl⟩
  rw [← hz] at hres ⊢
  clear hT2 hS hq hiff ht hz
  cases q with
  | false =>
    rw [if_neg (fun h => by cases h.1)] at hres
    subst hres
    go_enter Tryz.func74, Tryz.ntmps74
    go_wp2_with fail
    go_quiet ((go_at_call 36; exact Calls.quiet_of_same ((HQ.out _).mono fun e w' h => ⟨h.1, h.2.symm⟩)))
    all_goals
      go_wp2_with fail
      go_ret
      exact ⟨rfl, HS.out.drewN _⟩
  | true =>
    have hz : z = if 1 ≤ c ∧ c ≤ 191 ∧ 0 ≤ k ∧ k ≤ 64 then 0 else 23 := by rw [hres]; simp
    clear hres
    by_cases h1 : c < 1
    · rw [if_neg (by omega)] at hz
      subst hz
      have d1 := decide_eq_true h1
      go_enter Tryz.func74, Tryz.ntmps74
      go_wp2_with fail
      go_quiet ((go_at_call 36; exact Calls.quiet_of_same ((HQ.out _).mono fun e w' h => ⟨h.1, h.2.symm⟩)))
      all_goals
        go_wp2_with fail
        go_ret
        exact ⟨rfl, HS.out.drewN _⟩
    · skip
      by_cases h2 : 191 < c
      · rw [if_neg (by omega)] at hz
        subst hz
        have d1 := decide_eq_false h1
        have d2 := decide_eq_true h2
        go_enter Tryz.func74, Tryz.ntmps74
        go_wp2_with fail
        go_quiet ((go_at_call 36; exact Calls.quiet_of_same ((HQ.out _).mono fun e w' h => ⟨h.1, h.2.symm⟩)))
        all_goals
          go_wp2_with fail
          go_ret
          exact ⟨rfl, HS.out.drewN _⟩
      · skip
        by_cases h3 : k < 0
        · rw [if_neg (by omega)] at hz
          subst hz
          have d1 := decide_eq_false h1
          have d2 := decide_eq_false h2
          have d3 := decide_eq_true h3
          go_enter Tryz.func74, Tryz.ntmps74
          go_wp2_with fail
          go_quiet ((go_at_call 36; exact Calls.quiet_of_same ((HQ.out _).mono fun e w' h => ⟨h.1, h.2.symm⟩)))
          all_goals
            go_wp2_with fail
            go_ret
            exact ⟨rfl, HS.out.drewN _⟩
        · skip
          by_cases h4 : 64 < k
          · rw [if_neg (by omega)] at hz
            subst hz
            have d1 := decide_eq_false h1
            have d2 := decide_eq_false h2
            have d3 := decide_eq_false h3
            have d4 := decide_eq_true h4
            go_enter Tryz.func74, Tryz.ntmps74
            go_wp2_with fail
            go_quiet ((go_at_call 36; exact Calls.quiet_of_same ((HQ.out _).mono fun e w' h => ⟨h.1, h.2.symm⟩)))
            all_goals
              go_wp2_with fail
              go_ret
              exact ⟨rfl, HS.out.drewN _⟩
          · skip
            rw [if_pos (by omega)] at hz
            subst hz
            have d1 := decide_eq_false h1
            have d2 := decide_eq_false h2
            have d3 := decide_eq_false h3
            have d4 := decide_eq_false h4
            go_enter Tryz.func74, Tryz.ntmps74
            go_wp2_with fail
            go_quiet ((go_at_call 36; exact Calls.quiet_of_same ((HQ.out _).mono fun e w' h => ⟨h.1, h.2.symm⟩)))
            all_goals
              go_wp2_with fail
              go_ret
              exact ⟨rfl, HS.out.drewN _⟩
def rightB (r c k : Int) : Bool := decide (RightP r c k)
end Go.Proofs.YtpkpfebhdgbgbaaGreatDoor.K
namespace Go.Proofs.YtpkpfebhdgbgbaaGreatDoor.K
open Go.RowKit
open Flt (fz float_of int_fz)
set_option linter.unusedSimpArgs false
set_option linter.unusedVariables false

theorem FrIn.c0 {w : World} {bl : List Nat} {p R C K : Nat} {D : List ByteArray} {old : Bool} {G : Nat} {lv : Value} {M : Nat → Nat → UInt8} (h : FrIn w bl p R C K D old G lv M) :
    w.cell? ⟨p, 0, none⟩ = some (.int .i64 (R : Int)) ∧ w.cell? ⟨p, 1, none⟩ = some (.int .i64 (C : Int)) ∧ w.cell? ⟨p, 2, none⟩ = some (.int .i64 (K : Int)) ∧ w.cell? ⟨p, 3, none⟩ = some lv ∧ w.cell? ⟨p, 4, none⟩ = some (.int .i64 ((txt D).length : Int)) ∧ w.cell? ⟨p, 5, none⟩ = some (.slice (some ⟨G, 0, none⟩) R R) ∧ w.cell? ⟨p, 6, none⟩ = some (.bool old) ∧ ∀ i, w.frozen? ⟨p, i, none⟩ = false := by
  have hh := h.head
  refine ⟨?_, ?_, ?_, ?_, ?_, ?_, ?_, fun i => free_of hh i⟩ <;> rw [cell_of hh] <;> rfl
theorem spot_any (p n R : Nat) (w : World) (hc : w.cell? ⟨p, 0, none⟩ = some (.int .i64 (R : Int))) (hR : 0 < R) (hR2 : R < 100000) (hn : n < 1000000000) :
    Calls Tryz.prog 76 #[.pointer (some ⟨p, 0, none⟩), .int .i64 (n : Int)] w (Ret (.complex .f64 (fz (n / R)) (fz (n % R))) w) := by
  have hq : (n : Int).tdiv (R : Int) = ((n / R : Nat) : Int) := rfl
  have hm : (n : Int).tmod (R : Int) = ((n % R : Nat) : Int) := rfl
  have hq2 : (n : Int) / (R : Int) = ((n / R : Nat) : Int) := rfl
  have hm2 : (n : Int) % (R : Int) = ((n % R : Nat) : Int) := rfl
  obtain ⟨a, ha⟩ : ∃ a, a = n / R := ⟨_, rfl⟩
  obtain ⟨b, hb⟩ : ∃ b, b = n % R := ⟨_, rfl⟩
  rw [← ha] at hq hq2 ⊢
  rw [← hb] at hm hm2 ⊢
  have ha9 : a < 1000000000 := by rw [ha]; exact Nat.lt_of_le_of_lt (Nat.div_le_self _ _) hn
  have hb9 : b < 100000 := by rw [hb]; exact Nat.lt_trans (Nat.mod_lt _ hR) hR2
  have hR0 : ((R : Int) == 0) = false := by simp; omega
  have hRi : (0 : Int) < (R : Int) := by omega
  have hcv1 : ∀ W, (convert 3 156 (.int .i64 (a : Int))).run Tryz.prog W = .ok (.float .f64 (fz a)) W := fun W => by
    rw [run_convert_int_float _ _ _ .i64 .f64 _ (by kernel_rfl) Tryz.underlying156, float_of]
  have hcv2 : ∀ W, (convert 3 156 (.int .i64 (b : Int))).run Tryz.prog W = .ok (.float .f64 (fz b)) W := fun W => by
    rw [run_convert_int_float _ _ _ .i64 .f64 _ (by kernel_rfl) Tryz.underlying156, float_of]
  clear ha hb
  go_enter Tryz.func76, Tryz.ntmps76
  go_wp2_with fail
  go_region
  all_goals
    go_wp2_with fail
    go_ret
    exact ⟨rfl, (Same.refl [] w).drew⟩
theorem used_any {w : World} {bl : List Nat} {p R C K : Nat} {D : List ByteArray} {old : Bool} (h : FrAt w bl p R C K D old) :
    Calls Tryz.prog 60 #[.pointer (some ⟨p, 0, none⟩)] w fun e w' => e = .returned (.int .i64 ((txt D).length : Int)) ∧ w = w' := by
  obtain ⟨G, lv, M, h⟩ := h
  obtain ⟨c0, c1, c2, c3, c4, c5, c6, _⟩ := h.c0
  clear h
  go_enter Tryz.func60, Tryz.ntmps60
  go_wp2_with fail
  go_ret
  exact ⟨rfl, rfl⟩
def padZ (R n : Nat) : Int := 191 - (colsUsed R n : Nat)
theorem padding_any {w : World} {bl : List Nat} {p R C K : Nat} {D : List ByteArray} {old : Bool} (h : FrAt w bl p R C K D old) :
    Calls Tryz.prog 64 #[.pointer (some ⟨p, 0, none⟩)] w (Ret (.int .i64 (padZ R (txt D).length)) w) := by
  obtain ⟨G, lv, M, h⟩ := h
  obtain ⟨c0, c1, c2, c3, c4, c5, c6, _⟩ := h.c0
  have hlow := h.low
  have hroom := h.room
  obtain ⟨n, hn⟩ : ∃ n, n = (txt D).length := ⟨_, rfl⟩
  rw [← hn] at c4 hroom ⊢
  have hRC : R * C ≤ 1024 * 191 := Nat.mul_le_mul hlow.2.1 hlow.2.2.1
  by_cases h0 : n = 0
  · have hz : padZ R n = 191 := by
      unfold padZ colsUsed; rw [h0, Nat.zero_add, Nat.div_eq_of_lt (by omega)]; rfl
    have h0i : ((n : Int) == 0) = true := by simp; omega
    rw [hz]
    clear h hn hroom hlow hRC h0 hz
    go_enter Tryz.func64, Tryz.ntmps64
    go_wp2_with fail
    go_ret
    exact ⟨rfl, Same.refl _ _⟩
  · have h0i : ((n : Int) == 0) = false := by simp; omega
    obtain ⟨m, hm⟩ : ∃ m : Nat, n = m + 1 := ⟨n - 1, by omega⟩
    have hmi : (n : Int) - 1 = (m : Int) := by omega
    obtain ⟨q, hq⟩ : ∃ q, q = m / R := ⟨_, rfl⟩
    have hqC : q < 191 := by rw [hq]; exact Nat.div_lt_of_lt_mul (by have := Nat.mul_le_mul (Nat.le_refl R) hlow.2.2.1; omega)
    have hz : padZ R n = 190 - (q : Int) := by
      unfold padZ
      rw [← cols_div (by omega) (by omega), show n - 1 = m by omega, ← hq]; omega
    have HS := Lib.hid (by have h9 := spot_any p m R w c0 (by omega) (by omega) (by omega); rw [← hq] at h9; exact h9)
    have hcv : ∀ W, (convert 156 3 (.float .f64 (fz q))).run Tryz.prog W = .ok (.int .i64 (q : Int)) W := fun W =>
      run_convert_float_int W _ _ _ _ _ _ (by kernel_rfl) Tryz.underlying3 (int_fz q (by omega))
    rw [hz]
    have hm9 : m < 1000000 := by omega
    clear h hn hroom hlow hRC h0 hz hm hq
    go_enter Tryz.func64, Tryz.ntmps64
    go_wp2_with fail
    (with_reducible refine HS.out.mono ?_)
    rintro e w1 ⟨rfl, s1⟩
    have S1 := Lib.hid s1
    clear s1
    go_wp2_with fail
    go_ret
    exact ⟨rfl, S1.out⟩
end Go.Proofs.YtpkpfebhdgbgbaaGreatDoor.K
namespace Go.Proofs.YtpkpfebhdgbgbaaGreatDoor.K
open Go.RowKit
set_option linter.unusedSimpArgs false
set_option linter.unusedVariables false

def zRow : Array Value := Array.replicate 255 (.int .u8 0)
theorem Tryz.infoRow : (Tryz.prog.info? 97).map (fun i => (i.zero, i.size, i.bytes)) = some (some (.agg zRow), 255, 255) := by kernel_rfl
theorem zrow_at (n j : Nat) (h : j < n) : (madeCells zRow n)[j]? = some (.int .u8 0) := by
  unfold madeCells
  rw [Array.getElem?_map, Array.getElem?_range, if_pos h]
  have h2 : j % zRow.size < zRow.size := Nat.mod_lt _ (by unfold zRow; rw [Array.size_replicate]; decide)
  simp only [Option.map_some]
  rw [getElem!_pos zRow _ h2]
  simp only [zRow, Array.getElem_replicate]
theorem make_rows (R : Nat) (hR : R ≤ 1024) (w : World) :
    (Instr.makeSlice 93 (.int .i64 (R : Int)) (.int .i64 (R : Int))).run Tryz.prog w = .ok (.slice (some ⟨w.heap.size, 0, none⟩) R R) (w.alloc (.cells (madeCells zRow (R * 255)) 97)) := by
  obtain ⟨i0, hi, hz0, hz1, hz2⟩ := info_parts Tryz.infoRow
  have hr := run_make (P := Tryz.prog) w 93 97 i0 (.agg zRow) Tryz.underlying93 hi hz0 .i64 .i64 (R : Int) (R : Int) (by omega) (by omega) (by rw [hz2]; omega) (by omega)
  simp only [Int.toNat_natCast, hz1] at hr
  exact hr
theorem grid_new (w : World) (R : Nat) : GridAt (w.alloc (.cells (madeCells zRow (R * 255)) 97)) w.heap.size R (fun _ _ => 0) := by
  refine ⟨_, heap_alloc_new w _, size_madeCells _ _, fun r c hr hc => zrow_at _ _ ?_⟩
  have : r * 255 + 255 ≤ R * 255 := by omega
  omega
theorem fr_new (W : World) (R C K : Nat) (hl : 256 ≤ R ∧ R ≤ 1024 ∧ C ≤ 191 ∧ K ≤ 64 ∧ 1 ≤ C) :
    FrIn (((W.alloc (.cells (madeCells zRow (R * 255)) 97)).drew).alloc (.cells (frC R C K (.slice none 0 0) 0 W.heap.size false) 95)) [W.heap.size + 1, W.heap.size] (W.heap.size + 1) R C K [] false W.heap.size (.slice none 0 0) (fun _ _ => 0) where
  head := by
    have h := heap_alloc_new (W.alloc (.cells (madeCells zRow (R * 255)) 97)).drew (.cells (frC R C K (.slice none 0 0) 0 W.heap.size false) 95)
    rw [drew_heap, World.size_alloc] at h
    exact h
  grid := (grid_new W R).same (S := []) ((Same.refl [] _).drew.alloc _) (by simp)
  holds := ⟨fun r c _ _ => rfl, fun _ r c _ _ => (full_nil R r c).symm⟩
  row := World.ownsRow_nil _ _ _ _
  inP := by simp
  inG := by simp
  neG := by omega
  own := fun q hq => by simp [Value.ownBlock] at hq
  low := hl
  room := Nat.zero_le _
  few := Nat.zero_le _
  below := fun x hx => by
    have hx2 : x = W.heap.size + 1 ∨ x = W.heap.size := by simpa using hx
    rw [World.size_alloc, drew_heap, World.size_alloc]; omega
/-- What New answers. -/
def NewFr (r c k : Int) (w : World) (e : Ending) (w' : World) : Prop :=
  Same [] w w' ∧ if RightP r c k then ∃ p bl R C K, r = (R : Nat) ∧ c = (C : Nat) ∧ k = (K : Nat) ∧ e = .returned (.tuple #[.pointer (some ⟨p, 0, none⟩), .int .i64 0]) ∧ FrAt w' bl p R C K [] false ∧ ∀ x ∈ bl, w.heap.size ≤ x
    else e = .returned (.tuple #[.pointer none, .int .i64 23])
set_option maxRecDepth 100000 in
theorem fnew_any (r c k : Int) (w : World) (ht : Tab w) : Calls Tryz.prog 28 #[.agg #[.int .i64 r, .int .i64 c, .int .i64 k]] w (NewFr r c k w) := by
  have hS : Same [] w (w.alloc (.cells #[.int .i64 r, .int .i64 c, .int .i64 k] 89)) := (Same.refl [] w).alloc _
  have HC := Lib.hid (fcheck_any r c k _ (ht.same hS (by simp)))
  have HS := Lib.hid hS
  clear hS ht
  unfold NewFr
  by_cases h : RightP r c k
  · simp only [if_pos h]
    rw [show checkC r c k = 0 from if_pos h] at HC
    obtain ⟨h1, h2, h3, h4, h5⟩ := h
    rw [sizes_iff] at h1
    obtain ⟨R, rfl⟩ : ∃ R : Nat, r = (R : Int) := ⟨r.toNat, by omega⟩
    obtain ⟨C, rfl⟩ : ∃ C : Nat, c = (C : Int) := ⟨c.toNat, by omega⟩
    obtain ⟨K, rfl⟩ : ∃ K : Nat, k = (K : Int) := ⟨k.toNat, by omega⟩
    have hR : R ≤ 1024 := by omega
    have hR2 : 256 ≤ R := by omega
    have HLOW := Lib.hid (show 256 ≤ R ∧ R ≤ 1024 ∧ C ≤ 191 ∧ K ≤ 64 ∧ 1 ≤ C by omega)
    have hmk := fun W => make_rows R hR W
    clear h1 h2 h3 h4 h5
    go_enter Tryz.func28, Tryz.ntmps28
    go_wp2_with fail
    (with_reducible refine HC.out.mono ?_)
    rintro e w1 ⟨rfl, s1⟩
    have S1 := Lib.hid s1
    have c0 := s1.cell (p := ⟨w.heap.size, 0, none⟩) (cell_of (heap_alloc_new w _) 0) (by simp)
    have c1 := s1.cell (p := ⟨w.heap.size, 1, none⟩) (cell_of (heap_alloc_new w _) 1) (by simp)
    have c2 := s1.cell (p := ⟨w.heap.size, 2, none⟩) (cell_of (heap_alloc_new w _) 2) (by simp)
    have hz := s1.size
    rw [World.size_alloc] at hz
    have hlt : w.heap.size < w1.heap.size := by omega
    have hold : ∀ (o : Obj) (i : Nat), (w1.alloc o).cell? ⟨w.heap.size, i, none⟩ = w1.cell? ⟨w.heap.size, i, none⟩ := fun o i => World.cell?_of_block (Below.heap_alloc _ _ _ hlt)
    have e0 := fun o => (hold o 0).trans c0
    have e1 := fun o => (hold o 1).trans c1
    have e2 := fun o => (hold o 2).trans c2
    simp at c0 c1 c2 e0 e1 e2
    clear hold hlt
    clear s1
    go_wp2_with fail
    go_region
    all_goals
      go_wp2_with fail
      go_ret2
      refine ⟨HS.out.trans_nil (((S1.out.alloc _).drew).alloc _), w1.heap.size + 1, [w1.heap.size + 1, w1.heap.size], R, C, K, rfl, rfl, rfl, rfl, ⟨w1.heap.size, .slice none 0 0, fun _ _ => 0, fr_new w1 R C K HLOW.out⟩, fun x hx => ?_⟩
      have hx2 : x = w1.heap.size + 1 ∨ x = w1.heap.size := by simpa using hx
      omega
  · simp only [if_neg h]
    rw [show checkC r c k = 23 from if_neg h] at HC
    clear h
    go_enter Tryz.func28, Tryz.ntmps28
    go_wp2_with fail
    (with_reducible refine HC.out.mono ?_)
    rintro e w1 ⟨rfl, s1⟩
    have S1 := Lib.hid (HS.out.trans_nil s1)
    clear s1
    go_wp2_with fail
    go_ret2
    exact ⟨S1.out, rfl⟩
end Go.Proofs.YtpkpfebhdgbgbaaGreatDoor.K
