/- The statements' Made, text and few. Condition: none. -/
import Derived.Test.YtdkjcocpkgojaaaDoorFw8
import Derived.Test.YtdkjcocpkgojaaaDoorHDgFine
namespace Go.Proofs.YtdkjcocpkgojaaaDoor
open Go.RowKit
open Dg (rmk4 rmake4_ok)
set_option linter.unusedSimpArgs false
set_option linter.unusedVariables false

def bodyB (b : UInt8) (j : Nat) : UInt8 := b + UInt8.ofNat (j % 7)
def bodyK (m : Nat) (b : UInt8) (k : Nat) : List UInt8 := ofF m (fun j => if j < k then bodyB b j else 0)
def bodyL (m : Nat) (b : UInt8) : List UInt8 := ofF m (bodyB b)
theorem bodyK_zero (m : Nat) (b : UInt8) : bodyK m b 0 = List.replicate m 0 := by
  unfold bodyK
  refine List.ext_getElem (by rw [ofF_length, List.length_replicate]) fun i h1 h2 => ?_
  rw [ofF_get, List.getElem_replicate, if_neg (by omega)]
theorem bodyK_length (m : Nat) (b : UInt8) (k : Nat) : (bodyK m b k).length = m := ofF_length _ _
theorem bodyK_set (m : Nat) (b : UInt8) (k : Nat) : (bodyK m b k).set k (bodyB b k) = bodyK m b (k + 1) := by
  unfold bodyK
  refine List.ext_getElem (by rw [List.length_set, ofF_length, ofF_length]) fun i h1 h2 => ?_
  rw [List.getElem_set, ofF_get, ofF_get]
  by_cases h : k = i
  · subst h; rw [if_pos rfl, if_pos (by omega)]
  · rw [if_neg h]
    by_cases h3 : i < k
    · rw [if_pos h3, if_pos (by omega)]
    · rw [if_neg h3, if_neg (by omega)]
theorem bodyK_all (m : Nat) (b : UInt8) : bodyK m b m = bodyL m b := by
  unfold bodyK bodyL
  exact ofF_ext fun i hi => if_pos hi
theorem rowF_made (m : Nat) (hm : m < 549755813888) (w : World) : RowF (w.alloc (.cells (madeCells #[.int .u8 0] m) 5)) (.slice (some ⟨w.heap.size, 0, none⟩) m m) w.heap.size (u8l (List.replicate m 0)) := by
  have hl : (madeCells #[.int .u8 0] m).toList = List.replicate m (.int .u8 0) := toList_madeCells_one _ _
  have hs : (u8l (List.replicate m 0)).length = m := by rw [u8l_length, List.length_replicate]
  refine ⟨m, by rw [hs], by rw [hs]; exact Nat.le_refl _, by unfold maxLen; omega, fun j u hj => ?_, fun j hj => ⟨?_, free_of (heap_alloc_new w _) j⟩⟩
  · rw [cell_of (heap_alloc_new w _), ← Array.getElem?_toList, hl]
    rw [u8l, List.map_replicate] at hj
    exact hj
  · rw [cell_of (heap_alloc_new w _), ← Array.getElem?_toList, hl, List.getElem?_replicate, if_pos hj]; rfl
def fromT : ByteArray := ⟨#[97, 98, 99, 100]⟩
def toT : ByteArray := ⟨#[101, 102, 103, 104]⟩
def mOf (n : Int) : Nat := (max 0 (min n 4060)).toNat
def madeS (n : Int) (b : UInt8) : ByteArray := rmk4 fromT toT (b.toNat : Int) (bs (bodyL (mOf n) b))
set_option maxRecDepth 100000 in
set_option maxHeartbeats 4000000 in
theorem made_any (n : Int) (b : UInt8) (w : World) : Calls Tryd.prog 30 #[.int .i64 n, .int .u8 (b.toNat : Int)] w (Ret (.string (madeS n b)) w) := by
  have hms : madeS n b = rmk4 fromT toT (b.toNat : Int) (bs (bodyL (mOf n) b)) := rfl
  obtain ⟨Z, hZ⟩ : ∃ Z, Z = madeS n b := ⟨_, rfl⟩
  rw [← hZ] at hms ⊢
  obtain ⟨m, hm⟩ : ∃ m, m = mOf n := ⟨_, rfl⟩
  rw [← hm] at hms
  have hm4 : m ≤ 4060 := by rw [hm]; unfold mOf; omega
  have hb8 := b.toNat_lt
  have HMK := Lib.hid (fun W => (by have h9 := rmake4_ok fromT toT (b.toNat : Int) (bs (bodyL m b)) W (by decide) (by decide) (by omega) (by omega) (by rw [size_bs]; unfold bodyL; rw [ofF_length]; exact hm4); rw [← hms] at h9; exact h9 : Calls Tryd.prog 43 #[.string ⟨#[97, 98, 99, 100]⟩, .string ⟨#[101, 102, 103, 104]⟩, .int .i64 (b.toNat : Int), .string (bs (bodyL m b))] W (Ret (.tuple #[.string Z, .int .i64 0]) W)))
  have hmk := make_cap m m (Nat.le_refl _) (by omega) w
  have HRW := Lib.hid (rowF_made m (by omega) w)
  obtain ⟨q, hq⟩ : ∃ q, q = min n 4060 := ⟨_, rfl⟩
  have hmx : max (0 : Int) q = (m : Int) := by rw [hm, hq]; unfold mOf; omega
  have hmn : min n 4060 = q := hq.symm
  have hm0 : (0 : Int) ≤ (m : Int) := by omega
  obtain ⟨B, hB⟩ : ∃ B, B = w.heap.size := ⟨_, rfl⟩
  rw [← hB] at hmk HRW
  have HB := Lib.hid hB
  clear hZ hm hms hq hB
  go_enter Tryd.func30, Tryd.ntmps30
  go_wp2_with fail
  clear hmn hmx hmk
  go_loopw [6] (fun i wr => ∃ k : Nat, k ≤ m ∧ i = .int .i64 k ∧ RowF wr (.slice (some ⟨B, 0, none⟩) m m) B (u8l (bodyK m b k)) ∧ Same [] w wr) (fun i _ => m - (intOf i).toNat)
  case atStart => exact ⟨0, Nat.zero_le _, rfl, by rw [bodyK_zero]; exact HRW.out, (Same.refl [] w).alloc _⟩
  case round =>
    obtain ⟨k, hk, rfl, hr, hsm⟩ := hrel
    have HR := Lib.hid hr; have HSM := Lib.hid hsm
    by_cases h5 : k < m
    · have h5i : (k : Int) < (m : Int) := by omega
      have c1 := hr.cell k (by rw [bodyK_length]; exact h5)
      have f1 : wr.frozen? ⟨B, k, none⟩ = false := by
        obtain ⟨c', e0, e1, _, _, h9⟩ := hr
        rw [u8l_length, bodyK_length] at e1
        exact (h9 k (by omega)).2
      obtain ⟨y, hy⟩ : ∃ y, y = cf (bodyK m b k) k := ⟨_, rfl⟩
      rw [← hy] at c1
      obtain ⟨r, hr7⟩ : ∃ r, r = k % 7 := ⟨_, rfl⟩
      have hr6 : r ≤ 6 := by omega
      have hrm : (k : Int).tmod 7 = (r : Int) := by rw [hr7]; rfl
      have hrm2 : (k : Int) % 7 = (r : Int) := by omega
      obtain ⟨z, hz⟩ : ∃ z, z = bodyB b k := ⟨_, rfl⟩
      have hzn : z.toNat = (b.toNat + r) % 256 := by
        rw [hz]; unfold bodyB; rw [UInt8.toNat_add, UInt8.toNat_ofNat', ← hr7, Nat.mod_eq_of_lt (show r < 2 ^ 8 by omega)]
      have HZN := Lib.hid hzn
      have hset : (bodyK m b k).set k z = bodyK m b (k + 1) := by rw [hz, bodyK_set]
      have HSET := Lib.hid hset
      clear hr hsm hy hr7 hz hzn hset
      go_wp2_with fail
      have e : ((b.toNat : Int) + (r : Int)) % 256 = (z.toNat : Int) := by have := HZN.out; omega
      go_roundw
      case rel => exact ⟨k + 1, by omega, by go_num, by rw [e, ← HSET.out]; exact rowF_set HR.out k (by rw [bodyK_length]; exact h5) z, HSM.out.setCell (fun h9 => absurd (show B < w.heap.size from h9) (by rw [HB.out]; exact Nat.lt_irrefl _)) _⟩
      case measure => simp [intOf]; omega
    · obtain rfl : k = m := by omega
      have h5i : ¬ (k : Int) < (k : Int) := by omega
      have hcv := hr.str
      rw [bodyK_all] at hcv
      clear hr hsm h5
      go_wp2_with fail
      (with_reducible refine (HMK.out _).mono ?_)
      rintro e w4 ⟨rfl, s4⟩
      have S4 := Lib.hid (HSM.out.trans_nil s4)
      clear s4
      go_wp2_with fail
      go_ret
      exact ⟨rfl, S4.out⟩
/-- A part: of how many bytes, of which kind; or a text as it is. -/
structure PartT where
  n : Int
  b : UInt8
  s : ByteArray
  is : Bool
def textS (x : PartT) : ByteArray := if x.is then x.s else madeS x.n x.b
def partV (x : PartT) : Value := .agg #[.int .i64 x.n, .int .u8 (x.b.toNat : Int), .string x.s, .bool x.is]
theorem text_any (x : PartT) (w : World) : Calls Tryd.prog 14 #[partV x] w (Ret (.string (textS x)) w) := by
  obtain ⟨n, b, s, is⟩ := x
  have HM := Lib.hid (fun W => made_any n b W)
  cases is with
  | true =>
    show Calls _ _ #[.agg #[.int .i64 n, .int .u8 (b.toNat : Int), .string s, .bool true]] w (Ret (.string s) w)
    go_enter Tryd.func14, Tryd.ntmps14
    go_wp2_with fail
    go_ret
    exact ⟨rfl, (Same.refl [] w).alloc _⟩
  | false =>
    show Calls _ _ #[.agg #[.int .i64 n, .int .u8 (b.toNat : Int), .string s, .bool false]] w (Ret (.string (madeS n b)) w)
    obtain ⟨Z, hZ⟩ : ∃ Z, Z = madeS n b := ⟨_, rfl⟩
    rw [← hZ] at HM ⊢
    clear hZ
    go_enter Tryd.func14, Tryd.ntmps14
    go_wp2_with fail
    (with_reducible refine (HM.out _).mono ?_)
    rintro e w1 ⟨rfl, s1⟩
    have S1 := Lib.hid (((Same.refl [] w).alloc _).trans_nil s1)
    clear s1
    go_wp2_with fail
    go_ret
    exact ⟨rfl, S1.out⟩
/-- The slice value v reads as the parts L. -/
def PartsAt (w : World) (v : Value) (L : List PartT) : Prop :=
  ∃ ad c, v = .slice ad L.length c ∧ L.length ≤ c ∧ c ≤ maxLen ∧ ∀ (i : Nat) (h : i < L.length), ∃ a : Addr, ad = some a ∧ a.spot = none ∧
    w.cell? ⟨a.block, a.off + i * 4, none⟩ = some (.int .i64 L[i].n) ∧ w.cell? ⟨a.block, a.off + i * 4 + 1, none⟩ = some (.int .u8 (L[i].b.toNat : Int)) ∧
    w.cell? ⟨a.block, a.off + i * 4 + 2, none⟩ = some (.string L[i].s) ∧ w.cell? ⟨a.block, a.off + i * 4 + 3, none⟩ = some (.bool L[i].is)
theorem PartsAt.same {A C : World} {v : Value} {l : List PartT} (h : PartsAt A v l) (hs : Same [] A C) : PartsAt C v l := by
  obtain ⟨ad, c, rfl, h1, h2, h3⟩ := h
  exact ⟨ad, c, rfl, h1, h2, fun i hi => by obtain ⟨a, ha, hsp, k0, k1, k2, k3⟩ := h3 i hi; exact ⟨a, ha, hsp, hs.cell k0 (by simp), hs.cell k1 (by simp), hs.cell k2 (by simp), hs.cell k3 (by simp)⟩⟩
def FewP (L : List PartT) : Prop := L.length ≤ 20 ∧ ∀ x ∈ L, x.s.size ≤ 5000
instance (L : List PartT) : Decidable (FewP L) := inferInstanceAs (Decidable (_ ∧ _))
set_option maxRecDepth 100000 in
theorem few_any (L : List PartT) (v : Value) (w : World) (hr : PartsAt w v L) : Calls Tryd.prog 11 #[v] w (Ret (.bool (decide (FewP L))) w) := by
  obtain ⟨ad, cp, rfl, hlc, hcm, hcell⟩ := hr
  have HCELL := Lib.hid hcell
  have hml : L.length ≤ 9223372036854775807 := Nat.le_trans hlc (Nat.le_trans hcm (by unfold maxLen; decide))
  obtain ⟨q, hq⟩ : ∃ q, q = decide (FewP L) := ⟨_, rfl⟩
  have HQ := Lib.hid hq
  rw [← hq]
  clear hcell hq
  go_enter Tryd.func11, Tryd.ntmps11
  go_wp2_with fail
  go_loopw [3] (fun i wr => ∃ k : Nat, k ≤ L.length ∧ i = .int .i64 k ∧ (∀ x ∈ L.take k, x.s.size ≤ 5000) ∧ Same [] w wr) (fun i _ => L.length - (intOf i).toNat)
  case atStart => exact ⟨0, Nat.zero_le _, rfl, fun x hx => by simp at hx, Same.refl _ _⟩
  case round =>
    obtain ⟨k, hk, rfl, hg, hsm⟩ := hrel
    have HG := Lib.hid hg; have HSM := Lib.hid hsm
    clear hg hsm
    by_cases h1 : k < L.length
    · have h1i : (k : Int) < (L.length : Int) := by omega
      obtain ⟨ad', rfl, hsp, k0, k1, k2, k3⟩ := HCELL.out k h1
      obtain ⟨g, o, sp⟩ := ad'
      simp only at hsp k0 k1 k2 k3
      subst hsp
      obtain ⟨x, hx⟩ : ∃ x, x = L[k] := ⟨_, rfl⟩
      rw [← hx] at k2
      have d2 := HSM.out.cell k2 (by simp)
      have HX := Lib.hid hx
      clear k0 k1 k2 k3 hx
      by_cases hs5 : x.s.size ≤ 5000
      · have hsi : ¬ (5000 : Int) < (x.s.size : Int) := by omega
        have hnx : ∀ y ∈ L.take (k + 1), y.s.size ≤ 5000 := fun y hy => by
          rw [List.take_succ_eq_append_getElem h1] at hy
          rcases List.mem_append.1 hy with hy | hy
          · exact HG.out y hy
          · rw [List.mem_singleton] at hy; rw [hy, ← HX.out]; exact hs5
        have HNX := Lib.hid hnx
        clear hnx
        go_wp2_with fail
        go_roundw
        case rel => exact ⟨k + 1, by omega, by go_num, HNX.out, HSM.out⟩
        case measure => simp [intOf]; omega
      · have hsi : (5000 : Int) < (x.s.size : Int) := by omega
        have hqf : q = false := by rw [HQ.out]; exact decide_eq_false fun h9 => hs5 (by rw [HX.out]; exact h9.2 _ (List.getElem_mem h1))
        go_wp2_with fail
        go_ret
        exact ⟨by first | rfl | (rw [hqf]; rfl), HSM.out⟩
    · obtain rfl : k = L.length := by omega
      have h1i : ¬ (L.length : Int) < (L.length : Int) := by omega
      have hq2 : q = decide ((L.length : Int) ≤ 20) := by
        rw [HQ.out, decide_eq_decide]
        have := HG.out
        rw [List.take_length] at this
        exact ⟨fun h9 => by have := h9.1; omega, fun h9 => ⟨by omega, this⟩⟩
      clear h1
      go_wp2_with fail
      go_ret
      exact ⟨by first | rfl | (rw [hq2]; rfl), HSM.out⟩
end Go.Proofs.YtdkjcocpkgojaaaDoor
