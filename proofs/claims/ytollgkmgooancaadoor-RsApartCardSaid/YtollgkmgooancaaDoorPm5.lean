/- slices.Reverse of bytes. Condition: the reach of a slice. -/
import Derived.Test.YtollgkmgooancaaDoorPm4
namespace Go.Proofs.YtollgkmgooancaaDoor
open Go.RowKit
set_option linter.unusedSimpArgs false
set_option linter.unusedVariables false

/-- So many at both ends are turned round. -/
def revK (L : List UInt8) (i : Nat) : List UInt8 := ofF L.length (fun j => if j < i ∨ L.length ≤ j + i then cf L (L.length - 1 - j) else cf L j)
theorem revK_length (L : List UInt8) (i : Nat) : (revK L i).length = L.length := ofF_length _ _
theorem cf_revK (L : List UInt8) (i j : Nat) (h : j < L.length) : cf (revK L i) j = if j < i ∨ L.length ≤ j + i then cf L (L.length - 1 - j) else cf L j := by
  unfold revK; rw [cf_ofF, if_pos h]
theorem revK_zero (L : List UInt8) : revK L 0 = L := by
  refine ext_cf (revK_length _ _) ?_
  funext j
  by_cases h : j < L.length
  · rw [cf_revK _ _ _ h, if_neg (by omega)]
  · rw [cf_ge (by rw [revK_length]; omega), cf_ge (by omega)]
theorem revK_all (L : List UInt8) (i : Nat) (h : L.length ≤ 2 * i + 1) : revK L i = L.reverse := by
  refine ext_cf (by rw [revK_length, List.length_reverse]) ?_
  funext j
  by_cases hj : j < L.length
  · rw [cf_revK _ _ _ hj, cf_lt (l := L.reverse) (by rw [List.length_reverse]; exact hj), List.getElem_reverse]
    split
    · rw [cf_lt (by omega)]
    · rw [cf_lt hj]
      congr 1
      omega
  · rw [cf_ge (by rw [revK_length]; omega), cf_ge (by rw [List.length_reverse]; omega)]
theorem revK_succ (L : List UInt8) (i j : Nat) (hij : i + j + 1 = L.length) (h : i < j) :
    ((revK L i).set i (cf (revK L i) j)).set j (cf (revK L i) i) = revK L (i + 1) := by
  refine ext_cf (by simp [revK_length]) ?_
  funext m
  rw [cf_set (by simp [revK_length]; omega), cf_set (by rw [revK_length]; omega)]
  by_cases hm : m < L.length
  · rw [cf_revK _ _ _ hm, cf_revK _ _ _ hm, cf_revK _ _ _ (by omega), cf_revK _ _ _ (by omega)]
    rw [if_neg (show ¬ (j < i ∨ L.length ≤ j + i) by omega), if_neg (show ¬ (i < i ∨ L.length ≤ i + i) by omega)]
    by_cases e1 : m = j
    · subst e1
      rw [if_pos rfl, if_pos (by omega), show L.length - 1 - m = i by omega]
    · rw [if_neg e1]
      by_cases e2 : m = i
      · subst e2
        rw [if_pos rfl, if_pos (by omega), show L.length - 1 - m = j by omega]
      · rw [if_neg e2]
        by_cases e3 : m < i ∨ L.length ≤ m + i
        · rw [if_pos e3, if_pos (by omega)]
        · rw [if_neg e3, if_neg (by omega)]
  · rw [if_neg (by omega), if_neg (by omega), cf_ge (by rw [revK_length]; omega), cf_ge (by rw [revK_length]; omega)]

theorem CellsB.setC {B : Nat} {w : World} {v : Value} {l : List UInt8} {g cap : Nat} {cur : Array Value} (h : CellsB B w v l g cap cur) (i : Nat) (x : UInt8) :
    CellsB B (w.setCell ⟨g, i, none⟩ (.int .u8 (x.toNat : Int))) v (l.set i x) g cap (cur.setIfInBounds i (.int .u8 (x.toNat : Int))) := by
  refine ⟨?_, h.base, set_same h.heap _, ?_, h.max, by simp [h.size], ?_⟩
  · rw [List.length_set]; exact h.val
  · rw [List.length_set]; exact h.len
  · rw [List.length_set, Array.toList_setIfInBounds, List.take_set, h.take]
    simp [u8l, u8v]
/-- What Reverse leaves. -/
def RevPost (B : Nat) (v : Value) (L : List UInt8) (w : World) (e : Ending) (w' : World) : Prop := (∃ u, e = .returned u) ∧ OwnB B w' v L.reverse ∧ Same v.ownBlock.toList w w'

set_option maxRecDepth 100000 in
set_option maxHeartbeats 8000000 in
theorem rev_any (B : Nat) (v : Value) (L : List UInt8) (w : World) (ho : OwnB B w v L) (hl : L.length < 549755813888) :
    Calls Tryd.prog 46 #[v] w (RevPost B v L w) := by
  obtain ⟨ad, c, hv⟩ := ho.form
  subst hv
  have HO := Lib.hid ho
  clear ho
  go_enter Tryd.func46, Tryd.ntmps46
  go_wp2_with fail
  go_loopw [2, 3] (fun i j wr => ∃ k : Nat, 2 * k ≤ L.length ∧ i = .int .i64 k ∧ j = .int .i64 ((L.length : Int) - 1 - (k : Int)) ∧ OwnB B wr (.slice ad L.length c) (revK L k) ∧ Same (Value.slice ad L.length c).ownBlock.toList w wr) (fun i _ _ => L.length - (intOf i).toNat)
  case atStart => exact ⟨0, by omega, rfl, by go_num, by rw [revK_zero]; exact HO.out, Same.refl _ _⟩
  case round =>
    obtain ⟨k, hk, rfl, rfl, hok, hs⟩ := hrel
    by_cases h1 : 2 * k + 1 < L.length
    · have h1i : (k : Int) < (L.length : Int) - 1 - (k : Int) := by omega
      obtain ⟨j, hj⟩ : ∃ j, k + j + 1 = L.length := ⟨L.length - 1 - k, by omega⟩
      have hji : (L.length : Int) - 1 - (k : Int) = (j : Int) := by omega
      rw [hji] at h1i ⊢
      obtain ⟨g, cap, cur, hcells⟩ := hok.cells (by rw [revK_length]; omega)
      have hval := hcells.val
      rw [revK_length] at hval
      have hg : ad = some ⟨g, 0, none⟩ := by simp at hval; exact hval.1
      have hcc : c = cap := by simp at hval; exact hval.2
      subst hg; subst hcc
      have c1 := hcells.cell k (by rw [revK_length]; omega)
      have c2 := hcells.cell j (by rw [revK_length]; omega)
      have f1 := free_of hcells.heap
      obtain ⟨x, hx⟩ : ∃ x, x = cf (revK L k) k := ⟨_, rfl⟩
      obtain ⟨y, hy⟩ : ∃ y, y = cf (revK L k) j := ⟨_, rfl⟩
      rw [← hx] at c1
      rw [← hy] at c2
      have hjl : (j : Int) < (L.length : Int) := by omega
      have hkl : (k : Int) < (L.length : Int) := by omega
      have hkj : k ≠ j := by omega
      have h1x : k < j := by omega
      have hjk : j ≠ k := by omega
      have HX := Lib.hid hx; have HY := Lib.hid hy; have HCE := Lib.hid hcells; have HS := Lib.hid hs; have HJ := Lib.hid hj; have HJI := Lib.hid hji
      clear hx hy hcells hs hok hj hji hval
      go_wp2_with fail
      go_region
      go_wp2_with fail
      have hown := ((HCE.out.setC k y).setC j x).own
      rw [HY.out, HX.out, revK_succ L k j HJ.out h1x] at hown
      have hsm : Same (Value.slice (some ⟨g, 0, none⟩) L.length c).ownBlock.toList w ((wr.setCell ⟨g, k, none⟩ (.int .u8 (y.toNat : Int))).setCell ⟨g, j, none⟩ (.int .u8 (x.toNat : Int))).drew :=
        ((HS.out.setCell (fun _ => by simp [Value.ownBlock]) _).setCell (fun _ => by simp [Value.ownBlock]) _).drew
      go_roundw
      case rel => exact ⟨k + 1, by omega, by go_num, by have h2 : (j : Int) - 1 = (L.length : Int) - 1 - ((k + 1 : Nat) : Int) := (by have := HJI.out; omega); rw [h2], by rw [HX.out, HY.out]; exact hown.drew, hsm⟩
      case measure => simp [intOf]; omega
    · have h1i : ¬ (k : Int) < (L.length : Int) - 1 - (k : Int) := by omega
      have hfin : revK L k = L.reverse := revK_all L k (by omega)
      rw [hfin] at hok
      have HOK := Lib.hid hok; have HS := Lib.hid hs
      clear hok hs hfin
      go_wp2_with fail
      go_end0
      exact ⟨⟨_, rfl⟩, HOK.out, HS.out⟩
end Go.Proofs.YtollgkmgooancaaDoor
