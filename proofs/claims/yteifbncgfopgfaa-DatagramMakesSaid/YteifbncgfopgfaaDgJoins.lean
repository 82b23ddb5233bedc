/- The reference's splitting; the joining; and whether two lists of texts are the same. Condition: fewer than 2^40 bytes. -/
import Derived.Test.YteifbncgfopgfaaDgSplit
namespace Go.Proofs.Yteifbncgfopgfaa.Dg
open Go.RowKit
set_option linter.unusedSimpArgs false
set_option linter.unusedVariables false

/-- The first thing that is wrong in a list; 0: nothing. -/
def firstE : List ByteArray → Int
  | [] => 0
  | s :: l => if checkE s ≠ 0 then checkE s else firstE l
theorem firstE_take (xs : List ByteArray) (k : Nat) (h : k < xs.length) (h0 : firstE (xs.take k) = 0) : firstE (xs.take (k + 1)) = checkE xs[k] := by
  induction xs generalizing k with
  | nil => exact absurd h (Nat.not_lt_zero _)
  | cons s l ih =>
    cases k with
    | zero =>
      simp [firstE]
      intro hh; exact hh.symm
    | succ k =>
      simp only [List.take_succ_cons, firstE] at h0 ⊢
      by_cases hc : checkE s ≠ 0
      · rw [if_pos hc] at h0; exact absurd h0 hc
      · rw [if_neg hc] at h0 ⊢
        exact ih k (by simpa using h) h0
theorem firstE_bad (xs : List ByteArray) (k : Nat) (h : k < xs.length) (h0 : firstE (xs.take k) = 0) (hc : checkE xs[k] ≠ 0) : firstE xs = checkE xs[k] := by
  induction xs generalizing k with
  | nil => exact absurd h (Nat.not_lt_zero _)
  | cons s l ih =>
    cases k with
    | zero => simp only [List.getElem_cons_zero] at hc ⊢; simp [firstE, hc]
    | succ k =>
      simp only [List.take_succ_cons, firstE, List.getElem_cons_succ] at h0 hc ⊢
      by_cases h1 : checkE s ≠ 0
      · rw [if_pos h1] at h0; exact absurd h0 h1
      · rw [if_neg h1] at h0 ⊢
        exact ih k (by simpa using h) h0 hc

def JoinPost (xs : List ByteArray) (w : World) (e : Ending) (w' : World) : Prop :=
  e = .returned (.tuple #[.string (if firstE xs = 0 then cat xs else ⟨#[]⟩), .int .i64 (firstE xs)]) ∧ Same [] w w'

set_option maxHeartbeats 1000000 in
theorem join_checked (v : Value) (xs : List ByteArray) (w : World) (h : StrsAt w v xs) (hz : ∀ (i : Nat) (h : i < xs.length), (xs[i]).size ≤ 140737488351232) (hc : (cat xs).size ≤ 140737488355328) (hn : xs.length ≤ 1099511627776) :
    Calls Try.prog 24 #[v] w (JoinPost xs w) := by
  have H := Lib.hid h; have HZ := Lib.hid hz
  obtain ⟨ad, c, rfl, h1, h2, _⟩ := h
  unfold maxLen at h2
  clear hz
  have hj := fun W hh => join_any (.slice ad xs.length c) xs W hh hc hn
  have HJ := Lib.hid hj
  clear hj
  go_enter Try.func24, Try.ntmps24
  go_wp2_with fail
  go_loopw [9, 5, 6] (fun i _ _ wr => ∃ k : Nat, k ≤ xs.length ∧ i = .int .i64 k ∧ firstE (xs.take k) = 0 ∧ Same [] w wr) (fun i _ _ _ => xs.length - (intOf i).toNat)
  case atStart => exact ⟨0, Nat.zero_le _, rfl, rfl, Same.refl _ _⟩
  case round =>
    obtain ⟨k, hk, rfl, hf, hs⟩ := hrel
    have HF := Lib.hid hf; have HS := Lib.hid hs
    clear hf hs
    by_cases hlt : k < xs.length
    · obtain ⟨ad', c', hv', _, _, hcl⟩ := H.out.same HS.out
      cases hv'
      obtain ⟨a, rfl, hsp, hcell⟩ := hcl k hlt
      obtain ⟨g, o, sp⟩ := a
      simp only at hsp; subst hsp
      clear hcl
      have hck := fun W => check_any xs[k] W (by have := HZ.out k hlt; unfold maxLen; omega)
      have hgood : checkE xs[k] = 0 → firstE (xs.take (k + 1)) = 0 := fun h => by rw [firstE_take xs k hlt HF.out, h]
      have hbad : checkE xs[k] ≠ 0 → firstE xs = checkE xs[k] := fun h => firstE_bad xs k hlt HF.out h
      have HG := Lib.hid hgood; have HB := Lib.hid hbad; have HC := Lib.hid hck
      clear hgood hbad hck
      generalize hEE : checkE xs[k] = E at *
      clear hEE
      generalize xs[k] = x at *
      by_cases hE : E = 0
      · have hg := HG.out hE
        subst hE
        have HGG := Lib.hid hg
        clear hg HG HB
        go_wp2_with fail
        (with_reducible refine (HC.out _).mono ?_)
        rintro e w3 ⟨rfl, s3⟩
        have S3 := Lib.hid (HS.out.trans_nil s3)
        clear s3
        go_wp2_with fail
        go_roundw
        case rel => exact ⟨k + 1, by omega, by go_num, HGG.out, S3.out⟩
        case measure => simp [intOf]; omega
      · have hb := HB.out hE
        have hne : (E != 0) = true := by rw [bne_iff_ne]; exact hE
        have HBB := Lib.hid hb; have HNE := Lib.hid hE
        clear hb HG HB hE
        go_wp2_with fail
        (with_reducible refine (HC.out _).mono ?_)
        rintro e w3 ⟨rfl, s3⟩
        have S3 := Lib.hid (HS.out.trans_nil s3)
        clear s3
        go_wp2_with fail
        go_ret2
        exact ⟨by rw [HBB.out, if_neg HNE.out]; rfl, S3.out⟩
    · obtain rfl : k = xs.length := by omega
      have hf := HF.out
      rw [List.take_length] at hf
      have HFF := Lib.hid hf
      clear hf
      go_wp2_with fail
      (with_reducible refine (HJ.out _ (H.out.same HS.out)).mono ?_)
      rintro e w3 ⟨rfl, s3⟩
      have S3 := Lib.hid (HS.out.trans_nil s3)
      clear s3
      go_wp2_with fail
      go_ret2
      exact ⟨by rw [HFF.out, if_pos rfl]; rfl, S3.out⟩

def sameB (xs ys : List ByteArray) : Bool := decide (xs = ys)

set_option maxHeartbeats 1000000 in
theorem texts_eq (v u : Value) (xs ys : List ByteArray) (w : World) (hv : StrsAt w v xs) (hu : StrsAt w u ys) (h : xs = ys) :
    Calls Try.prog 25 #[v, u] w (Ret (.bool true) w) := by
  subst h
  obtain ⟨ad, c, rfl, h1, h2, h3⟩ := hv
  obtain ⟨bd, d, rfl, g1, g2, g3⟩ := hu
  have H3 := Lib.hid h3; have G3 := Lib.hid g3
  clear h3 g3
  unfold maxLen at h2 g2
  go_enter Try.func25, Try.ntmps25
  go_wp2_with fail
  go_loopw [5] (fun i wr => ∃ k : Nat, k ≤ xs.length ∧ i = .int .i64 k ∧ Same [] w wr) (fun i _ => xs.length - (intOf i).toNat)
  case atStart => exact ⟨0, Nat.zero_le _, rfl, Same.refl _ _⟩
  case round =>
    obtain ⟨k, hk, rfl, hs⟩ := hrel
    have HS := Lib.hid hs
    clear hs
    by_cases hlt : k < xs.length
    · obtain ⟨a, rfl, hsp, hcell⟩ := H3.out k hlt
      obtain ⟨g, o, sp⟩ := a
      simp only at hsp; subst hsp
      obtain ⟨a, rfl, hsp, hcell2⟩ := G3.out k hlt
      obtain ⟨g', o', sp⟩ := a
      simp only at hsp; subst hsp
      have hcell := HS.out.cell hcell (by simp)
      have hcell2 := HS.out.cell hcell2 (by simp)
      generalize xs[k] = x at *
      have hki : (k : Int) < (xs.length : Int) := by omega
      have hself : (x.toList != x.toList) = false := by simp
      go_wp2
      go_region
      go_wp2
      go_roundw
      case rel => exact ⟨k + 1, by omega, by go_num, HS.out.drew⟩
      case measure => simp [intOf]; omega
    · obtain rfl : k = xs.length := by omega
      go_wp2
      go_ret
      exact ⟨rfl, HS.out⟩

end Go.Proofs.Yteifbncgfopgfaa.Dg
