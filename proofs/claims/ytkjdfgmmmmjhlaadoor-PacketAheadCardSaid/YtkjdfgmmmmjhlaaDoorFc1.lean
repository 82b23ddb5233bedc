/- slices.Chunk of bytes, by 188: the iterator gives the pieces of a row. Condition: the row's length is a multiple of 188. -/
import Derived.Test.YtkjdfgmmmmjhlaaDoorBitsPut
import Derived.Test.YtkjdfgmmmmjhlaaDoorBr1
import Derived.Test.YtkjdfgmmmmjhlaaDoorWk2
namespace Go.Proofs.YtkjdfgmmmmjhlaaDoor
open Go.RowKit Go.Shelf
attribute [local go_sem] Oper.semAt_some
set_option linter.unusedSimpArgs false
set_option linter.unusedVariables false

/-- The piece k of the row in block g. -/
def pieceV (g k : Nat) : Array Value := #[.slice (some ⟨g, 188 * k, none⟩) 188 188]

set_option maxHeartbeats 1000000 in
theorem chunk1_full (g m cap : Nat) (hm : 188 * m ≤ cap) (hc : cap ≤ maxLen) (w0 : World) (bs bn : Nat) (hne : bs ≠ bn)
    (hbs : w0.heap[bs]? = some (.cells #[.slice (some ⟨g, 0, none⟩) (188 * m) cap] 51 (0, 0))) (hbn : w0.heap[bn]? = some (.cells #[.int .i64 188] 3 (0, 0))) :
    SeqFull Tryd.prog 42 #[.pointer (some ⟨bs, 0, none⟩), .pointer (some ⟨bn, 0, none⟩)] (pieceV g) (List.range m) [bs, bn] w0 := by
  intro l J W hW hJ hY h0
  unfold maxLen at hc
  refine callsIn_of_wp Tryd.func42 rfl trivial ?_ rfl
  simp only [Tryd.ntmps42, List.size_toArray, List.length_cons, List.length_nil, Nat.reduceAdd, Nat.reduceSub, Array.replicate_succ, Array.replicate_zero, List.push_toArray, List.append_toArray, List.nil_append, List.cons_append]
  gi_wp2
  gi_loopw [4] (fun i wr => ∃ k : Nat, k ≤ m ∧ i = .int .i64 ((188 * k : Nat) : Int) ∧ wr.heap[bs]? = some (.cells #[.slice (some ⟨g, 0, none⟩) (188 * m) cap] 51 (0, 0)) ∧ wr.heap[bn]? = some (.cells #[.int .i64 188] 3 (0, 0)) ∧ J (List.range k) wr)
    (fun i wr => 188 * m - (intOf i).toNat)
  case atStart =>
    exact ⟨0, Nat.zero_le _, rfl, hW.heap hbs (by simp), hW.heap hbn (by simp), h0⟩
  case round =>
    obtain ⟨k, hk, rfl, hx, hn, hj⟩ := hrel
    have cx : wr.cell? ⟨bs, 0, none⟩ = some (.slice (some ⟨g, 0, none⟩) (188 * m) cap) := by rw [cell_of hx]; rfl
    have cn : wr.cell? ⟨bn, 0, none⟩ = some (.int .i64 188) := by rw [cell_of hn]; rfl
    by_cases hlt : k < m
    · obtain ⟨f0, tmps, assign, body, hy, hR⟩ := hY _ k _ (hJ _ _ _ hj ((Same.refl [bs, bn] wr).drew)) (by
        rw [← List.range_succ]
        obtain ⟨j, rfl⟩ : ∃ j, m = k + 1 + j := ⟨m - (k + 1), by omega⟩
        rw [List.range_add]; exact List.prefix_append _ _)
      unfold pieceV at hy
      rw [← List.range_succ] at hR
      have HR := Lib.hid hR; have HY := Lib.hid hy
      have hlti : ((188 * k : Nat) : Int) < ((188 * m : Nat) : Int) := by omega
      have hle : 188 * k ≤ 188 * m := by omega
      have hlei : ((188 * k : Nat) : Int) ≤ ((188 * m : Nat) : Int) := by omega
      have hlec : ((188 * m : Nat) : Int) ≤ ((cap : Nat) : Int) := by omega
      have hmin : min (188 : Int) ((188 * m - 188 * k : Nat) : Int) = 188 := by omega
      have HX := Lib.hid hx; have HN := Lib.hid hn
      clear hY hJ h0 hbs hbn hW hR hy hj hx hn
      gi_wp2
      gi_region
      have hy := HY.out
      have hs1 : ((188 * k : Nat) : Int) + 188 ≤ (cap : Int) := by omega
      have hs2 : 188 * k + 188 ≤ cap := by omega
      gi_wp2
      refine ⟨rfl, HR.out.mono ?_⟩
      rintro e W3 ⟨rfl, hJ3, hk3⟩
      have h3n : W3.heap[bn]? = some (.cells #[.int .i64 188] 3 (0, 0)) := (hk3 bn (by simp)).trans HN.out
      have h3x : W3.heap[bs]? = some (.cells #[.slice (some ⟨g, 0, none⟩) (188 * m) cap] 51 (0, 0)) := (hk3 bs (by simp)).trans HX.out
      have cn3 : W3.cell? ⟨bn, 0, none⟩ = some (.int .i64 188) := by rw [cell_of h3n]; rfl
      have HJ3 := Lib.hid hJ3; have H3n := Lib.hid h3n; have H3x := Lib.hid h3x
      clear hJ3 h3n h3x hk3 HR hy HY cx cn HX HN
      gi_wp2
      go_roundw
      case rel => exact ⟨k + 1, by omega, by go_num, H3x.out, H3n.out, HJ3.out⟩
      case measure => simp [intOf]; omega
    · obtain rfl : k = m := by omega
      clear hY
      gi_wp2
      go_end0
      exact ⟨⟨_, rfl⟩, hj⟩

end Go.Proofs.YtkjdfgmmmmjhlaaDoor
