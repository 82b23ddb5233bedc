/- The making of small texts out of bytes: two, text, and a conversion whose cells are looked up. No condition. -/
import Derived.Test.YtdkjcocpkgojaaaDoorHDgRef
namespace Go.Proofs.YtdkjcocpkgojaaaDoor.Dg
open Go.RowKit
set_option linter.unusedSimpArgs false
set_option linter.unusedVariables false

/-- What is left of a conversion whose cells are no bytes. -/
noncomputable def slowConv (g n c : Nat) (W : World) : Result Value := (convert 38 9 (.slice (some ⟨g, 0, none⟩) n c)).run Tryd.prog W
theorem conv1 (W : World) (g c : Nat) : (convert 38 9 (.slice (some ⟨g, 0, none⟩) 1 c)).run Tryd.prog W =
    (match W.cell? ⟨g, 0, none⟩ with | some (.int .u8 a0) => .ok (.string (strOfNums [a0])) W | _ => slowConv g 1 c W) := by
  split
  · rename_i a0 h0
    refine run_convert_bytes_arg W _ 5 Tryd.underlying38 Tryd.underlying5 g 0 1 c [a0] rfl (fun i hi => ?_) _ Tryd.underlying9
    have hi' : i = 0 := by omega
    subst hi'
    · exact h0
  · rfl
theorem conv2 (W : World) (g c : Nat) : (convert 38 9 (.slice (some ⟨g, 0, none⟩) 2 c)).run Tryd.prog W =
    (match W.cell? ⟨g, 0, none⟩, W.cell? ⟨g, 1, none⟩ with | some (.int .u8 a0), some (.int .u8 a1) => .ok (.string (strOfNums [a0, a1])) W | _, _ => slowConv g 2 c W) := by
  split
  · rename_i a0 a1 h0 h1
    refine run_convert_bytes_arg W _ 5 Tryd.underlying38 Tryd.underlying5 g 0 2 c [a0, a1] rfl (fun i hi => ?_) _ Tryd.underlying9
    have hi' : i = 0 ∨ i = 1 := by omega
    rcases hi' with rfl | rfl
    · exact h0
    · exact h1
  · rfl
theorem conv4 (W : World) (g c : Nat) : (convert 38 9 (.slice (some ⟨g, 0, none⟩) 4 c)).run Tryd.prog W =
    (match W.cell? ⟨g, 0, none⟩, W.cell? ⟨g, 1, none⟩, W.cell? ⟨g, 2, none⟩, W.cell? ⟨g, 3, none⟩ with | some (.int .u8 a0), some (.int .u8 a1), some (.int .u8 a2), some (.int .u8 a3) => .ok (.string (strOfNums [a0, a1, a2, a3])) W | _, _, _, _ => slowConv g 4 c W) := by
  split
  · rename_i a0 a1 a2 a3 h0 h1 h2 h3
    refine run_convert_bytes_arg W _ 5 Tryd.underlying38 Tryd.underlying5 g 0 4 c [a0, a1, a2, a3] rfl (fun i hi => ?_) _ Tryd.underlying9
    have hi' : i = 0 ∨ i = 1 ∨ i = 2 ∨ i = 3 := by omega
    rcases hi' with rfl | rfl | rfl | rfl
    · exact h0
    · exact h1
    · exact h2
    · exact h3
  · rfl

theorem snums (xs : List Int) : (strOfNums xs).size = xs.length := strOfNums_size xs

/-- The slice value v reads as the numbers xs. -/
def IntsAt (w : World) (v : Value) (xs : List Int) : Prop :=
  ∃ g c, v = .slice (some ⟨g, 0, none⟩) xs.length c ∧ xs.length ≤ c ∧ c ≤ maxLen ∧ ∀ (i : Nat) (h : i < xs.length), w.cell? ⟨g, i, none⟩ = some (.int .i64 xs[i])
theorem IntsAt.same {w W : World} {v : Value} {xs : List Int} (h : IntsAt w v xs) (hs : Same [] w W) : IntsAt W v xs := by
  obtain ⟨g, c, rfl, h1, h2, h3⟩ := h
  exact ⟨g, c, rfl, h1, h2, fun i hi => hs.cell (h3 i hi) (by simp)⟩
theorem intsAt_new (w : World) (xs : List Int) (cs : Array Value) (n : Nat) (hcs : cs = (xs.map (Value.int .i64)).toArray) (hn : xs.length = n) (hm : n ≤ 1000) : IntsAt (w.alloc (.cells cs 3)) (.slice (some ⟨w.heap.size, 0, none⟩) n n) xs := by
  subst hcs hn
  refine ⟨_, xs.length, rfl, Nat.le_refl _, by unfold maxLen; omega, fun i hi => ?_⟩
  rw [cell_of (heap_alloc_new _ _)]
  simp [hi]
theorem strOfNums_snoc (xs : List Int) (x : Int) : strOfNums (xs ++ [x]) = strOfNums xs ++ strOfNums [x] := by
  apply ByteArray.ext
  simp [strOfNums, ByteArray.data_append]

set_option maxHeartbeats 400000 in
theorem text_any (v : Value) (xs : List Int) (w : World) (h : IntsAt w v xs) (hx : ∀ (i : Nat) (h : i < xs.length), 0 ≤ xs[i] ∧ xs[i] < 256) (hn : xs.length ≤ 1000) :
    Calls Tryd.prog 49 #[v] w (Ret (.string (strOfNums xs)) w) := by
  obtain ⟨g, c, rfl, h1, h2, h3⟩ := h
  have H3 := Lib.hid h3; have HX := Lib.hid hx
  have hc1 := conv1
  have hsn := snums
  clear h3 hx
  unfold maxLen at h2
  go_enter Tryd.func49, Tryd.ntmps49
  go_wp2_with fail
  go_loopw [3, 4] (fun o i wr => ∃ (k : Nat) (t : ByteArray), k ≤ xs.length ∧ i = .int .i64 k ∧ o = .string t ∧ t = strOfNums (xs.take k) ∧ Same [] w wr) (fun _ i _ => xs.length - (intOf i).toNat)
  case atStart => exact ⟨0, _, Nat.zero_le _, rfl, rfl, rfl, Same.refl _ _⟩
  case round =>
    obtain ⟨k, t, hk, rfl, rfl, ht, hs⟩ := hrel
    have hts : t.size ≤ k := by rw [ht, strOfNums_size]; exact List.length_take_le _ _
    have HT := Lib.hid ht; have HS := Lib.hid hs
    clear ht hs
    by_cases hlt : k < xs.length
    · have hc := HS.out.cell (H3.out k hlt) (by simp)
      have hb := HX.out k hlt
      obtain ⟨hb0, hb1⟩ := hb
      have hcs : strOfNums (xs.take (k + 1)) = strOfNums (xs.take k) ++ strOfNums [xs[k]] := by
        rw [List.take_add_one, List.getElem?_eq_getElem hlt]; exact strOfNums_snoc _ _
      have HC := Lib.hid hcs
      clear hcs
      generalize xs[k] = x at *
      have hsum : ¬ t.size + 1 > 9223372036854775807 := by omega
      have hmod : x % 256 = x := by omega
      go_wp2
      go_roundw
      case rel => exact ⟨k + 1, _, by omega, by go_num, rfl, by rw [HC.out, HT.out], HS.out.alloc _⟩
      case measure => simp [intOf]; omega
    · obtain rfl : k = xs.length := by omega
      go_wp2
      go_ret
      exact ⟨by have := HT.out; rw [List.take_length] at this; rw [this]; rfl, HS.out⟩

end Go.Proofs.YtdkjcocpkgojaaaDoor.Dg
