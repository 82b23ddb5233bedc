/- Room and places of mend. No condition. -/
import Derived.Test.YtahjpjhkbohpnaaDoorFRs7
namespace Go.Proofs.YtahjpjhkbohpnaaDoor
open Go.RowKit
set_option linter.unusedSimpArgs false
set_option linter.unusedVariables false

def roomZ (n : Int) : Int := if n < 0 ∨ 64 < n then -1 else (64 - n) / 2
theorem room_any (n : Int) (w : World) : Calls Tryd.prog 11 #[.int .i64 n] w fun e w' => e = .returned (.int .i64 (roomZ n)) ∧ w = w' := by
  unfold roomZ
  by_cases h1 : n < 0
  · rw [if_pos (.inl h1)]
    go_enter Tryd.func11, Tryd.ntmps11
    go_wp2_with fail
    go_ret
    exact ⟨rfl, rfl⟩
  · by_cases h2 : 64 < n
    · rw [if_pos (.inr h2)]
      go_enter Tryd.func11, Tryd.ntmps11
      go_wp2_with fail
      go_ret
      exact ⟨rfl, rfl⟩
    · rw [if_neg (by omega)]
      obtain ⟨m, rfl⟩ : ∃ m : Nat, n = (m : Int) := ⟨n.toNat, by omega⟩
      obtain ⟨k, hk⟩ : ∃ k : Nat, (64 : Int) - (m : Int) = (k : Int) := ⟨64 - m, by omega⟩
      have hk64 : k ≤ 64 := by omega
      have hq : Int.tdiv (k : Int) 2 = ((k / 2 : Nat) : Int) := rfl
      rw [hk]
      go_enter Tryd.func11, Tryd.ntmps11
      go_wp2_with fail
      go_ret
      exact ⟨rfl, rfl⟩

/-- Numbers that are places, each once. -/
def GoodP (l : List Int) : Prop := (∀ x ∈ l, 0 ≤ x ∧ x ≤ 254) ∧ l.Nodup
instance (l : List Int) : Decidable (GoodP l) := inferInstanceAs (Decidable (_ ∧ _))
def seenL (l : List Int) : List Value := (List.range 255).map fun (j : Nat) => .bool (decide ((j : Int) ∈ l))
theorem seenL_length (l : List Int) : (seenL l).length = 255 := by unfold seenL; rw [List.length_map, List.length_range]
theorem seenL_get (l : List Int) (n : Nat) (h : n < (seenL l).length) : (seenL l)[n] = .bool (decide ((n : Int) ∈ l)) := by
  simp only [seenL, List.getElem_map, List.getElem_range]
theorem seenL_nil : seenL [] = List.replicate 255 (.bool false) := by
  refine List.ext_getElem (by rw [seenL_length, List.length_replicate]) fun i h1 h2 => ?_
  rw [List.getElem_replicate, seenL_get, decide_eq_false (by simp)]
theorem seenL_at (l : List Int) (n : Nat) (h : n < 255) : (seenL l).toArray[n]? = some (.bool (decide ((n : Int) ∈ l))) := by
  rw [List.getElem?_toArray, List.getElem?_eq_getElem (by rw [seenL_length]; exact h), seenL_get]
theorem seenL_set (l : List Int) (n : Nat) : (seenL l).set n (.bool true) = seenL (l ++ [(n : Int)]) := by
  refine List.ext_getElem (by rw [List.length_set, seenL_length, seenL_length]) fun i h1 h2 => ?_
  rw [List.getElem_set]
  by_cases hi : n = i
  · subst hi; rw [if_pos rfl, seenL_get, decide_eq_true (by simp)]
  · rw [if_neg hi, seenL_get, seenL_get]
    have hne : ¬ (i : Int) = (n : Int) := by omega
    congr 1
    simp [hne]
theorem good_snoc {xs : List Int} {k : Nat} (hk : k < xs.length) (h : GoodP (xs.take k)) (h0 : 0 ≤ xs[k] ∧ xs[k] ≤ 254) (h1 : xs[k] ∉ xs.take k) : GoodP (xs.take (k + 1)) := by
  rw [List.take_succ_eq_append_getElem hk]
  refine ⟨fun x hx => ?_, List.nodup_append.2 ⟨h.2, by simp, fun a ha b hb => ?_⟩⟩
  · rcases List.mem_append.1 hx with hx | hx
    · exact h.1 x hx
    · rw [List.mem_singleton] at hx; rw [hx]; exact h0
  · rw [List.mem_singleton] at hb
    rintro rfl
    exact h1 (hb ▸ ha)
theorem bad_range {xs : List Int} {k : Nat} (hk : k < xs.length) (h0 : ¬ (0 ≤ xs[k] ∧ xs[k] ≤ 254)) : ¬ GoodP xs := fun h => h0 (h.1 _ (List.getElem_mem hk))
theorem bad_twice {xs : List Int} {k : Nat} (hk : k < xs.length) (h1 : xs[k] ∈ xs.take k) : ¬ GoodP xs := fun h => by
  obtain ⟨i, hi, e⟩ := List.mem_take_iff_getElem.1 h1
  exact List.pairwise_iff_getElem.1 h.2 i k (by omega) hk (by omega) e
set_option maxRecDepth 100000 in
set_option maxHeartbeats 4000000 in
theorem places_any (xs : List Int) (v : Value) (w : World) (hr : NumsAt w v xs) : Calls Tryd.prog 23 #[v] w (Ret (.bool (decide (GoodP xs))) w) := by
  obtain ⟨ad, cp, rfl, hlc, hcm, hcell⟩ := hr
  have HCELL := Lib.hid hcell
  have hml : xs.length ≤ 9223372036854775807 := Nat.le_trans hlc (Nat.le_trans hcm (by unfold maxLen; decide))
  obtain ⟨R, hR⟩ : ∃ R, R = w.heap.size := ⟨_, rfl⟩
  obtain ⟨q, hq⟩ : ∃ q, q = decide (GoodP xs) := ⟨_, rfl⟩
  have HR := Lib.hid hR; have HQ := Lib.hid hq
  rw [← hq]
  clear hcell hR hq
  have hz := (zero_of_info (P := Tryd.prog) (t := 54) (v := .agg (Array.replicate 255 (.bool false))) (n := 255) (by kernel_rfl)).1
  go_enter Tryd.func23, Tryd.ntmps23
  go_wp2_with fail
  have hb0 : (w.alloc (.cells (Array.replicate 255 (.bool false)) 54)).heap[R]? = some (.cells (seenL (xs.take 0)).toArray 54 (0, 0)) := by
    rw [HR.out, heap_alloc_new, List.take_zero, seenL_nil]
    congr 2
  have HB0 := Lib.hid hb0
  rw [← HR.out]
  clear hb0
  go_loopw [8] (fun i wr => ∃ k : Nat, k ≤ xs.length ∧ i = .int .i64 k ∧ GoodP (xs.take k) ∧ wr.heap[R]? = some (.cells (seenL (xs.take k)).toArray 54 (0, 0)) ∧ Same [] w wr) (fun i _ => xs.length - (intOf i).toNat)
  case atStart => exact ⟨0, Nat.zero_le _, rfl, ⟨fun x hx => by simp at hx, by simp⟩, HB0.out, (Same.refl [] w).alloc _⟩
  case round =>
    obtain ⟨k, hk, rfl, hg, hb, hsm⟩ := hrel
    have HG := Lib.hid hg; have HB := Lib.hid hb; have HS := Lib.hid hsm
    by_cases h1 : k < xs.length
    · have h1i : (k : Int) < (xs.length : Int) := by omega
      obtain ⟨ad', rfl, hsp, c0⟩ := HCELL.out k h1
      obtain ⟨g, o, sp⟩ := ad'
      simp only at hsp c0
      subst hsp
      obtain ⟨x, hx⟩ : ∃ x, x = xs[k] := ⟨_, rfl⟩
      rw [← hx] at c0
      have d0 := HS.out.cell c0 (by simp)
      have HX := Lib.hid hx
      clear c0 hg hb hsm hx
      by_cases hx0 : x < 0
      · have hqf : q = false := by rw [HQ.out]; exact decide_eq_false (bad_range h1 (by rw [← HX.out]; omega))
        go_wp2_with fail
        go_ret
        exact ⟨by first | rfl | (rw [hqf]; rfl), HS.out⟩
      · by_cases hx5 : 254 < x
        · have hqf : q = false := by rw [HQ.out]; exact decide_eq_false (bad_range h1 (by rw [← HX.out]; omega))
          go_wp2_with fail
          go_ret
          exact ⟨by first | rfl | (rw [hqf]; rfl), HS.out⟩
        · obtain ⟨n, rfl⟩ : ∃ n : Nat, x = (n : Int) := ⟨x.toNat, by omega⟩
          have hn : n < 255 := by omega
          have hni : (n : Int) < 255 := by omega
          have c1 := cell_of HB.out n
          rw [seenL_at _ n hn] at c1
          have f1 := free_of HB.out n
          by_cases hm : (n : Int) ∈ xs.take k
          · rw [decide_eq_true hm] at c1
            have hqf : q = false := by rw [HQ.out]; exact decide_eq_false (bad_twice h1 (by rw [← HX.out]; exact hm))
            clear hm
            go_wp2_with fail
            go_ret
            exact ⟨by first | rfl | (rw [hqf]; rfl), HS.out⟩
          · rw [decide_eq_false hm] at c1
            have HM := Lib.hid hm
            clear hm
            go_wp2_with fail
            have hs2 : Same [] w (wr.setCell ⟨R, n, none⟩ (.bool true)) := HS.out.setCell (fun h => absurd (show R < w.heap.size from h) (by rw [HR.out]; omega)) _
            go_roundw
            case rel =>
              refine ⟨k + 1, by omega, by go_num, good_snoc h1 HG.out (by rw [← HX.out]; omega) (by rw [← HX.out]; exact HM.out), ?_, hs2⟩
              refine (set_same HB.out _).trans ?_
              rw [List.take_succ_eq_append_getElem h1, ← HX.out, ← seenL_set _ n]
              congr 2
              apply Array.ext'
              simp
            case measure => simp [intOf]; omega
    · obtain rfl : k = xs.length := by omega
      have h1i : ¬ (xs.length : Int) < (xs.length : Int) := by omega
      have hqt : q = true := by rw [HQ.out]; refine decide_eq_true ?_; rw [List.take_length] at hg; exact hg
      clear hg hb hsm h1
      go_wp2_with fail
      go_ret
      exact ⟨by first | rfl | (rw [hqt]; rfl), HS.out⟩
end Go.Proofs.YtahjpjhkbohpnaaDoor
