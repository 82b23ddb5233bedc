/- Rows of numbers that a call has made; slices.Contains; clarionref04's Places, Unlike, Locator; the statements' ints. Conditions: as the contracts say. -/
import Derived.Test.YtahjpjhkbohpnaaDoorMr1
import Derived.Test.YtahjpjhkbohpnaaDoorMp2
import Derived.Deep.RegionLaw
namespace Go.Proofs.YtahjpjhkbohpnaaDoor
open Go.RowKit
set_option linter.unusedSimpArgs false
set_option linter.unusedVariables false

theorem Tryd.infoI : (Tryd.prog.info? 3).map (fun i => (i.zero, i.size, i.bytes)) = some (some (.int .i64 0), 1, 8) := by kernel_rfl
def il (xs : List Int) : List Value := xs.map (Value.int .i64)
def OwnI (B : Nat) (w : World) (v : Value) (l : List Int) : Prop := w.ownsRow B 3 1 v l.length (il l)
theorem OwnI.nil (B : Nat) (w : World) : OwnI B w (.slice none 0 0) [] := World.ownsRow_nil _ _ _ _
theorem OwnI.nums {B : Nat} {w : World} {v : Value} {xs : List Int} (h : OwnI B w v xs) : NumsAt w v xs := by
  rcases h.2 with ⟨rfl, h0⟩ | ⟨g, cap, cur, rfl, _, hg, hnc, hcm, hcs, ht⟩
  · have : xs = [] := List.eq_nil_of_length_eq_zero h0
    subst this
    exact ⟨none, 0, rfl, Nat.le_refl _, Nat.zero_le _, fun i hi => absurd hi (Nat.not_lt_zero _)⟩
  · refine ⟨_, cap, rfl, hnc, hcm, fun i hi => ⟨_, rfl, rfl, ?_⟩⟩
    have h1 := congrArg (fun z => z[i]?) ht
    simp only [List.getElem?_take] at h1
    rw [if_pos (by omega)] at h1
    rw [cell_of hg, ← Array.getElem?_toList, Nat.zero_add, h1]
    simp [il, hi]
theorem OwnI.grow {B : Nat} {w wr w2 : World} {v v' : Value} {l m : List Int} (ho : OwnI B wr v l) (hB : w.heap.size ≤ B) (hs : Same [] w wr)
    (hown : w2.ownsRow B 3 1 v' (l.length + m.length) (il l ++ il m)) (hg : wr.grownBy w2 v.ownBlock) : OwnI B w2 v' (l ++ m) ∧ Same [] w w2 := by
  refine ⟨?_, hs.trans (Same.of_grown hg) fun x hx hlt => ?_⟩
  · unfold OwnI il; rw [List.length_append, List.map_append]; exact hown
  · have := (World.ownsRow.lt ho x (by simpa using hx)).1
    omega
theorem OwnI.same {B : Nat} {A C : World} {v : Value} {l : List Int} (h : OwnI B A v l) (hs : Same [] A C) : OwnI B C v l := own_same h hs (fun _ _ => by simp)
theorem OwnI.alloc {B : Nat} {w : World} {v : Value} {l : List Int} (h : OwnI B w v l) (o : Obj) : OwnI B (w.alloc o) v l := World.ownsRow.alloc h o
theorem readsI_one (wr : World) (n : Int) : Reads (wr.alloc (.cells #[.int .i64 n] 3)) 1 (.slice (some ⟨wr.heap.size, 0, none⟩) 1 1) 1 (il [n]) :=
  Reads.of_own (row_new wr #[.int .i64 n] 3 1 rfl (by decide))
theorem one_il (l : List Int) : ∀ u ∈ il l, u.oneCell' = true := by
  intro u hu
  simp only [il, List.mem_map] at hu
  obtain ⟨a, _, rfl⟩ := hu
  rfl
theorem NumsAt.same {A C : World} {v : Value} {l : List Int} (h : NumsAt A v l) (hs : Same [] A C) : NumsAt C v l := by
  obtain ⟨ad, c, rfl, h1, h2, h3⟩ := h
  exact ⟨ad, c, rfl, h1, h2, fun i hi => by obtain ⟨a, ha, hsp, hc⟩ := h3 i hi; exact ⟨a, ha, hsp, hs.cell hc (by simp)⟩⟩
theorem nums_nil (w : World) : NumsAt w (.slice none 0 0) [] := ⟨none, 0, rfl, Nat.le_refl _, Nat.zero_le _, fun i hi => absurd hi (Nat.not_lt_zero _)⟩
theorem nums_one (w : World) (n : Int) : NumsAt (w.alloc (.cells #[.int .i64 n] 3)) (.slice (some ⟨w.heap.size, 0, none⟩) 1 1) [n] :=
  OwnI.nums (B := 0) (row_new w #[.int .i64 n] 3 1 rfl (by decide))

set_option maxRecDepth 100000 in
theorem index_any (xs : List Int) (v : Value) (n : Int) (w : World) (hr : NumsAt w v xs) : Calls Tryd.prog 44 #[v, .int .i64 n] w fun e w' => (∃ k : Int, e = .returned (.int .i64 k) ∧ (n ∈ xs → 0 ≤ k) ∧ (n ∉ xs → k = -1)) ∧ w = w' := by
  obtain ⟨ad, cp, rfl, hlc, hcm, hcell⟩ := hr
  have HCELL := Lib.hid hcell
  have hml : xs.length ≤ 9223372036854775807 := Nat.le_trans hlc (Nat.le_trans hcm (by unfold maxLen; decide))
  clear hcell
  go_enter Tryd.func44, Tryd.ntmps44
  go_wp2_with fail
  go_loopw [8] (fun i wr => ∃ k : Nat, k ≤ xs.length ∧ i = .int .i64 k ∧ n ∉ xs.take k ∧ w = wr) (fun i _ => xs.length - (intOf i).toNat)
  case atStart => exact ⟨0, Nat.zero_le _, rfl, by simp, rfl⟩
  case round =>
    obtain ⟨k, hk, rfl, hn, rfl⟩ := hrel
    have HN := Lib.hid hn
    clear hn
    by_cases h1 : k < xs.length
    · have h1i : (k : Int) < (xs.length : Int) := by omega
      obtain ⟨ad', rfl, hsp, c0⟩ := HCELL.out k h1
      obtain ⟨g, o, sp⟩ := ad'
      simp only at hsp c0
      subst hsp
      obtain ⟨x, hx⟩ : ∃ x, x = xs[k] := ⟨_, rfl⟩
      rw [← hx] at c0
      have HX := Lib.hid hx
      clear hx
      by_cases he : n = x
      · have hei : (n == x) = true := by rw [he]; simp
        have hm : n ∈ xs := by rw [he, HX.out]; exact List.getElem_mem h1
        have HM := Lib.hid hm
        clear he hm
        go_wp2_with fail
        go_ret
        exact ⟨⟨_, rfl, fun _ => by omega, fun h => absurd HM.out h⟩, rfl⟩
      · have hei : (n == x) = false := by simpa using he
        have HE := Lib.hid he
        clear he
        go_wp2_with fail
        go_roundw
        case rel => exact ⟨k + 1, by omega, by go_num, by rw [List.take_succ_eq_append_getElem h1, List.mem_append, List.mem_singleton, ← HX.out]; exact fun h => h.elim HN.out HE.out, by first | rfl | trivial⟩
        case measure => simp [intOf]; omega
    · obtain rfl : k = xs.length := by omega
      have h1i : ¬ (xs.length : Int) < (xs.length : Int) := by omega
      clear h1
      go_wp2_with fail
      go_ret
      exact ⟨⟨_, rfl, fun h => absurd h (by have := HN.out; rwa [List.take_length] at this), fun _ => rfl⟩, rfl⟩
theorem contains_any (xs : List Int) (v : Value) (n : Int) (q : Bool) (w : World) (hr : NumsAt w v xs) (hq : decide (n ∈ xs) = q) : Calls Tryd.prog 30 #[v, .int .i64 n] w fun e w' => e = .returned (.bool q) ∧ w = w' := by
  have HI := Lib.hid (index_any xs v n w hr)
  have HQ := Lib.hid hq
  obtain ⟨ad, cp, rfl, hlc, hcm, hcell⟩ := hr
  clear hq hcell
  go_enter Tryd.func30, Tryd.ntmps30
  go_wp2_with fail
  (with_reducible refine HI.out.mono ?_)
  rintro e w' ⟨⟨k, rfl, h1, h2⟩, rfl⟩
  cases q with
  | true =>
    have := h1 (of_decide_eq_true HQ.out)
    clear h1 h2
    go_wp2_with fail
    go_ret
    exact ⟨rfl, rfl⟩
  | false =>
    have hk := h2 (of_decide_eq_false HQ.out)
    subst hk
    clear h1 h2
    go_wp2_with fail
    go_ret
    exact ⟨rfl, rfl⟩
set_option maxRecDepth 100000 in
theorem ints_any (xs ys : List Int) (v u : Value) (w : World) (hr : NumsAt w v xs) (hu : NumsAt w u ys) : Calls Tryd.prog 17 #[v, u] w (Ret (.bool (decide (xs = ys))) w) := by
  obtain ⟨ad, cp, rfl, hlc, hcm, hcell⟩ := hr
  obtain ⟨ad2, cp2, rfl, hlc2, hcm2, hcell2⟩ := hu
  have HCELL := Lib.hid hcell; have HCELL2 := Lib.hid hcell2
  have hml : xs.length ≤ 9223372036854775807 := Nat.le_trans hlc (Nat.le_trans hcm (by unfold maxLen; decide))
  have hml2 : ys.length ≤ 9223372036854775807 := Nat.le_trans hlc2 (Nat.le_trans hcm2 (by unfold maxLen; decide))
  obtain ⟨q, hq⟩ : ∃ q, q = decide (xs = ys) := ⟨_, rfl⟩
  have HQ := Lib.hid hq
  rw [← hq]
  clear hcell hcell2 hq
  by_cases hll : xs.length = ys.length
  · have hli : ((xs.length : Int) == (ys.length : Int)) = true := by simp; omega
    have hlj : ((xs.length : Int) != (ys.length : Int)) = false := by simp; omega
    have HLL := Lib.hid hll
    have hle : xs.length ≤ ys.length := by omega
    have hge : ys.length ≤ xs.length := by omega
    clear hll
    go_enter Tryd.func17, Tryd.ntmps17
    go_wp2_with fail
    go_loopw [5] (fun i wr => ∃ k : Nat, k ≤ xs.length ∧ i = .int .i64 k ∧ xs.take k = ys.take k ∧ Same [] w wr) (fun i _ => xs.length - (intOf i).toNat)
    case atStart => exact ⟨0, Nat.zero_le _, rfl, by simp, Same.refl _ _⟩
    case round =>
      obtain ⟨k, hk, rfl, hn, hsm⟩ := hrel
      have HN := Lib.hid hn; have HSM := Lib.hid hsm
      clear hn hsm
      by_cases h1 : k < xs.length
      · have h1i : (k : Int) < (xs.length : Int) := by omega
        have h2 : k < ys.length := by omega
        have h2i : (k : Int) < (ys.length : Int) := by omega
        obtain ⟨ad', rfl, hsp, c0⟩ := HCELL.out k h1
        obtain ⟨g, o, sp⟩ := ad'
        simp only at hsp c0
        subst hsp
        obtain ⟨ad3, rfl, hsp, c2⟩ := HCELL2.out k h2
        obtain ⟨g2, o2, sp2⟩ := ad3
        simp only at hsp c2
        subst hsp
        obtain ⟨x, hx⟩ : ∃ x, x = xs[k] := ⟨_, rfl⟩
        obtain ⟨y, hy⟩ : ∃ y, y = ys[k] := ⟨_, rfl⟩
        rw [← hx] at c0
        rw [← hy] at c2
        have d0 := HSM.out.cell c0 (by simp)
        have d2 := HSM.out.cell c2 (by simp)
        have HX := Lib.hid hx; have HY := Lib.hid hy
        clear hx hy c0 c2
        by_cases he : x = y
        · have hei : (x == y) = true := by rw [he]; simp
          have hej : (x != y) = false := by rw [he]; simp
          have HE := Lib.hid he
          clear he
          go_wp2_with fail
          go_region
          all_goals
            go_wp2_with fail
            go_roundw
            case rel => exact ⟨k + 1, by omega, by go_num, by rw [List.take_succ_eq_append_getElem h1, List.take_succ_eq_append_getElem h2, HN.out, ← HX.out, ← HY.out, HE.out], HSM.out.drew⟩
            case measure => simp [intOf]; omega
        · have hei : (x == y) = false := by simpa using he
          have hej : (x != y) = true := by simpa using he
          have hqf : q = false := by
            rw [HQ.out]; refine decide_eq_false fun h9 => he ?_
            rw [HX.out, HY.out]; simp only [h9]
          clear he
          go_wp2_with fail
          go_region
          all_goals
            go_wp2_with fail
            go_ret
            exact ⟨by first | rfl | (rw [hqf]; rfl), HSM.out.drew⟩
      · obtain rfl : k = xs.length := by omega
        have h1i : ¬ (xs.length : Int) < (xs.length : Int) := by omega
        have hqt : q = true := by
          rw [HQ.out]; refine decide_eq_true ?_
          have h9 := HN.out
          rw [List.take_length] at h9
          rw [h9, HLL.out, List.take_length]
        clear h1
        go_wp2_with fail
        go_ret
        exact ⟨by first | rfl | (rw [hqt]; rfl), HSM.out⟩
  · have hli : ((xs.length : Int) == (ys.length : Int)) = false := by simp; omega
    have hlj : ((xs.length : Int) != (ys.length : Int)) = true := by simp; omega
    have hqf : q = false := by rw [HQ.out]; exact decide_eq_false fun h9 => hll (by rw [h9])
    clear hll
    go_enter Tryd.func17, Tryd.ntmps17
    go_wp2_with fail
    go_ret
    exact ⟨by first | rfl | (rw [hqf]; rfl), Same.refl _ _⟩
set_option maxRecDepth 100000 in
set_option maxHeartbeats 4000000 in
theorem rplaces_any (xs : List Int) (v : Value) (w : World) (hr : NumsAt w v xs) : Calls Tryd.prog 13 #[v] w (Ret (.bool (decide (GoodP xs))) w) := by
  obtain ⟨ad, cp, rfl, hlc, hcm, hcell⟩ := hr
  have HCELL := Lib.hid hcell
  have hml : xs.length ≤ 9223372036854775807 := Nat.le_trans hlc (Nat.le_trans hcm (by unfold maxLen; decide))
  obtain ⟨q, hq⟩ : ∃ q, q = decide (GoodP xs) := ⟨_, rfl⟩
  have HQ := Lib.hid hq
  rw [← hq]
  clear hcell hq
  go_enter Tryd.func13, Tryd.ntmps13
  go_wp2_with fail
  go_loopw [3] (fun i wr => ∃ k : Nat, k ≤ xs.length ∧ i = .int .i64 k ∧ GoodP (xs.take k) ∧ Same [] w wr) (fun i _ => xs.length - (intOf i).toNat)
  case atStart => exact ⟨0, Nat.zero_le _, rfl, ⟨fun x hx => by simp at hx, by simp⟩, Same.refl _ _⟩
  case round =>
    obtain ⟨k, hk, rfl, hg, hsm⟩ := hrel
    have HG := Lib.hid hg; have HSM := Lib.hid hsm
    clear hg hsm
    by_cases h1 : k < xs.length
    · have h1i : (k : Int) < (xs.length : Int) := by omega
      obtain ⟨ad', rfl, hsp, c0⟩ := HCELL.out k h1
      obtain ⟨g, o, sp⟩ := ad'
      simp only at hsp c0
      subst hsp
      obtain ⟨x, hx⟩ : ∃ x, x = xs[k] := ⟨_, rfl⟩
      rw [← hx] at c0
      have d0 := HSM.out.cell c0 (by simp)
      have HX := Lib.hid hx; have C0 := Lib.hid c0
      clear hx c0
      by_cases hx0 : x < 0
      · have hqf : q = false := by rw [HQ.out]; exact decide_eq_false (bad_range h1 (by rw [← HX.out]; omega))
        go_wp2_with fail
        go_ret
        exact ⟨by first | rfl | (rw [hqf]; rfl), HSM.out⟩
      · by_cases hx5 : 254 < x
        · have hqf : q = false := by rw [HQ.out]; exact decide_eq_false (bad_range h1 (by rw [← HX.out]; omega))
          go_wp2_with fail
          go_ret
          exact ⟨by first | rfl | (rw [hqf]; rfl), HSM.out⟩
        · go_wp2_with fail
          go_loopw [4] (fun i wr => ∃ m : Nat, m ≤ k ∧ i = .int .i64 m ∧ x ∉ xs.take m ∧ Same [] w wr) (fun i _ => k - (intOf i).toNat)
          case atStart => exact ⟨0, Nat.zero_le _, rfl, by simp, HSM.out⟩
          case round =>
            clear d0
            obtain ⟨m, hm, rfl, hn, hsm⟩ := hrel
            have d0 := hsm.cell C0.out (by simp)
            have HN := Lib.hid hn; have HS2 := Lib.hid hsm
            clear hn hsm
            by_cases h2 : m < k
            · have h2i : (m : Int) < (k : Int) := by omega
              have h3 : m < xs.length := by omega
              have h3i : (m : Int) < (xs.length : Int) := by omega
              obtain ⟨ad2, e2, hsp, c2⟩ := HCELL.out m h3
              injection e2 with e2
              subst e2
              simp only at c2
              clear hsp
              obtain ⟨y, hy⟩ : ∃ y, y = xs[m] := ⟨_, rfl⟩
              rw [← hy] at c2
              have d2 := HS2.out.cell c2 (by simp)
              clear c2
              have HY := Lib.hid hy
              clear hy
              by_cases he : y = x
              · have hei : (y == x) = true := by rw [he]; simp
                have hmem : x ∈ xs.take k := by
                  rw [← he, HY.out]
                  exact List.mem_take_iff_getElem.2 ⟨m, by omega, rfl⟩
                have hqf : q = false := by rw [HQ.out]; exact decide_eq_false (bad_twice h1 (by rw [← HX.out]; exact hmem))
                clear he hmem
                go_wp2_with fail
                go_region
                all_goals
                  go_wp2_with fail
                  go_ret
                  exact ⟨by first | rfl | (rw [hqf]; rfl), HS2.out.drew⟩
              · have hei : (y == x) = false := by simpa using he
                have HE := Lib.hid he
                clear he
                go_wp2_with fail
                go_region
                all_goals
                  go_wp2_with fail
                  go_roundw
                  case rel => exact ⟨m + 1, by omega, by go_num, by rw [List.take_succ_eq_append_getElem h3, List.mem_append, List.mem_singleton, ← HY.out]; exact fun h => h.elim HN.out (fun h => HE.out h.symm), HS2.out.drew⟩
                  case measure => simp [intOf]; omega
            · obtain rfl : m = k := by omega
              have h2i : ¬ (m : Int) < (m : Int) := by omega
              have hgn := good_snoc h1 HG.out (by rw [← HX.out]; omega) (by rw [← HX.out]; exact HN.out)
              have HGN := Lib.hid hgn
              clear h2 hgn
              go_wp2_with fail
              go_roundw
              case rel => exact ⟨m + 1, by omega, by go_num, HGN.out, HS2.out⟩
              case measure => simp [intOf]; omega
    · obtain rfl : k = xs.length := by omega
      have h1i : ¬ (xs.length : Int) < (xs.length : Int) := by omega
      have hqt : q = true := by rw [HQ.out]; refine decide_eq_true ?_; have := HG.out; rwa [List.take_length] at this
      clear h1
      go_wp2_with fail
      go_ret
      exact ⟨by first | rfl | (rw [hqt]; rfl), HSM.out⟩
theorem unlK_succ (t w : ByteArray) (k : Nat) : unlK t w (k + 1) = if cf (lb w) k ≠ cf (lb t) k then unlK t w k ++ [(k : Int)] else unlK t w k := by
  unfold unlK
  rw [List.range_succ, List.filter_append, List.map_append]
  by_cases h : cf (lb w) k = cf (lb t) k
  · rw [if_neg (fun h9 => h9 h)]; simp [h]
  · rw [if_pos h]; simp [h]
theorem unlK_len (t w : ByteArray) (k : Nat) : (unlK t w k).length ≤ k := by
  unfold unlK; rw [List.length_map]; have := List.length_filter_le (fun i => decide (cf (lb w) i ≠ cf (lb t) i)) (List.range k); rwa [List.length_range] at this
def NumsPost (l : List Int) (w : World) (e : Ending) (w' : World) : Prop := ∃ v, e = .returned v ∧ NumsAt w' v l ∧ Same [] w w'
set_option maxRecDepth 100000 in
set_option maxHeartbeats 4000000 in
theorem runlike_any (a b : ByteArray) (w : World) (hs : a.size = b.size) (ha : a.size ≤ 1000) : Calls Tryd.prog 22 #[.string a, .string b] w (NumsPost (unlK a b a.size) w) := by
  obtain ⟨i0, hi, hz0, hz1, hz2⟩ := info_parts Tryd.infoI
  obtain ⟨B, hB⟩ : ∃ B, B = w.heap.size := ⟨_, rfl⟩
  obtain ⟨L, hL⟩ : ∃ L, L = unlK a b a.size := ⟨_, rfl⟩
  rw [← hL]
  have HL := Lib.hid hL; have HB := Lib.hid hB
  have hle : a.size ≤ b.size := by omega
  clear hL hB hs
  go_enter Tryd.func22, Tryd.ntmps22
  go_wp2_with fail
  go_loopw [6, 5] (fun i v wr => ∃ k : Nat, k ≤ a.size ∧ i = .int .i64 k ∧ OwnI B wr v (unlK a b k) ∧ Same [] w wr) (fun i _ _ => a.size - (intOf i).toNat)
  case atStart => exact ⟨0, Nat.zero_le _, rfl, OwnI.nil _ _, Same.refl _ _⟩
  case round =>
    obtain ⟨k, hk, rfl, ho, hsm⟩ := hrel
    have HO := Lib.hid ho; have HSM := Lib.hid hsm
    clear ho hsm
    by_cases h1 : k < a.size
    · have h1i : (k : Int) < (a.size : Int) := by omega
      have h2 : k < b.size := by omega
      have h2i : (k : Int) < (b.size : Int) := by omega
      have hb1 := bt_at a k h1
      have hb2 := bt_at b k h2
      obtain ⟨x, hx⟩ : ∃ x, x = cf (lb a) k := ⟨_, rfl⟩
      obtain ⟨y, hy⟩ : ∃ y, y = cf (lb b) k := ⟨_, rfl⟩
      rw [← hx] at hb1
      rw [← hy] at hb2
      have hsn := unlK_succ a b k
      rw [← hx, ← hy] at hsn
      by_cases he : y = x
      · have hei : ((x.toNat : Int) == (y.toNat : Int)) = true := by rw [he]; simp
        have hej : ((x.toNat : Int) != (y.toNat : Int)) = false := by rw [he]; simp
        rw [if_neg (fun h9 => h9 he)] at hsn
        have HSN := Lib.hid hsn
        clear he hsn hx hy
        go_wp2_with fail
        go_region
        all_goals
          go_wp2_with fail
          go_roundw
          case rel => exact ⟨k + 1, by omega, by go_num, by rw [HSN.out]; exact HO.out, HSM.out.drew⟩
          case measure => simp [intOf]; omega
      · have hne : ¬ x.toNat = y.toNat := fun h => he (UInt8.toNat_inj.1 h.symm)
        have hei : ((x.toNat : Int) == (y.toNat : Int)) = false := by simp; omega
        have hej : ((x.toNat : Int) != (y.toNat : Int)) = true := by simp; omega
        rw [if_pos he] at hsn
        obtain ⟨M, hM⟩ : ∃ M, M = unlK a b k := ⟨_, rfl⟩
        have hMl : M.length ≤ 1000 := by rw [hM]; have := unlK_len a b k; omega
        rw [← hM] at HO hsn
        have HSN := Lib.hid hsn
        have m1 : M.length + 1 ≤ maxLen := by unfold maxLen; omega
        have n1 : (M.length + 1) * 8 ≤ 140737488355328 := by omega
        have hbase : B ≤ (wr.drew.alloc (.cells #[.int .i64 (k : Int)] 3)).heap.size := by rw [World.size_alloc, HB.out]; exact Nat.le_succ_of_le HSM.out.size
        clear he hne hsn hx hy hM
        go_wp2_with fail
        go_region
        all_goals
          go_wp2_with (at_builtin; refine wpList_append_src rfl (.tmp 20) (.tmp 22) 22 rfl B 3 i0 (.int .i64 0) 1 8 Tryd.underlying22 hi hz0 hz1 hz2 rfl (by decide) _ M.length _ rfl ((show OwnI B wr.drew _ M from HO.out).alloc _) _ 1 _ rfl (readsI_one wr.drew (k : Int)) (one_il [(k : Int)]) m1 n1 hbase ?_; intro v2 w7 hown hgrow hat; have HOWN := Lib.hid hown; have HGW := Lib.hid hgrow; clear hown hgrow hat)
          obtain ⟨q1, q2⟩ := OwnI.grow ((show OwnI B wr.drew _ M from HO.out).alloc _) (by have := HB.out; omega) (HSM.out.drew.alloc _) HOWN.out HGW.out
          go_roundw
          case rel => exact ⟨k + 1, by omega, by go_num, by rw [HSN.out]; exact q1, q2⟩
          case measure => simp [intOf]; omega
    · obtain rfl : k = a.size := by omega
      have h1i : ¬ (a.size : Int) < (a.size : Int) := by omega
      clear h1
      go_wp2_with fail
      go_ret
      exact ⟨_, rfl, by rw [HL.out]; exact HO.out.nums, HSM.out⟩
set_option maxRecDepth 100000 in
set_option maxHeartbeats 4000000 in
theorem rloc_any (xs : List Int) (v : Value) (w : World) (hr : NumsAt w v xs) (hg : GoodP xs) (hl : xs.length ≤ 1000) : Calls Tryd.prog 14 #[v] w (Ret (.string (locS xs)) w) := by
  obtain ⟨ad, cp, rfl, hlc, hcm, hcell⟩ := hr
  have HCELL := Lib.hid hcell; have HGP := Lib.hid hg
  clear hcell hg
  go_enter Tryd.func14, Tryd.ntmps14
  go_wp2_with fail
  go_loopw [4, 3] (fun i pv wr => ∃ k : Nat, k ≤ xs.length ∧ i = .int .i64 k ∧ pv = .string (locS (xs.take k)) ∧ Same [] w wr) (fun i _ _ => xs.length - (intOf i).toNat)
  case atStart => exact ⟨0, Nat.zero_le _, rfl, rfl, Same.refl _ _⟩
  case round =>
    obtain ⟨k, hk, rfl, rfl, hsm⟩ := hrel
    have HSR := Lib.hid hsm
    by_cases h1 : k < xs.length
    · have h1i : (k : Int) < (xs.length : Int) := by omega
      obtain ⟨ad', rfl, hsp, c0⟩ := HCELL.out k h1
      obtain ⟨g, o, sp⟩ := ad'
      simp only at hsp c0
      subst hsp
      have hgx := HGP.out.1 _ (List.getElem_mem h1)
      obtain ⟨n, hn⟩ : ∃ n : Nat, xs[k] = (n : Int) := ⟨xs[k].toNat, by omega⟩
      obtain ⟨m, hm⟩ : ∃ m : Nat, m = 254 - n := ⟨_, rfl⟩
      rw [hn] at c0 hgx
      have hmi : (254 : Int) - (n : Int) = (m : Int) := by omega
      have d0 := HSR.out.cell c0 (by simp)
      obtain ⟨x, hx⟩ : ∃ x, x = xOf (n : Int) := ⟨_, rfl⟩
      have hxm : ex m = x := by rw [hx, hm]; rfl
      have HE := Lib.hid (by have h9 := pow_any m wr (by omega); rw [hxm] at h9; exact h9)
      obtain ⟨P, hP⟩ : ∃ P, P = locS (xs.take k) := ⟨_, rfl⟩
      have hPs : P.size ≤ 3000 := by
        have := locS_size (xs.take k)
        rw [hP]; rw [List.length_take] at this; omega
      have hnext : locS (xs.take (k + 1)) = mulS P (bs [1, x]) := by rw [List.take_succ_eq_append_getElem h1, locS_snoc, ← hP, hn, hx]; rfl
      have HN := Lib.hid hnext
      have HM := Lib.hid (fun W => rpmul_any P (bs [1, x]) W (by omega) (by rw [size_bs]; show 2 < 274877906944; decide))
      have b1 := fun W => conv_two x (Same.refl [] (World.alloc W (.cells #[.int .u8 1, .int .u8 (x.toNat : Int)] 5)))
      rw [← hP]
      clear c0 hsm hgx hn hm hx hxm hP hnext
      go_wp2_with fail
      (with_reducible refine HE.out.mono ?_)
      rintro e w' ⟨rfl, rfl⟩
      go_wp2_with fail
      (with_reducible refine (HM.out _).mono ?_)
      rintro e w4 ⟨rfl, s4⟩
      have s5 : Same [] wr w4 := ((Same.refl [] wr).alloc _).trans_nil s4
      have HS4 := Lib.hid (HSR.out.trans_nil s5)
      clear s4 s5
      go_wp2_with fail
      go_roundw
      case rel => exact ⟨k + 1, by omega, by go_num, by rw [HN.out], HS4.out⟩
      case measure => simp [intOf]; omega
    · obtain rfl : k = xs.length := by omega
      have h1i : ¬ (xs.length : Int) < (xs.length : Int) := by omega
      clear hsm h1
      rw [List.take_length]
      go_wp2_with fail
      go_ret
      exact ⟨rfl, HSR.out⟩
end Go.Proofs.YtahjpjhkbohpnaaDoor
