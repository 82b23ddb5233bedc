/- Rows of numbers that a call has made; slices.Contains; clarionref04's Places, Unlike, Locator; the statements' ints. Conditions: as the contracts say. mend.mended. Condition: a text of 255 bytes, up to 64 places. -/
import Derived.Test.YtpkpfebhdgbgbaaGreatDoorTMr1
import Derived.Test.YtpkpfebhdgbgbaaGreatDoorTMp2
import Derived.Deep.RegionLaw
import Derived.Test.YtpkpfebhdgbgbaaGreatDoorTMw5
namespace Go.Proofs.YtpkpfebhdgbgbaaGreatDoor
open Go.RowKit
set_option linter.unusedSimpArgs false
set_option linter.unusedVariables false

theorem Tryz.infoI : (Tryz.prog.info? 3).map (fun i => (i.zero, i.size, i.bytes)) = some (some (.int .i64 0), 1, 8) := by kernel_rfl
def il (xs : List Int) : List Value := xs.map (Value.int .i64)
def OwnI (B : Nat) (w : World) (v : Value) (l : List Int) : Prop := w.ownsRow B 3 1 v l.length (il l)
theorem OwnI.nil (B : Nat) (w : World) : OwnI B w (.slice none 0 0) [] := World.ownsRow_nil _ _ _ _
theorem OwnI.nums {B : Nat} {w : World} {v : Value} {xs : List Int} (h : OwnI B w v xs) : NumsAt w v xs := by
  rcases h.2 with ⟨rfl, h0⟩ | ⟨g, cap, cur, rfl, _, hg, hnc, hcm, hcs, ht⟩
  · have : xs = [] := List.eq_nil_of_length_eq_zero h0
    subst this
    exact ⟨none, 0, rfl, Nat.le_refl _, Nat.zero_le _, fun i hi => absurd hi (Nat.not_lt_zero _)⟩
  · refine ⟨_, cap, rfl, hnc, hcm, fun i hi => ⟨_, rfl, rfl, ?_⟩⟩
    have h1 := congrArg (fun z => z[i]?) ht
    simp only [List.getElem?_take] at h1
    rw [if_pos (by omega)] at h1
    rw [cell_of hg, ← Array.getElem?_toList, Nat.zero_add, h1]
    simp [il, hi]
theorem OwnI.grow {B : Nat} {w wr w2 : World} {v v' : Value} {l m : List Int} (ho : OwnI B wr v l) (hB : w.heap.size ≤ B) (hs : Same [] w wr)
    (hown : w2.ownsRow B 3 1 v' (l.length + m.length) (il l ++ il m)) (hg : wr.grownBy w2 v.ownBlock) : OwnI B w2 v' (l ++ m) ∧ Same [] w w2 := by
  refine ⟨?_, hs.trans (Same.of_grown hg) fun x hx hlt => ?_⟩
  · unfold OwnI il; rw [List.length_append, List.map_append]; exact hown
  · have := (World.ownsRow.lt ho x (by simpa using hx)).1
    omega
theorem OwnI.same {B : Nat} {A C : World} {v : Value} {l : List Int} (h : OwnI B A v l) (hs : Same [] A C) : OwnI B C v l := own_same h hs (fun _ _ => by simp)
theorem OwnI.alloc {B : Nat} {w : World} {v : Value} {l : List Int} (h : OwnI B w v l) (o : Obj) : OwnI B (w.alloc o) v l := World.ownsRow.alloc h o
theorem readsI_one (wr : World) (n : Int) : Reads (wr.alloc (.cells #[.int .i64 n] 3)) 1 (.slice (some ⟨wr.heap.size, 0, none⟩) 1 1) 1 (il [n]) :=
  Reads.of_own (row_new wr #[.int .i64 n] 3 1 rfl (by decide))
theorem one_il (l : List Int) : ∀ u ∈ il l, u.oneCell' = true := by
  intro u hu
  simp only [il, List.mem_map] at hu
  obtain ⟨a, _, rfl⟩ := hu
  rfl
theorem NumsAt.same {A C : World} {v : Value} {l : List Int} (h : NumsAt A v l) (hs : Same [] A C) : NumsAt C v l := by
  obtain ⟨ad, c, rfl, h1, h2, h3⟩ := h
  exact ⟨ad, c, rfl, h1, h2, fun i hi => by obtain ⟨a, ha, hsp, hc⟩ := h3 i hi; exact ⟨a, ha, hsp, hs.cell hc (by simp)⟩⟩
theorem nums_nil (w : World) : NumsAt w (.slice none 0 0) [] := ⟨none, 0, rfl, Nat.le_refl _, Nat.zero_le _, fun i hi => absurd hi (Nat.not_lt_zero _)⟩
theorem nums_one (w : World) (n : Int) : NumsAt (w.alloc (.cells #[.int .i64 n] 3)) (.slice (some ⟨w.heap.size, 0, none⟩) 1 1) [n] :=
  OwnI.nums (B := 0) (row_new w #[.int .i64 n] 3 1 rfl (by decide))

set_option maxRecDepth 100000 in
theorem index_any (xs : List Int) (v : Value) (n : Int) (w : World) (hr : NumsAt w v xs) : Calls Tryz.prog 89 #[v, .int .i64 n] w fun e w' => (∃ k : Int, e = .returned (.int .i64 k) ∧ (n ∈ xs → 0 ≤ k) ∧ (n ∉ xs → k = -1)) ∧ w = w' := by
  obtain ⟨ad, cp, rfl, hlc, hcm, hcell⟩ := hr
  have HCELL := Lib.hid hcell
  have hml : xs.length ≤ 9223372036854775807 := Nat.le_trans hlc (Nat.le_trans hcm (by unfold maxLen; decide))
  clear hcell
  go_enter Tryz.func89, Tryz.ntmps89
  go_wp2_with fail
  go_loopw [8] (fun i wr => ∃ k : Nat, k ≤ xs.length ∧ i = .int .i64 k ∧ n ∉ xs.take k ∧ w = wr) (fun i _ => xs.length - (intOf i).toNat)
  case atStart => exact ⟨0, Nat.zero_le _, rfl, by simp, rfl⟩
  case round =>
    obtain ⟨k, hk, rfl, hn, rfl⟩ := hrel
    have HN := Lib.hid hn
    clear hn
    by_cases h1 : k < xs.length
    · have h1i : (k : Int) < (xs.length : Int) := by omega
      obtain ⟨ad', rfl, hsp, c0⟩ := HCELL.out k h1
      obtain ⟨g, o, sp⟩ := ad'
      simp only at hsp c0
      subst hsp
      obtain ⟨x, hx⟩ : ∃ x, x = xs[k] := ⟨_, rfl⟩
      rw [← hx] at c0
      have HX := Lib.hid hx
      clear hx
      by_cases he : n = x
      · have hei : (n == x) = true := by rw [he]; simp
        have hm : n ∈ xs := by rw [he, HX.out]; exact List.getElem_mem h1
        have HM := Lib.hid hm
        clear he hm
        go_wp2_with fail
        go_ret
        exact ⟨⟨_, rfl, fun _ => by omega, fun h => absurd HM.out h⟩, rfl⟩
      · have hei : (n == x) = false := by simpa using he
        have HE := Lib.hid he
        clear he
        go_wp2_with fail
        go_roundw
        case rel => exact ⟨k + 1, by omega, by go_num, by rw [List.take_succ_eq_append_getElem h1, List.mem_append, List.mem_singleton, ← HX.out]; exact fun h => h.elim HN.out HE.out, by first | rfl | trivial⟩
        case measure => simp [intOf]; omega
    · obtain rfl : k = xs.length := by omega
      have h1i : ¬ (xs.length : Int) < (xs.length : Int) := by omega
      clear h1
      go_wp2_with fail
      go_ret
      exact ⟨⟨_, rfl, fun h => absurd h (by have := HN.out; rwa [List.take_length] at this), fun _ => rfl⟩, rfl⟩
theorem contains_any (xs : List Int) (v : Value) (n : Int) (q : Bool) (w : World) (hr : NumsAt w v xs) (hq : decide (n ∈ xs) = q) : Calls Tryz.prog 36 #[v, .int .i64 n] w fun e w' => e = .returned (.bool q) ∧ w = w' := by
  have HI := Lib.hid (index_any xs v n w hr)
  have HQ := Lib.hid hq
  obtain ⟨ad, cp, rfl, hlc, hcm, hcell⟩ := hr
  clear hq hcell
  go_enter Tryz.func36, Tryz.ntmps36
  go_wp2_with fail
  (with_reducible refine HI.out.mono ?_)
  rintro e w' ⟨⟨k, rfl, h1, h2⟩, rfl⟩
  cases q with
  | true =>
    have := h1 (of_decide_eq_true HQ.out)
    clear h1 h2
    go_wp2_with fail
    go_ret
    exact ⟨rfl, rfl⟩
  | false =>
    have hk := h2 (of_decide_eq_false HQ.out)
    subst hk
    clear h1 h2
    go_wp2_with fail
    go_ret
    exact ⟨rfl, rfl⟩
set_option maxRecDepth 100000 in
set_option maxHeartbeats 4000000 in
theorem rplaces_any (xs : List Int) (v : Value) (w : World) (hr : NumsAt w v xs) : Calls Tryz.prog 6 #[v] w (Ret (.bool (decide (GoodP xs))) w) := by
  obtain ⟨ad, cp, rfl, hlc, hcm, hcell⟩ := hr
  have HCELL := Lib.hid hcell
  have hml : xs.length ≤ 9223372036854775807 := Nat.le_trans hlc (Nat.le_trans hcm (by unfold maxLen; decide))
  obtain ⟨q, hq⟩ : ∃ q, q = decide (GoodP xs) := ⟨_, rfl⟩
  have HQ := Lib.hid hq
  rw [← hq]
  clear hcell hq
  go_enter Tryz.func6, Tryz.ntmps6
  go_wp2_with fail
  go_loopw [3] (fun i wr => ∃ k : Nat, k ≤ xs.length ∧ i = .int .i64 k ∧ GoodP (xs.take k) ∧ Same [] w wr) (fun i _ => xs.length - (intOf i).toNat)
  case atStart => exact ⟨0, Nat.zero_le _, rfl, ⟨fun x hx => by simp at hx, by simp⟩, Same.refl _ _⟩
  case round =>
    obtain ⟨k, hk, rfl, hg, hsm⟩ := hrel
    have HG := Lib.hid hg; have HSM := Lib.hid hsm
    clear hg hsm
    by_cases h1 : k < xs.length
    · have h1i : (k : Int) < (xs.length : Int) := by omega
      obtain ⟨ad', rfl, hsp, c0⟩ := HCELL.out k h1
      obtain ⟨g, o, sp⟩ := ad'
      simp only at hsp c0
      subst hsp
      obtain ⟨x, hx⟩ : ∃ x, x = xs[k] := ⟨_, rfl⟩
      rw [← hx] at c0
      have d0 := HSM.out.cell c0 (by simp)
      have HX := Lib.hid hx; have C0 := Lib.hid c0
      clear hx c0
      by_cases hx0 : x < 0
      · have hqf : q = false := by rw [HQ.out]; exact decide_eq_false (bad_range h1 (by rw [← HX.out]; omega))
        go_wp2_with fail
        go_ret
        exact ⟨by first | rfl | (rw [hqf]; rfl), HSM.out⟩
      · by_cases hx5 : 254 < x
        · have hqf : q = false := by rw [HQ.out]; exact decide_eq_false (bad_range h1 (by rw [← HX.out]; omega))
          go_wp2_with fail
          go_ret
          exact ⟨by first | rfl | (rw [hqf]; rfl), HSM.out⟩
        · go_wp2_with fail
          go_loopw [4] (fun i wr => ∃ m : Nat, m ≤ k ∧ i = .int .i64 m ∧ x ∉ xs.take m ∧ Same [] w wr) (fun i _ => k - (intOf i).toNat)
          case atStart => exact ⟨0, Nat.zero_le _, rfl, by simp, HSM.out⟩
          case round =>
            clear d0
            obtain ⟨m, hm, rfl, hn, hsm⟩ := hrel
            have d0 := hsm.cell C0.out (by simp)
            have HN := Lib.hid hn; have HS2 := Lib.hid hsm
            clear hn hsm
            by_cases h2 : m < k
            · have h2i : (m : Int) < (k : Int) := by omega
              have h3 : m < xs.length := by omega
              have h3i : (m : Int) < (xs.length : Int) := by omega
              obtain ⟨ad2, e2, hsp, c2⟩ := HCELL.out m h3
              injection e2 with e2
              subst e2
              simp only at c2
              clear hsp
              obtain ⟨y, hy⟩ : ∃ y, y = xs[m] := ⟨_, rfl⟩
              rw [← hy] at c2
              have d2 := HS2.out.cell c2 (by simp)
              clear c2
              have HY := Lib.hid hy
              clear hy
              by_cases he : y = x
              · have hei : (y == x) = true := by rw [he]; simp
                have hmem : x ∈ xs.take k := by
                  rw [← he, HY.out]
                  exact List.mem_take_iff_getElem.2 ⟨m, by omega, rfl⟩
                have hqf : q = false := by rw [HQ.out]; exact decide_eq_false (bad_twice h1 (by rw [← HX.out]; exact hmem))
                clear he hmem
                go_wp2_with fail
                go_region
                all_goals
                  go_wp2_with fail
                  go_ret
                  exact ⟨by first | rfl | (rw [hqf]; rfl), HS2.out.drew⟩
              · have hei : (y == x) = false := by simpa using he
                have HE := Lib.hid he
                clear he
                go_wp2_with fail
                go_region
                all_goals
                  go_wp2_with fail
                  go_roundw
                  case rel => exact ⟨m + 1, by omega, by go_num, by rw [List.take_succ_eq_append_getElem h3, List.mem_append, List.mem_singleton, ← HY.out]; exact fun h => h.elim HN.out (fun h => HE.out h.symm), HS2.out.drew⟩
                  case measure => simp [intOf]; omega
            · obtain rfl : m = k := by omega
              have h2i : ¬ (m : Int) < (m : Int) := by omega
              have hgn := good_snoc h1 HG.out (by rw [← HX.out]; omega) (by rw [← HX.out]; exact HN.out)
              have HGN := Lib.hid hgn
              clear h2 hgn
              go_wp2_with fail
              go_roundw
              case rel => exact ⟨m + 1, by omega, by go_num, HGN.out, HS2.out⟩
              case measure => simp [intOf]; omega
    · obtain rfl : k = xs.length := by omega
      have h1i : ¬ (xs.length : Int) < (xs.length : Int) := by omega
      have hqt : q = true := by rw [HQ.out]; refine decide_eq_true ?_; have := HG.out; rwa [List.take_length] at this
      clear h1
      go_wp2_with fail
      go_ret
      exact ⟨by first | rfl | (rw [hqt]; rfl), HSM.out⟩
theorem unlK_succ (t w : ByteArray) (k : Nat) : unlK t w (k + 1) = if cf (lb w) k ≠ cf (lb t) k then unlK t w k ++ [(k : Int)] else unlK t w k := by
  unfold unlK
  rw [List.range_succ, List.filter_append, List.map_append]
  by_cases h : cf (lb w) k = cf (lb t) k
  · rw [if_neg (fun h9 => h9 h)]; simp [h]
  · rw [if_pos h]; simp [h]
theorem unlK_len (t w : ByteArray) (k : Nat) : (unlK t w k).length ≤ k := by
  unfold unlK; rw [List.length_map]; have := List.length_filter_le (fun i => decide (cf (lb w) i ≠ cf (lb t) i)) (List.range k); rwa [List.length_range] at this
def NumsPost (l : List Int) (w : World) (e : Ending) (w' : World) : Prop := ∃ v, e = .returned v ∧ NumsAt w' v l ∧ Same [] w w'
end Go.Proofs.YtpkpfebhdgbgbaaGreatDoor
namespace Go.Proofs.YtpkpfebhdgbgbaaGreatDoor
open Go.RowKit
open Flt (fz float_of int_fz)
set_option linter.unusedSimpArgs false
set_option linter.unusedVariables false

theorem run_size {p : Nat} {S : Nat → UInt8} (n : Nat) : ∀ (r m : Nat) (b : Bm), b.found.length ≤ m → b.other.length ≤ m → (runB p S r n b).found.length ≤ m + n := by
  induction n with
  | zero => intro r m b h _; exact h
  | succ n ih =>
    intro r m b h1 h2
    obtain ⟨a1, a2⟩ := step_size (p := p) (r := r) (S := S) h1 h2
    have := ih (r + 1) (m + 1) _ a1 a2
    show (runB p S (r + 1) n (stepB p S r b)).found.length ≤ _
    omega
theorem found_size (t : ByteArray) (xs : List Int) (hl : xs.length ≤ 64) : (foundS t xs).size ≤ 200 := by
  unfold foundS
  have h1 := trimS_size (bs (bmE t xs).found)
  rw [size_bs] at h1
  have h0 : (lb (locS xs)).length = xs.length + 1 := by rw [lb_length, locS_len]
  have h2 := run_size (p := xs.length) (S := cf (lb (synS t))) (64 - xs.length) xs.length (xs.length + 1) ⟨lb (locS xs), lb (locS xs), xs.length⟩ (by show (lb (locS xs)).length ≤ _; omega) (by show (lb (locS xs)).length ≤ _; omega)
  have h3 : (bmE t xs).found.length ≤ xs.length + 1 + (64 - xs.length) := h2
  omega
theorem wrongL_lt (s f : ByteArray) : ∀ p ∈ wrongL s f, p.2 < 255 := by
  unfold wrongL
  cases h : wrL (lb (valS s f)) (lb (slopeS f)) (lb f) 255 with
  | none => intro p hp; simp at hp
  | some l => exact (wrL_lt 255 l h).1
theorem OwnC.cells {B : Nat} {w : World} {v : Value} {l : List (UInt8 × Nat)} (h : OwnC B w v l) : ∃ ad c, v = .slice ad l.length c ∧ l.length ≤ c ∧ c ≤ maxLen ∧ ∀ (i : Nat) (hi : i < l.length), ∃ a : Addr, ad = some a ∧ a.spot = none ∧ w.cell? ⟨a.block, a.off + i, none⟩ = some (.complex .f64 (fz l[i].1.toNat) (fz l[i].2)) := by
  rcases h.2 with ⟨rfl, h0⟩ | ⟨g, cap, cur, rfl, _, hg, hnc, hcm, hcs, ht⟩
  · have : l = [] := List.eq_nil_of_length_eq_zero h0
    subst this
    exact ⟨none, 0, rfl, Nat.le_refl _, Nat.zero_le _, fun i hi => absurd hi (Nat.not_lt_zero _)⟩
  · refine ⟨_, cap, rfl, hnc, hcm, fun i hi => ⟨_, rfl, rfl, ?_⟩⟩
    have h1 := congrArg (fun z => z[i]?) ht
    simp only [List.getElem?_take] at h1
    rw [if_pos (by omega)] at h1
    rw [cell_of hg, ← Array.getElem?_toList, Nat.zero_add, h1]
    simp [cxl, cxV, hi]
theorem byte_fz (n : Nat) (h : n < 256) : floatToIntVal .f64 (fz n) .u8 = some (n : Int) := by
  unfold floatToIntVal
  have e : (FloatKind.f64.decode (fz n)).toInt .zero = some (n : Int) := Flt.toInt_fz n (by omega)
  have e1 : IntKind.u8.min = 0 := by decide +kernel
  have e2 : IntKind.u8.max = 255 := by decide +kernel
  rw [e]
  simp only [e1, e2]
  rw [if_pos (by omega)]
theorem RowF.drew {w : World} {v : Value} {g : Nat} {l : List Value} (h : RowF w v g l) : RowF w.drew v g l := h
set_option maxRecDepth 100000 in
set_option maxHeartbeats 8000000 in
theorem mended_any (t : ByteArray) (xs : List Int) (v : Value) (w : World) (ht : t.size = 255) (hr : NumsAt w v xs) (hg : GoodP xs) (hl : xs.length ≤ 64) :
    Calls Tryz.prog 35 #[.string t, v] w (Ret (.tuple #[.string (mendedS t xs).1, .bool (mendedS t xs).2]) w) := by
  obtain ⟨A, hA⟩ : ∃ A, A = (mendedS t xs).1 := ⟨_, rfl⟩
  obtain ⟨Q, hQ⟩ : ∃ Q, Q = (mendedS t xs).2 := ⟨_, rfl⟩
  rw [← hA, ← hQ]
  unfold mendedS at hA hQ
  have HC := Lib.hid (fun W => syn_ok t W ht)
  have HT := Lib.hid (fun W => trim_any (synS t) W (by rw [synS_size]; decide))
  have HR := Lib.hid hr
  by_cases hz : trimS (synS t) = ⟨#[]⟩
  · rw [if_pos hz] at hA hQ
    simp only at hA hQ
    subst hA hQ
    rw [hz] at HT
    clear hz hr hg
    go_enter Tryz.func35, Tryz.ntmps35
    go_wp2_with fail
    (with_reducible refine (HC.out _).mono ?_)
    rintro e w2 ⟨rfl, s2⟩
    have S2 := Lib.hid s2; clear s2
    go_wp2_with fail
    (with_reducible refine (HT.out _).mono ?_)
    rintro e w' ⟨rfl, rfl⟩
    go_wp2_with fail
    go_ret2
    exact ⟨rfl, S2.out⟩
  · rw [if_neg hz] at hA hQ
    obtain ⟨T, hT⟩ : ∃ T, T = trimS (synS t) := ⟨_, rfl⟩
    rw [← hT] at HT hz
    have hTn : T.toList.isEmpty = false := (ne_empty T (fun h9 => hz (by rw [← lb_inj]; exact List.eq_nil_of_length_eq_zero (by rw [lb_length, h9])))).1
    obtain ⟨F, hF⟩ : ∃ F, F = foundS t xs := ⟨_, rfl⟩
    have hFs : F.size ≤ 200 := by rw [hF]; exact found_size t xs hl
    obtain ⟨S, hS⟩ : ∃ S, S = synS t := ⟨_, rfl⟩
    have hSs : S.size = 64 := by rw [hS, synS_size]
    obtain ⟨lng, hlng⟩ : ∃ lng, lng = (bmE t xs).long := ⟨_, rfl⟩
    have hfit : fitB t xs = decide (degS F = (lng : Int) ∧ (wrongL S F).length = lng) := by rw [hF, hS, hlng]; rfl
    obtain ⟨O, hO⟩ : ∃ O, O = outS t xs := ⟨_, rfl⟩
    have hOd : O = bs (appL (lb t) (wrongL S F)) := by rw [hO, hF, hS]; rfl
    have HLOC := Lib.hid (fun W (h : NumsAt W v xs) => loc_ok xs v W h hg (by omega))
    have HLR := Lib.hid (fun W B (h : FieldAt W B) => (by
      have h9 := locator_any B xs.length (synS t) (locS xs) W h (synS_size t) (by rw [locS_len]; omega) (degS_loc xs) hl (bmE t xs) rfl
      rw [show trimS (bs (bmE t xs).found) = F from hF.symm, ← hS, ← hlng] at h9
      exact h9 : Calls Tryz.prog 85 #[.pointer (some ⟨B, 0, none⟩), .string S, .string (locS xs)] W (Ret (.tuple #[.string F, .int .i64 (lng : Int)]) W)))
    have HWR := Lib.hid (fun W B (h : FieldAt W B) => wrongs_any B S F W h (by omega) (by omega))
    have HDG := Lib.hid (fun W => degree_any F W (by omega))
    obtain ⟨L, hL⟩ : ∃ L, L = wrongL S F := ⟨_, rfl⟩
    have hLlt : ∀ p ∈ L, p.2 < 255 := by rw [hL]; exact wrongL_lt S F
    have hLlen : L.length ≤ 255 := by
      rw [hL]; unfold wrongL
      cases h : wrL (lb (valS S F)) (lb (slopeS F)) (lb F) 255 with
      | none => exact Nat.zero_le _
      | some l => exact (wrL_lt 255 l h).2
    rw [← hL] at HWR hfit hOd
    rw [← hO] at hA hQ
    obtain ⟨dg, hdg⟩ : ∃ dg, dg = degS F := ⟨_, rfl⟩
    rw [← hdg] at HDG hfit
    rw [hfit] at hA hQ
    rw [← hS] at HC HT
    have HLT := Lib.hid hLlt; have HOD := Lib.hid hOd
    have htl : (lb t).length = 255 := by rw [lb_length, ht]
    have hTL := Lib.hid htl
    clear hz hT hF hS hlng hfit hO hL hdg hr hg hLlt hOd htl
    by_cases hd : dg = (lng : Int)
    · have hdi : (dg == (lng : Int)) = true := by simpa using hd
      have hdj : (dg != (lng : Int)) = false := by simpa using hd
      by_cases hlen : L.length = lng
      · have hli : ((L.length : Int) == (lng : Int)) = true := by simp; omega
        have hlj : ((L.length : Int) != (lng : Int)) = false := by simp; omega
        rw [decide_eq_true ⟨hd, hlen⟩, if_pos rfl] at hA hQ
        simp only at hA hQ
        subst hA
        have hqq := hQ
        have HQQ := Lib.hid hqq
        have C5 := Lib.hid (fun W => by have h9 := is_any A W (by rw [HOD.out, size_bs, appL_length, lb_length]; omega); rw [← hQ] at h9; exact h9)
        clear hd hlen hQ hqq
        have hcut := fun W => run_cut t W
        go_enter Tryz.func35, Tryz.ntmps35
        go_wp2_with fail
        (with_reducible refine (HC.out _).mono ?_)
        rintro e w2 ⟨rfl, s2⟩
        have S2 := Lib.hid s2; clear s2
        go_wp2_with fail
        (with_reducible refine (HT.out _).mono ?_)
        rintro e w' ⟨rfl, rfl⟩
        go_wp2_with fail
        (with_reducible refine (new_any _).mono ?_)
        rintro e w3 ⟨rfl, f3, s3⟩
        obtain ⟨B, hB⟩ : ∃ B, B = w2.heap.size := ⟨_, rfl⟩
        rw [← hB] at f3 ⊢
        have HF3 := Lib.hid f3; have S3 := Lib.hid (S2.out.trans_nil s3)
        clear f3 s3 hB
        go_wp2_with fail
        (with_reducible refine (HLOC.out _ (HR.out.same S3.out)).mono ?_)
        rintro e w4 ⟨rfl, s4⟩
        have HF4 := Lib.hid (HF3.out.same s4 (by simp)); have S4 := Lib.hid (S3.out.trans_nil s4)
        clear s4
        go_wp2_with fail
        (with_reducible refine (HLR.out _ _ HF4.out).mono ?_)
        rintro e w5 ⟨rfl, s5⟩
        have HF5 := Lib.hid (HF4.out.same s5 (by simp)); have S5 := Lib.hid (S4.out.trans_nil s5)
        clear s5
        go_wp2_with fail
        (with_reducible refine (HWR.out _ _ HF5.out).mono ?_)
        rintro e w21 ⟨lv, rfl, ol, s6⟩
        have S6 := Lib.hid (S5.out.trans_nil s6)
        obtain ⟨ad, cc, rfl, hlc, hcm, hcell⟩ := ol.cells
        have HCELL := Lib.hid hcell
        have hml : L.length ≤ 9223372036854775807 := by omega
        clear s6 ol hcell
        obtain ⟨R, hR⟩ : ∃ R, R = w21.heap.size := ⟨_, rfl⟩
        have hrow := cut_rowl t w21 (by rw [ht]; decide)
        have hsc := cut_same t w21
        obtain ⟨cap, hcap⟩ : ∃ cap, cap = grownCap w21 255 0 5 := ⟨_, rfl⟩
        have hv2 : cutV w21 t = .slice (some ⟨R, 0, none⟩) 255 cap := by unfold cutV; rw [ht, ← hR, ← hcap]
        obtain ⟨w22, hw22⟩ : ∃ w22, w22 = cutW w21 t := ⟨_, rfl⟩
        rw [hv2, ← hw22, ← hR] at hrow
        rw [← hw22] at hsc
        have hcut1 : (convert 9 33 (.string t)).run Tryz.prog w21 = .ok (.slice (some ⟨R, 0, none⟩) 255 cap) w22 := by rw [hw22, ← hv2]; exact hcut w21
        have hRS : R < w22.heap.size := by rw [hw22, hR]; show _ < (World.alloc _ _).heap.size; rw [World.size_alloc]; exact Nat.lt_succ_self _
        have HROW := Lib.hid hrow; have HSC := Lib.hid hsc; have HRS := Lib.hid hRS; have HRR := Lib.hid hR
        clear hrow hsc hcap hv2 hw22 hcut hR hRS
        go_wp2_with (go_at_call 87; (with_reducible refine (HDG.out _).mono ?_); rintro e w' ⟨rfl, rfl⟩)
        clear hcut1
        go_loopw [57] (fun i wr => ∃ k : Nat, k ≤ L.length ∧ i = .int .i64 k ∧ RowF wr (.slice (some ⟨R, 0, none⟩) 255 cap) R (u8l (appL (lb t) (L.take k))) ∧ R < wr.heap.size ∧ Same [] w21 wr) (fun i _ => L.length - (intOf i).toNat)
        case atStart => exact ⟨0, Nat.zero_le _, rfl, HROW.out, HRS.out, HSC.out⟩
        case round =>
          obtain ⟨k, hk, rfl, hrow, hrs, hsm⟩ := hrel
          have HROW := Lib.hid hrow; have HRS := Lib.hid hrs; have HSM := Lib.hid hsm
          by_cases h1 : k < L.length
          · have h1i : (k : Int) < (L.length : Int) := by omega
            obtain ⟨ad', rfl, hsp, c0⟩ := HCELL.out k h1
            obtain ⟨g, o, sp⟩ := ad'
            simp only at hsp c0
            subst hsp
            obtain ⟨p, hp⟩ : ∃ p, p = L[k] := ⟨_, rfl⟩
            obtain ⟨x, n⟩ := p
            have hn : n < 255 := by have h9 := HLT.out _ (List.getElem_mem h1); rw [← hp] at h9; exact h9
            rw [← hp] at c0
            have d0 := HSM.out.cell c0 (by simp)
            obtain ⟨M, hM⟩ : ∃ M, M = appL (lb t) (L.take k) := ⟨_, rfl⟩
            have hMl : M.length = 255 := by rw [hM, appL_length]; exact hTL.out
            rw [← hM] at hrow HROW
            have c1 := hrow.cell n (by rw [hMl]; exact hn)
            have f1 : wr.frozen? ⟨R, n, none⟩ = false := by
              obtain ⟨c', _, e1, _, _, h9⟩ := hrow
              exact (h9 n (by rw [u8l_length, hMl] at e1; omega)).2
            obtain ⟨q, hq⟩ : ∃ q, q = cf M n := ⟨_, rfl⟩
            rw [← hq] at c1
            obtain ⟨z, hz⟩ : ∃ z, z = q ^^^ x := ⟨_, rfl⟩
            have hzx : bits .xor .u8 (q.toNat : Int) (x.toNat : Int) = (z.toNat : Int) := by rw [u8_xor, hz]
            have hnx : appL (lb t) (L.take (k + 1)) = M.set n z := by rw [List.take_succ_eq_append_getElem h1, appL_snoc, ← hM, ← hp, hz, hq]
            have HNX := Lib.hid hnx; have HML := Lib.hid hMl
            have hni : (n : Int) < 255 := by omega
            have hx256 := x.toNat_lt
            have hcvi : ∀ W, (convert 156 3 (.float .f64 (fz n))).run Tryz.prog W = .ok (.int .i64 (n : Int)) W := fun W =>
              run_convert_float_int W _ _ _ _ _ _ (by kernel_rfl) Tryz.underlying3 (int_fz n (by omega))
            have hcvb : ∀ W, (convert 156 5 (.float .f64 (fz x.toNat))).run Tryz.prog W = .ok (.int .u8 (x.toNat : Int)) W := fun W =>
              run_convert_float_int W _ _ _ _ _ _ (by kernel_rfl) Tryz.underlying5 (byte_fz x.toNat (by omega))
            clear c0 hrow hrs hsm hp hM hMl hq hz hnx hx256
            go_wp2_with fail
            have hss : Same [R] wr (wr.setCell ⟨R, n, none⟩ (.int .u8 (z.toNat : Int))) := (Same.refl [R] wr).setCell (by simp) _
            go_roundw
            case rel => exact ⟨k + 1, by omega, by go_num, by rw [HNX.out]; exact rowF_set HROW.out n (by rw [HML.out]; exact hn) z, Nat.lt_of_lt_of_le HRS.out hss.size, HSM.out.trans hss (fun y hy hlt => by simp at hy; have := HRR.out; omega)⟩
            case measure => simp [intOf]; omega
          · obtain rfl : k = L.length := by omega
            have h1i : ¬ (L.length : Int) < (L.length : Int) := by omega
            rw [List.take_length] at hrow HROW
            have hcv1 := hrow.str
            have hcv2 : (convert 33 9 (.slice (some ⟨R, 0, none⟩) 255 cap)).run Tryz.prog wr.drew = _ := (RowF.drew hrow).str
            rw [← HOD.out] at hcv1 hcv2
            clear hrow hrs hsm h1
            go_wp2_with fail
            go_region_with ((go_at_call 88; (with_reducible refine (C5.out _).mono ?_); rintro e w7 ⟨rfl, s7⟩; have T1 := Lib.hid (show Same [] w w7 by first | exact (S6.out.trans_nil HSM.out).trans_nil s7 | exact (S6.out.trans_nil HSM.out).drew.trans_nil s7); try (have hcv3 : (convert 33 9 (.slice (some ⟨R, 0, none⟩) 255 cap)).run Tryz.prog w7 = .ok (.string A) w7 := by rw [HOD.out]; first | exact (HROW.out.same s7 (by simp)).str | exact (HROW.out.drew.same s7 (by simp)).str); clear s7))
            all_goals
              go_wp2_with fail
              go_ret2
              first | exact ⟨rfl, T1.out⟩ | exact ⟨rfl, T1.out.drew⟩
      · have hli : ((L.length : Int) == (lng : Int)) = false := by simp; omega
        have hlj : ((L.length : Int) != (lng : Int)) = true := by simp; omega
        rw [decide_eq_false (fun h => hlen h.2), if_neg (by simp)] at hA hQ
        simp only at hA hQ
        subst hA hQ
        clear hd hlen
        go_enter Tryz.func35, Tryz.ntmps35
        go_wp2_with fail
        (with_reducible refine (HC.out _).mono ?_)
        rintro e w2 ⟨rfl, s2⟩
        have S2 := Lib.hid s2; clear s2
        go_wp2_with fail
        (with_reducible refine (HT.out _).mono ?_)
        rintro e w' ⟨rfl, rfl⟩
        go_wp2_with fail
        (with_reducible refine (new_any _).mono ?_)
        rintro e w3 ⟨rfl, f3, s3⟩
        obtain ⟨B, hB⟩ : ∃ B, B = w2.heap.size := ⟨_, rfl⟩
        rw [← hB] at f3 ⊢
        have HF3 := Lib.hid f3; have S3 := Lib.hid (S2.out.trans_nil s3)
        clear f3 s3 hB
        go_wp2_with fail
        (with_reducible refine (HLOC.out _ (HR.out.same S3.out)).mono ?_)
        rintro e w4 ⟨rfl, s4⟩
        have HF4 := Lib.hid (HF3.out.same s4 (by simp)); have S4 := Lib.hid (S3.out.trans_nil s4)
        clear s4
        go_wp2_with fail
        (with_reducible refine (HLR.out _ _ HF4.out).mono ?_)
        rintro e w5 ⟨rfl, s5⟩
        have HF5 := Lib.hid (HF4.out.same s5 (by simp)); have S5 := Lib.hid (S4.out.trans_nil s5)
        clear s5
        go_wp2_with fail
        (with_reducible refine (HWR.out _ _ HF5.out).mono ?_)
        rintro e w21 ⟨lv, rfl, ol, s6⟩
        have S6 := Lib.hid (S5.out.trans_nil s6)
        obtain ⟨ad, cc, rfl, hlc, hcm, hcell⟩ := ol.cells
        clear s6 ol hcell
        go_wp2_with (go_at_call 87; (with_reducible refine (HDG.out _).mono ?_); rintro e w' ⟨rfl, rfl⟩)
        go_ret2
        exact ⟨rfl, S6.out⟩
    · have hdi : (dg == (lng : Int)) = false := by simpa using hd
      have hdj : (dg != (lng : Int)) = true := by simpa using hd
      rw [decide_eq_false (fun h => hd h.1), if_neg (by simp)] at hA hQ
      simp only at hA hQ
      subst hA hQ
      clear hd
      go_enter Tryz.func35, Tryz.ntmps35
      go_wp2_with fail
      (with_reducible refine (HC.out _).mono ?_)
      rintro e w2 ⟨rfl, s2⟩
      have S2 := Lib.hid s2; clear s2
      go_wp2_with fail
      (with_reducible refine (HT.out _).mono ?_)
      rintro e w' ⟨rfl, rfl⟩
      go_wp2_with fail
      (with_reducible refine (new_any _).mono ?_)
      rintro e w3 ⟨rfl, f3, s3⟩
      obtain ⟨B, hB⟩ : ∃ B, B = w2.heap.size := ⟨_, rfl⟩
      rw [← hB] at f3 ⊢
      have HF3 := Lib.hid f3; have S3 := Lib.hid (S2.out.trans_nil s3)
      clear f3 s3 hB
      go_wp2_with fail
      (with_reducible refine (HLOC.out _ (HR.out.same S3.out)).mono ?_)
      rintro e w4 ⟨rfl, s4⟩
      have HF4 := Lib.hid (HF3.out.same s4 (by simp)); have S4 := Lib.hid (S3.out.trans_nil s4)
      clear s4
      go_wp2_with fail
      (with_reducible refine (HLR.out _ _ HF4.out).mono ?_)
      rintro e w5 ⟨rfl, s5⟩
      have HF5 := Lib.hid (HF4.out.same s5 (by simp)); have S5 := Lib.hid (S4.out.trans_nil s5)
      clear s5
      go_wp2_with fail
      (with_reducible refine (HWR.out _ _ HF5.out).mono ?_)
      rintro e w21 ⟨lv, rfl, ol, s6⟩
      have S6 := Lib.hid (S5.out.trans_nil s6)
      obtain ⟨ad, cc, rfl, hlc, hcm, hcell⟩ := ol.cells
      clear s6 ol hcell
      go_wp2_with (go_at_call 87; (with_reducible refine (HDG.out _).mono ?_); rintro e w' ⟨rfl, rfl⟩)
      go_ret2
      exact ⟨rfl, S6.out⟩
end Go.Proofs.YtpkpfebhdgbgbaaGreatDoor
