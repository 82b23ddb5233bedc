/- The walk of the law TopLearns. Condition: the table of the frame's sizes. -/
import Derived.Test.YtpkpfebhdgbgbaaGreatDoorL3
namespace Go.Proofs.YtpkpfebhdgbgbaaGreatDoor.L
open Go.RowKit
set_option linter.unusedSimpArgs false
set_option linter.unusedVariables false

def xD : List (Int × ByteArray) := [(9, ⟨#[120]⟩)]
theorem loop_new (z : Int) (g c : Nat) (W : World) (hg : g = W.heap.size) :
    Calls Tryz.prog 13 #[.slice (some ⟨g, 0, none⟩) 2 c] (W.alloc (.cells #[.int .i64 9, .string ⟨#[120]⟩, .int .i64 119, .string (D.slB z)] 39)) (Ret (.tuple #[.string (D.infoB z), .int .i64 0]) (W.alloc (.cells #[.int .i64 9, .string ⟨#[120]⟩, .int .i64 119, .string (D.slB z)] 39))) := by
  subst hg
  have h := heap_alloc_new W (.cells #[.int .i64 9, .string ⟨#[120]⟩, .int .i64 119, .string (D.slB z)] 39)
  exact D.loop_fn z W.heap.size c _ ((cell_of h 0).trans rfl) ((cell_of h 1).trans rfl) ((cell_of h 2).trans rfl) ((cell_of h 3).trans rfl)
theorem strs_new (b : Int) (info : ByteArray) (W : World) : S.StrsV (W.alloc (.cells #[.int .i64 6, .int .i64 20, .string ⟨#[]⟩, .int .i64 144, .int .i64 b, .string info] 53)) (.slice (some ⟨W.heap.size, 0, none⟩) 2 2) (strs b info) := by
  have h := heap_alloc_new W (.cells #[.int .i64 6, .int .i64 20, .string ⟨#[]⟩, .int .i64 144, .int .i64 b, .string info] 53)
  refine ⟨_, 2, rfl, Nat.le_refl _, fun k hk => ⟨_, rfl, rfl, ?_⟩⟩
  have hk2 : k = 0 ∨ k = 1 := by have : k < 2 := hk; omega
  rcases hk2 with rfl | rfl
  · exact ⟨(cell_of h 0).trans rfl, (cell_of h 1).trans rfl, (cell_of h 2).trans rfl⟩
  · exact ⟨(cell_of h 3).trans rfl, (cell_of h 4).trans rfl, (cell_of h 5).trans rfl⟩
theorem pmt_new {p b : Int} {info : ByteArray} (g c : Nat) (W : World) (hg : g = W.heap.size) (hc : c = 2) (hi : info.size ≤ 100) (p0 : 1 ≤ p) (p1 : p ≤ 60000) (d0 : 32 ≤ b) (d1 : b ≤ 8000) :
    Calls Tryz.prog 15 #[.agg #[.int .i64 p, .int .i64 0, .int .i64 8191, .string ⟨#[]⟩, .slice (some ⟨g, 0, none⟩) 2 c]] (W.alloc (.cells #[.int .i64 6, .int .i64 20, .string ⟨#[]⟩, .int .i64 144, .int .i64 b, .string info] 53))
      (Ret (.tuple #[.string (pmtSec p b info), .int .i64 0]) (W.alloc (.cells #[.int .i64 6, .int .i64 20, .string ⟨#[]⟩, .int .i64 144, .int .i64 b, .string info] 53))) := by
  subst hg hc
  have h := S.encodePmt_fn p 0 8191 ⟨#[]⟩ (strs b info) _ _ (strs_new b info W) (by show 2 ≤ 1000; decide) (by decide) (fun q hq => by
    unfold strs at hq
    simp only [List.mem_cons, List.not_mem_nil, or_false] at hq
    rcases hq with rfl | rfl
    · decide
    · show info.size ≤ 5000; omega)
  rw [pmt_is hi p0 p1 d0 d1] at h
  exact h
theorem strs_ne (b : Int) (info : ByteArray) (hb : 32 ≤ b) (j : Nat) (y : S.StrT) (hj : j < 1) (hy : (strs b info)[j]? = some y) : y.pid ≠ b := by
  obtain rfl : j = 0 := by omega
  cases hy
  show (20 : Int) ≠ b
  omega
theorem descs_ne (z : Int) (j : Nat) (y : Int × ByteArray) (hj : j < 1) (hy : (D.descs z)[j]? = some y) : y.1 ≠ 119 := by
  obtain rfl : j = 0 := by omega
  cases hy
  show (9 : Int) ≠ 119
  decide
theorem descs_few (z : Int) : (D.descs z).length ≤ 1000 := by show 2 ≤ 1000; decide
theorem descs_two (z : Int) : (D.descs z)[1]? = some (119, D.slB z) := rfl
theorem info_size (z : Int) : (D.infoB z).size = 8 := strOfNums_size _
theorem reads_pr (w : World) (x y : Int) : Reads (w.alloc (.cells #[.int .i64 x, .int .i64 y] 47)) 2 (.slice (some ⟨w.heap.size, 0, none⟩) 1 1) 1 (S.prV (x, y)) := S.reads_pr w x y
set_option maxRecDepth 100000 in
set_option maxHeartbeats 8000000 in
theorem topLearns_good (p a b c : Int) (n : Nat) (w : World) (ht : K.Tab w) (p0 : 1 ≤ p) (p1 : p ≤ 60000) (a0 : 32 ≤ a) (a1 : a ≤ 8000) (b0 : 32 ≤ b) (b1 : b ≤ 8000) (hab : a ≠ b) (c0 : 0 ≤ c) (c1 : c ≤ 3) (hn : n ≤ 20) :
    Calls Tryz.prog 4 #[.int .i64 p, .agg #[.int .i64 a, .int .i64 b], .agg #[.int .i64 c, .int .i64 n]] w (A.AwPost w) := by
  obtain ⟨i0, hi, hz0, hz1, hz2⟩ := info_parts S.Tryz.infoPr
  obtain ⟨R, z, hR, hz, hm, r0, r1, hh, b7, b8, b9⟩ := rows_ok c c0 c1
  have HMK := Lib.hid (fun W => D.make_fn R z W hm r0 r1 hh)
  have HRD := Lib.hid (fun W => D.read_fn R z W hz hm r0 r1 hh b7 b8 b9)
  clear hz hm r0 r1 hh b7 b8 b9
  have HS0 := Lib.hid (((Same.refl [] w).alloc (.cells #[.int .i64 a, .int .i64 b] 37)).alloc (.cells #[.int .i64 c, .int .i64 n] 37))
  have HTB := Lib.hid ht
  have hA := heap_alloc_new w (.cells #[.int .i64 a, .int .i64 b] 37)
  have hB := heap_alloc_new (w.alloc (.cells #[.int .i64 a, .int .i64 b] 37)) (.cells #[.int .i64 c, .int .i64 n] 37)
  rw [World.size_alloc] at hB
  have HL := Lib.hid (show ∀ W, Same [] ((w.alloc (.cells #[.int .i64 a, .int .i64 b] 37)).alloc (.cells #[.int .i64 c, .int .i64 n] 37)) W →
      W.cell? ⟨w.heap.size, 0, none⟩ = some (.int .i64 a) ∧ W.cell? ⟨w.heap.size, 1, none⟩ = some (.int .i64 b) ∧ W.cell? ⟨w.heap.size + 1, 0, none⟩ = some (.int .i64 c) ∧ W.cell? ⟨w.heap.size + 1, 1, none⟩ = some (.int .i64 n) ∧ w.heap.size + 1 < W.heap.size from
    fun W h => by
      have g1 := h.heap (((Same.refl [] _).alloc _).heap hA (by simp)) (by simp)
      have g2 := h.heap hB (by simp)
      exact ⟨(cell_of g1 0).trans rfl, (cell_of g1 1).trans rfl, (cell_of g2 0).trans rfl, (cell_of g2 1).trans rfl, heap_lt g2⟩)
  clear hA hB ht
  have e1 : decide (p < 1) = false := decide_eq_false (by omega)
  have e2 : decide (60000 < p) = false := decide_eq_false (by omega)
  have e3 : decide (a < 32) = false := decide_eq_false (by omega)
  have e4 : decide (8000 < a) = false := decide_eq_false (by omega)
  have e5 : decide (b < 32) = false := decide_eq_false (by omega)
  have e6 : decide (8000 < b) = false := decide_eq_false (by omega)
  have e7 : (a == b) = false := by simpa using hab
  have e8 : decide (c < 0) = false := decide_eq_false (by omega)
  have e9 : decide (3 < c) = false := decide_eq_false (by omega)
  have e10 : decide ((n : Int) < 0) = false := decide_eq_false (by omega)
  have e11 : decide (20 < (n : Int)) = false := decide_eq_false (by omega)
  have HN := Lib.hid hn; have HP := Lib.hid (And.intro p0 p1); have HAA := Lib.hid (And.intro a0 a1); have HBB := Lib.hid (And.intro b0 b1)
  go_enter Tryz.func4, Tryz.ntmps4
  go_wp2_with fail
  (with_reducible refine (HMK.out _).mono ?_)
  rintro e' w1 ⟨s1, rfl⟩
  have SB := Lib.hid s1
  clear s1 e1 e2 e3 e4 e5 e6 e7 e8 e9 e10 e11
  obtain ⟨k0, k1, k2, k3, hsz⟩ := HL.out _ SB.out
  go_wp2_with fail
  (with_reducible refine (loop_new z _ _ _ (by simp)).mono ?_)
  rintro e' w2 ⟨rfl, s2⟩
  have SB := Lib.hid (show Same [] ((w.alloc (.cells #[.int .i64 a, .int .i64 b] 37)).alloc (.cells #[.int .i64 c, .int .i64 n] 37)) w2 from Same.trans_nil (by repeat (first | exact SB.out | refine Same.alloc ?_ _)) s2)
  clear s2 k0 k1 k2 k3 hsz
  go_wp2_with fail
  go_loopw [11, 12] (fun s11 s12 wr => ∃ k : Nat, k ≤ n ∧ s12 = .int .i64 k ∧ wr.ownsRow w2.heap.size 47 2 s11 k (S.prL (others k)) ∧ Same [] w2 wr) (fun _ s12 _ => n - (intOf s12).toNat)
  case atStart => exact ⟨0, Nat.zero_le _, rfl, World.ownsRow_nil _ _ _ _, Same.refl _ _⟩
  case round =>
    obtain ⟨k, hk, rfl, hown, hsm⟩ := hrel
    have HO := Lib.hid hown; have HSM := Lib.hid hsm
    obtain ⟨k0, k1, k2, k3, hsz⟩ := HL.out _ (SB.out.trans_nil HSM.out)
    obtain ⟨ad, cp, rfl⟩ := S.own_form hown
    have hk20 : k ≤ 20 := by have := HN.out; omega
    have m1 : k + 1 ≤ maxLen := by unfold maxLen; omega
    have n9 : (k + 1) * 16 ≤ 140737488355328 := by omega
    clear hown hsm
    by_cases hlt : k < n
    · have hlt2 : (k : Int) < (n : Int) := by omega
      go_wp2_with (first | (at_builtin; refine wpList_append_src rfl (.tmp 111) (.tmp 117) 45 rfl w2.heap.size 47 i0 (.agg #[.int .i64 0, .int .i64 0]) 2 16 Tryz.underlying45 hi hz0 hz1 hz2 S.prZ_cells (by decide) _ k (S.prL (others k)) rfl (by exact HO.out.alloc _) _ 1 (S.prV ((60001 : Int) + (k : Int), (8100 : Int) + (k : Int))) rfl (by exact reads_pr wr ((60001 : Int) + (k : Int)) ((8100 : Int) + (k : Int))) (S.one_prV _) m1 n9 (by have h2 := HSM.out.size; rw [World.size_alloc]; omega) ?_; intro v' w5 hown hgrow hat; obtain ⟨ad7, cp7, rfl⟩ := S.own_form hown; have HOWN := Lib.hid hown; have HGR := Lib.hid hgrow; clear hown hgrow hat) | fail)
      go_roundw
      case rel =>
        refine ⟨k + 1, hlt, by go_num, ?_, ?_⟩
        · rw [others_succ, S.prL_snoc]; exact HOWN.out
        · exact Same.grown (S := []) (HSM.out.alloc _) HGR.out (fun q hq hlt => by have := (World.ownsRow.lt HO.out q hq).1; omega)
      case measure => simp [intOf]; omega
    · obtain rfl : k = n := by omega
      go_wp2_with (first | (at_builtin; refine wpList_append_src rfl (.tmp 119) (.tmp 124) 45 rfl w2.heap.size 47 i0 (.agg #[.int .i64 0, .int .i64 0]) 2 16 Tryz.underlying45 hi hz0 hz1 hz2 S.prZ_cells (by decide) _ k (S.prL (others k)) rfl (by exact HO.out.alloc _) _ 1 (S.prV (p, a)) rfl (by exact reads_pr wr p a) (S.one_prV _) m1 n9 (by have h2 := HSM.out.size; rw [World.size_alloc]; omega) ?_; intro v' w5 hown hgrow hat; obtain ⟨ad7, cp7, rfl⟩ := S.own_form hown; have HOWN := Lib.hid hown; have HGR := Lib.hid hgrow; clear hown hgrow hat) | fail)
      have hs5 := Same.grown (S := []) (HSM.out.alloc _) HGR.out (fun q hq hlt => by have := (World.ownsRow.lt HO.out q hq).1; omega)
      have SB := Lib.hid (SB.out.trans_nil hs5)
      have HPV : S.ProgsV w5 (.slice ad7 (k + 1) cp7) (progs k p a) := S.progs_of_own (by rw [progs_len]; unfold progs; rw [S.prL_snoc]; exact HOWN.out)
      have hpat := pat_is (n := k) HN.out HP.out.1 HP.out.2 HAA.out.1 HAA.out.2
      have HEN := Lib.hid (by have h9 := S.encodePat_fn 3 7 (progs k p a) _ w5 HPV (by rw [progs_len]; omega); rw [hpat] at h9; exact h9)
      have hgp := good_pat (n := k) (pr := p) (pid := a) HN.out
      have HG1 := Lib.hid hgp
      have HDP := Lib.hid (S.decPat_back hpat)
      have hpmt := pmt_is (info := D.infoB z) (by rw [info_size]; decide) HP.out.1 HP.out.2 HBB.out.1 HBB.out.2
      have HG2 := Lib.hid (good_pmt (pr := p) (pid := b) (info := D.infoB z) (by rw [info_size]; decide) HP.out.1 HP.out.2)
      have HDM := Lib.hid (S.decPmt_back hpmt)
      obtain ⟨s1, hs1⟩ : ∃ s, s = patSec k p a := ⟨_, rfl⟩
      obtain ⟨s2, hs2⟩ : ∃ s, s = pmtSec p b (D.infoB z) := ⟨_, rfl⟩
      have HPN := Lib.hid (fun W => pmt_new (p := p) (b := b) (info := D.infoB z) W.heap.size 2 W rfl rfl (by rw [info_size]; decide) HP.out.1 HP.out.2 HBB.out.1 HBB.out.2)
      rw [← hs1] at HEN HG1 HDP
      rw [← hs2] at HG2 HDM HPN
      clear hs5 HPV hpat hgp hpmt hs1 hs2 HOWN HGR HO HSM k0 k1 k2 k3 hsz m1 n9 hi hz0 hz1 hz2
      (with_reducible refine HEN.out.mono ?_)
      rintro e' w6 ⟨rfl, s6⟩
      have SB := Lib.hid (show Same [] ((w.alloc (.cells #[.int .i64 a, .int .i64 b] 37)).alloc (.cells #[.int .i64 c, .int .i64 k] 37)) w6 from Same.trans_nil (by repeat (first | exact SB.out | exact Same.refl _ _ | refine Same.drew ?_ | refine Same.alloc ?_ _)) s6)
      clear s6
      obtain ⟨k0, k1, k2, k3, hsz⟩ := HL.out _ SB.out
      have hq0 : w.heap.size ≠ w6.heap.size := by omega
      have hq2 : w.heap.size < w6.heap.size := by omega
      have hq1 : w.heap.size + 1 ≠ w6.heap.size := by omega
      go_wp2_with fail
      (with_reducible refine (HPN.out _).mono ?_)
      rintro e' w7 ⟨rfl, s7⟩
      have SB := Lib.hid (show Same [] ((w.alloc (.cells #[.int .i64 a, .int .i64 b] 37)).alloc (.cells #[.int .i64 c, .int .i64 k] 37)) w7 from Same.trans_nil (by repeat (first | exact SB.out | exact Same.refl _ _ | refine Same.drew ?_ | refine Same.alloc ?_ _)) s7)
      clear s7 k0 k1 k2 k3 hsz hq0 hq1 hq2
      obtain ⟨k0, k1, k2, k3, hsz⟩ := HL.out _ SB.out
      have hq0 : w.heap.size ≠ w7.heap.size := by omega
      have hq2 : w.heap.size < w7.heap.size := by omega
      have hq1 : w.heap.size + 1 ≠ w7.heap.size := by omega
      go_wp2_with fail
      (with_reducible refine (through_fn 0 s1 _ (by decide) (by decide) HG1.out.1 HG1.out.2).mono ?_)
      rintro e' w8 ⟨rfl, s8⟩
      have SB := Lib.hid (show Same [] ((w.alloc (.cells #[.int .i64 a, .int .i64 b] 37)).alloc (.cells #[.int .i64 c, .int .i64 k] 37)) w8 from Same.trans_nil (by repeat (first | exact SB.out | exact Same.refl _ _ | refine Same.drew ?_ | refine Same.alloc ?_ _)) s8)
      clear s8 k0 k1 k2 k3 hsz hq0 hq1 hq2
      obtain ⟨k0, k1, k2, k3, hsz⟩ := HL.out _ SB.out
      have hq0 : w.heap.size ≠ w8.heap.size := by omega
      have hq2 : w.heap.size < w8.heap.size := by omega
      have hq1 : w.heap.size + 1 ≠ w8.heap.size := by omega
      go_wp2_with fail
      (with_reducible refine (HDP.out _).mono ?_)
      rintro e' w9 ⟨s9, ad4, c4, rfl, hp4⟩
      have HP4 := Lib.hid hp4
      clear hp4
      have SB := Lib.hid (show Same [] ((w.alloc (.cells #[.int .i64 a, .int .i64 b] 37)).alloc (.cells #[.int .i64 c, .int .i64 k] 37)) w9 from Same.trans_nil (by repeat (first | exact SB.out | exact Same.refl _ _ | refine Same.drew ?_ | refine Same.alloc ?_ _)) s9)
      clear s9 k0 k1 k2 k3 hsz hq0 hq1 hq2
      obtain ⟨k0, k1, k2, k3, hsz⟩ := HL.out _ SB.out
      have hq0 : w.heap.size ≠ w9.heap.size := by omega
      have hq2 : w.heap.size < w9.heap.size := by omega
      have hq1 : w.heap.size + 1 ≠ w9.heap.size := by omega
      have HFP := Lib.hid (show ∀ W, Same [] w9 W → Calls Tryz.prog 18 #[.agg #[.int .i64 3, .int .i64 7, .slice ad4 (progs k p a).length c4], .int .i64 p] W (Ret (.tuple #[.int .i64 a, .int .i64 0]) W) from fun W h =>
        D.patFind 3 7 (progs k p a) _ W (HP4.out.same h) (by rw [progs_len]; have := HN.out; omega) p k (p, a) (progs_last k p a) (fun j y hj hy => by rw [progs_at k j hj p a] at hy; cases hy; show (60001 : Int) + (j : Int) ≠ p; have := HP.out; omega) rfl)
      go_wp2_with fail
      (with_reducible refine (HFP.out _ (by repeat (first | exact Same.refl _ _ | refine Same.alloc ?_ _))).mono ?_)
      rintro e' w10 ⟨rfl, s10⟩
      have SB := Lib.hid (show Same [] ((w.alloc (.cells #[.int .i64 a, .int .i64 b] 37)).alloc (.cells #[.int .i64 c, .int .i64 k] 37)) w10 from Same.trans_nil (by repeat (first | exact SB.out | exact Same.refl _ _ | refine Same.drew ?_ | refine Same.alloc ?_ _)) s10)
      clear s10 k0 k1 k2 k3 hsz hq0 hq1 hq2
      obtain ⟨k0, k1, k2, k3, hsz⟩ := HL.out _ SB.out
      have hq0 : w.heap.size ≠ w10.heap.size := by omega
      have hq2 : w.heap.size < w10.heap.size := by omega
      have hq1 : w.heap.size + 1 ≠ w10.heap.size := by omega
      have a0' : (0 : Int) ≤ a := by omega
      have haa : (a != a) = false := by simp
      go_wp2_with fail
      (with_reducible refine (through_fn a s2 _ a0' a1 HG2.out.1 HG2.out.2).mono ?_)
      rintro e' w11 ⟨rfl, s11⟩
      have SB := Lib.hid (show Same [] ((w.alloc (.cells #[.int .i64 a, .int .i64 b] 37)).alloc (.cells #[.int .i64 c, .int .i64 k] 37)) w11 from Same.trans_nil (by repeat (first | exact SB.out | exact Same.refl _ _ | refine Same.drew ?_ | refine Same.alloc ?_ _)) s11)
      clear s11 k0 k1 k2 k3 hsz hq0 hq1 hq2
      obtain ⟨k0, k1, k2, k3, hsz⟩ := HL.out _ SB.out
      have hq0 : w.heap.size ≠ w11.heap.size := by omega
      have hq2 : w.heap.size < w11.heap.size := by omega
      have hq1 : w.heap.size + 1 ≠ w11.heap.size := by omega
      go_wp2_with fail
      (with_reducible refine (HDM.out _).mono ?_)
      rintro e' w12 ⟨s12, ad5, c5, rfl, hp5⟩
      have HP5 := Lib.hid hp5
      clear hp5
      have SB := Lib.hid (show Same [] ((w.alloc (.cells #[.int .i64 a, .int .i64 b] 37)).alloc (.cells #[.int .i64 c, .int .i64 k] 37)) w12 from Same.trans_nil (by repeat (first | exact SB.out | exact Same.refl _ _ | refine Same.drew ?_ | refine Same.alloc ?_ _)) s12)
      clear s12 k0 k1 k2 k3 hsz hq0 hq1 hq2
      obtain ⟨k0, k1, k2, k3, hsz⟩ := HL.out _ SB.out
      have hq0 : w.heap.size ≠ w12.heap.size := by omega
      have hq2 : w.heap.size < w12.heap.size := by omega
      have hq1 : w.heap.size + 1 ≠ w12.heap.size := by omega
      have HFM := Lib.hid (show ∀ W, Same [] w12 W → Calls Tryz.prog 20 #[.agg #[.int .i64 p, .int .i64 0, .int .i64 8191, .string ⟨#[]⟩, .slice ad5 (strs b (D.infoB z)).length c5], .int .i64 b] W (Ret (.tuple #[.agg #[.int .i64 144, .int .i64 b, .string (D.infoB z)], .int .i64 0]) W) from fun W h =>
        D.pmtFind p 0 8191 ⟨#[]⟩ (strs b (D.infoB z)) _ W (HP5.out.same h) (by show 2 ≤ 1000; decide) b 1 ⟨144, b, D.infoB z⟩ rfl (strs_ne b (D.infoB z) HBB.out.1) rfl)
      go_wp2_with fail
      (with_reducible refine (HFM.out _ (by repeat (first | exact Same.refl _ _ | refine Same.alloc ?_ _))).mono ?_)
      rintro e' w13 ⟨rfl, s13⟩
      have SB := Lib.hid (show Same [] ((w.alloc (.cells #[.int .i64 a, .int .i64 b] 37)).alloc (.cells #[.int .i64 c, .int .i64 k] 37)) w13 from Same.trans_nil (by repeat (first | exact SB.out | exact Same.refl _ _ | refine Same.drew ?_ | refine Same.alloc ?_ _)) s13)
      clear s13 k0 k1 k2 k3 hsz hq0 hq1 hq2
      obtain ⟨k0, k1, k2, k3, hsz⟩ := HL.out _ SB.out
      have hq0 : w.heap.size ≠ w13.heap.size := by omega
      have hq2 : w.heap.size < w13.heap.size := by omega
      have hq1 : w.heap.size + 1 ≠ w13.heap.size := by omega
      have HTB3 := Lib.hid (heap_alloc_new w13 (.cells #[.int .i64 144, .int .i64 b, .string (D.infoB z)] 53))
      go_wp2_with fail
      (with_reducible refine (D.parse_fn z _).mono ?_)
      rintro e' w14 ⟨s14, v14, rfl, hd⟩
      have HD := Lib.hid hd
      have HT4 := Lib.hid (s14.heap HTB3.out (by simp))
      clear hd
      have SB := Lib.hid (show Same [] ((w.alloc (.cells #[.int .i64 a, .int .i64 b] 37)).alloc (.cells #[.int .i64 c, .int .i64 k] 37)) w14 from Same.trans_nil (by repeat (first | exact SB.out | exact Same.refl _ _ | refine Same.drew ?_ | refine Same.alloc ?_ _)) s14)
      clear s14 k0 k1 k2 k3 hsz hq0 hq1 hq2
      obtain ⟨k0, k1, k2, k3, hsz⟩ := HL.out _ SB.out
      have hq0 : w.heap.size ≠ w14.heap.size := by omega
      have hq2 : w.heap.size < w14.heap.size := by omega
      have hq1 : w.heap.size + 1 ≠ w14.heap.size := by omega
      go_wp2_with fail
      (with_reducible refine (D.descrFind (D.descs z) v14 _ HD.out (descs_few z) 119 1 (119, D.slB z) (descs_two z) (descs_ne z) rfl).mono ?_)
      rintro e' w15 ⟨rfl, s15⟩
      have HT5 := Lib.hid (s15.heap HT4.out (by simp))
      have SB := Lib.hid (show Same [] ((w.alloc (.cells #[.int .i64 a, .int .i64 b] 37)).alloc (.cells #[.int .i64 c, .int .i64 k] 37)) w15 from Same.trans_nil (by repeat (first | exact SB.out | exact Same.refl _ _ | refine Same.drew ?_ | refine Same.alloc ?_ _)) s15)
      clear s15 k0 k1 k2 k3 hsz hq0 hq1 hq2
      obtain ⟨k0, k1, k2, k3, hsz⟩ := HL.out _ SB.out
      have hq0 : w.heap.size ≠ w15.heap.size := by omega
      have hq2 : w.heap.size < w15.heap.size := by omega
      have hq1 : w.heap.size + 1 ≠ w15.heap.size := by omega
      go_wp2_with fail
      have HT5' := Lib.hid (((Same.refl [] w15).alloc (.cells #[.int .i64 119, .string (D.slB z)] 39)).heap HT5.out (by simp))
      (with_reducible refine (HRD.out _).mono ?_)
      rintro e' w16 ⟨s16, he⟩
      unfold D.sliceV at he
      subst he
      have ht6 := s16.heap HT5'.out (by simp)
      have t0 := cell_of ht6 0
      simp only [List.getElem?_toArray, List.getElem?_cons_zero, List.getElem?_cons_succ] at t0
      have htl := heap_lt ht6
      have htb : w13.heap.size ≠ w16.heap.size := by omega
      clear ht6
      have SB := Lib.hid (show Same [] ((w.alloc (.cells #[.int .i64 a, .int .i64 b] 37)).alloc (.cells #[.int .i64 c, .int .i64 k] 37)) w16 from Same.trans_nil (by repeat (first | exact SB.out | exact Same.refl _ _ | refine Same.drew ?_ | refine Same.alloc ?_ _)) s16)
      clear s16 k0 k1 k2 k3 hsz hq0 hq1 hq2
      obtain ⟨k0, k1, k2, k3, hsz⟩ := HL.out _ SB.out
      have hq0 : w.heap.size ≠ w16.heap.size := by omega
      have hq2 : w.heap.size < w16.heap.size := by omega
      have hq1 : w.heap.size + 1 ≠ w16.heap.size := by omega
      have hRR : (R == R) = true := by simp
      go_wp2_with (go_at_call 7; (with_reducible refine (A.awakeT _ (HTB.out.same (HS0.out.trans_nil (by repeat (first | exact SB.out | refine Same.alloc ?_ _))) (by simp))).mono ?_); rintro e' w17 ⟨rfl, hs⟩; have HS17 := Lib.hid hs; clear hs)
      go_ret
      exact ⟨rfl, HS0.out.trans_nil (Same.trans_nil (by repeat (first | exact SB.out | refine Same.alloc ?_ _)) HS17.out)⟩
/-- The walk: whatever numbers, it answers true. -/
theorem topLearns_any (p a b c d : Int) (w : World) (ht : K.Tab w) :
    Calls Tryz.prog 4 #[.int .i64 p, .agg #[.int .i64 a, .int .i64 b], .agg #[.int .i64 c, .int .i64 d]] w (A.AwPost w) := by
  by_cases h : OutR p a b c d
  · exact topLearns_bad p a b c d w ht h
  · unfold OutR at h
    obtain ⟨n, rfl⟩ : ∃ n : Nat, d = n := ⟨d.toNat, by omega⟩
    exact topLearns_good p a b c n w ht (by omega) (by omega) (by omega) (by omega) (by omega) (by omega) (by omega) (by omega) (by omega) (by omega)
end Go.Proofs.YtpkpfebhdgbgbaaGreatDoor.L
